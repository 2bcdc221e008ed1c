/- A part of our logic over the resolved code, or of a proof in it. -/
import Derived.Test.YtdajenjajmofiaaGreatDoorFslDraw4
set_option linter.unusedSimpArgs false
set_option linter.unusedVariables false
namespace Go.Fsl
variable {P : Program} {n : Nat} {ro : Option Nat} {base : Nat}

theorem run_getLoop {w : World} {l : Nat} {r : Loop} (h : w.heap[l]? = some (.loop r)) : (Instr.getLoop l).run P w = .ok r w := by
  simp [Instr.getLoop, Sem.run_bind, run_getObj (P := P) h (by intros; simp)]

theorem wpIn_scope {F : Fence} {m : Nat} {c : Code} {Q : Exit → Act → World → Prop} {a : Act} {w : World} (h : c.wpIn F m P Q a w) (hq : ∀ l a w, ¬ Q (.goto l) a w) : (Code.scope c).wpIn F m P Q a w := by
  intro b k cs hro hb hr
  have h0 : (lone (b.atR a (.code (.scope c) :: k)) cs w).fenced P F := fenced_calm hb hr rfl
  have s0 : step P (lone (b.atR a (.code (.scope c) :: k)) cs w) = .next (lone (b.atR a (.code c :: .inScope c :: k)) cs w) :=
    step_lone_go (by simp [stepG, stepG.exec, Frame.atR])
  have s1 : ∀ (a' : Act) (w' : World), step P (lone (b.atR a' (.inScope c :: k)) cs w') = .next (lone (b.atR a' k) cs w') := fun a' w' =>
    step_lone_go (by simp [stepG, stepG.exec, Frame.atR])
  obtain ⟨e, a₁, w₁, hq1, harr⟩ := h b (.inScope c :: k) cs hro hb hr
  cases e with
  | normal => exact ⟨.normal, a₁, w₁, hq1, .head h0 s0 (StepsIn.trans harr (.one (fenced_calm hb hr rfl) (s1 _ _)))⟩
  | exit id =>
    have hx : exitTo id (.inScope c :: k) = exitTo id k := by simp [exitTo]
    exact ⟨.exit id, a₁, w₁, hq1, fun k' hk => .head h0 s0 (harr.1 k' (by rw [hx]; exact hk)),
      fun hr' hk => let ⟨k₁, h1, h2⟩ := harr.2 hr' (by rw [hx]; exact hk); ⟨k₁, h1, .head h0 s0 h2⟩⟩
  | goto l => exact absurd hq1 (hq _ _ _)
  | ret => exact ⟨_, a₁, w₁, hq1, .of_steps (.one h0 s0) harr⟩
  | panic ch => exact ⟨_, a₁, w₁, hq1, .of_steps (.one h0 s0) harr⟩
  | outgrown => exact ⟨_, a₁, w₁, hq1, .of_steps (.one h0 s0) harr⟩

theorem range_in {f : Operand} {ps : Array Tmp} {ca cb : Code} {rf : RO} {asg body : RCode} (h1 : rO f = some rf) (h2 : rCode P ca = some asg) (h3 : rCode P cb = some body)
    (hok : okCode n (.rangef rf ps.toList asg body) = true) {F : Fz} {w : World} {H : Heap} {τ : Tmps} {a : Act} {Q : X → Tmps → Heap → Prop} (hbase : base ≤ w.heap.size)
    (hR : Rel P F w H) (hT : TR F w n τ a.tmps) (hM : Mk base w H a.defers) (h : wp P (M P) ro n (.rangef rf ps.toList asg body) τ H Q) :
    (Code.rangeFunc f ps ca cb).wpIn (FO ro) 0 P (CP P n base F w H Q) a w := by
  simp only [okCode, Bool.and_eq_true, List.all_eq_true, decide_eq_true_eq] at hok
  obtain ⟨⟨⟨k1, k2⟩, k3⟩, k4⟩ := hok
  have e1 := ev_vr hT h1 k1
  simp only [wp] at h
  split at h
  · rename_i g caps hd
    rw [hd] at e1
    obtain ⟨u, hu, hu'⟩ := VRs.of_fn e1
    obtain ⟨hl0, h⟩ := h
    -- from the record's laying on
    have main : ∀ (fn : FuncId) (dfs : Nat) (mark : List Deferred) (wa : World), (Instr.enterLoop fn a.tmps ps ca cb ro).run P w = (do pure (← newObj (.loop { state := .ready, pending := none, fn, tmps := a.tmps, params := ps, assign := ca, body := cb, defers := dfs }), mark) : Sem (Nat × List Deferred)).run P wa →
        Rel P F wa H → Step F w H F wa H → Mk base wa H (mark ++ a.defers) → ∃ (l : Nat) (mark : List Deferred) (w₁ : World) (d : Deferred) (w₁' : World) (f' : FuncId) (args : Array Value) (w₂ : World),
      (Instr.enterLoop fn a.tmps ps ca cb (FO ro).round).run P w = .ok (l, mark) w₁ ∧
      (resolve a.eval (rangeCall f l) 0).run P w₁ = .ok d w₁' ∧
      (∀ f', Target.leads P w₁' d.target d.args = some f' → (FO ro).fn f') ∧
      (invoke d.target d.args).run P w₁' = .ok (.enter f' args) w₂ ∧
      ((FO ro).depth.isSome = true → 1 ≤ 0) ∧
      CallsIn (FO ro) (0 - 1) P f' args w₂ (rangePost (FO ro) 0 P l (CP P n base F w H Q) { a with defers := mark ++ a.defers }) := by
      intro fn dfs mark wa hrun hRa hSa hMa
      let rec0 : Loop := { state := .ready, pending := none, fn, tmps := a.tmps, params := ps, assign := ca, body := cb, defers := dfs }
      let l := wa.heap.size
      let w1 := wa.alloc (.loop rec0)
      have hnl : H l = none := hRa.none_of_ge (Nat.le_refl _)
      have hTa : TR F wa n τ a.tmps := hT.mono hSa.sub hSa.keep
      have hp := hRa.push (w' := w1) (x := .loop rec0) rfl (o := .loop .ready none τ n ps.toList asg body) (by
        have hkk : KeepF F wa w1 := fun b i v _ hv => by
          have hlt := World.block_lt_of_cell? wa _ hv
          exact (cell_congr (heap_alloc_old wa _ hlt)).trans hv
        exact ⟨rec0, heap_alloc_new wa _, rfl, rfl, by simp [rec0], h2, h3, hT.1, k3, k4, fun p hp => k2 p hp, fun t ht => (hTa.2 t ht).mono (SubF.refl F) hkk⟩)
      have hm := h l hnl
      obtain ⟨hRp, hSp⟩ := hp
      have hu1 : VRs F w1 caps u := hu'.mono (SubF.refl F) (hSa.keep.trans hSa.sub hSp.keep)
      have hv : VRs F w1 (.v (.func (.yield l) #[] #[]) :: caps) (.func (.yield l) #[] #[] :: u) := hu1.cons (.v _)
      obtain ⟨⟨fd, q1, q2, q3⟩, hcall⟩ := hm F w1 _ hRp hv
      have hcf := run_callFunc q1 q2 q3 (.func (.yield l) #[] #[] :: u).toArray w1
      refine ⟨l, mark, w1, { target := .fn (.func g) u.toArray, args := #[.func (.yield l) #[] #[]] }, w1, g, (.func (.yield l) #[] #[] :: u).toArray, w1, ?_, ?_, fun _ _ => trivial, ?_, fun h => by simp [FO, Fence.wide] at h, ?_⟩
      · show (Instr.enterLoop fn a.tmps ps ca cb ro).run P w = _
        rw [hrun]
        simp [l, w1, rec0]
      · simp only [resolve, rangeCall, hu, Deferred.ofValue, Sem.run_pure]
        simp [Act.eval]
      · simp only [invoke]
        simpa using hcf
      · refine CallsIn.mono (F := FO ro) hcall fun e w3 hpost => ?_
        cases e with
        | returned v =>
          obtain ⟨d, H', F', s1, s2, _, st, pend, τ', n', ps', asg', body', g1, g2, g3⟩ := hpost
          obtain ⟨r, b1, b2, b3, _⟩ := s2.own l _ g1
          -- the statement's end
          have hbusy : (r.state == LoopState.busy) = false := by
            rw [b2]
            cases st <;> first | rfl | exact absurd rfl g2
          let y : Obj := .loop { r with state := .exhausted }
          let w4 : World := { w3 with heap := w3.heap.setIfInBounds l y }
          have hset := run_setObj (P := P) (y := y) b1 (by intros; simp)
          have hend : (Instr.endLoop l).run P w3 = .ok r.pending w4 := by
            simp only [Instr.endLoop, Sem.run_bind, run_getLoop (P := P) b1, Result.andThen_ok, hbusy, Bool.false_eq_true, if_false]
            simp only [Sem.run_pure, Result.andThen_ok]
            rw [hset]; rfl
          have hera : (H'.era l) l = none := by simp [Heap.era]
          obtain ⟨hR4, hK4⟩ := (s2.sub (HSub.era H' l)).other (w' := w4) hera b1 (by intros; simp) rfl
          have hS3 : Step F w H F' w3 (H'.era l) := by
            -- the step from w to w3, the record dropped
            have t1 : Step F w H F' w3 H' := (hSa.trans hSp).trans s1
            exact t1.trans (Step.subH F' w3 (HSub.era H' l))
          have hS4 : Step F w H F' w4 (H'.era l) := hS3.other (by show w.heap.size ≤ l; exact hSa.size) rfl hK4
          have hT4 : TR F' w4 n τ a.tmps := hT.mono hS4.sub hS4.keep
          have hM4 : Mk base w4 (H'.era l) (mark ++ a.defers) := by
            refine hMa.turn fun r' _ hr1 hr2 => ?_
            have hlt := (Array.getElem?_eq_some_iff.1 hr1).1
            have hne : r' ≠ l := by show r' ≠ wa.heap.size; omega
            have hn1 : (H.ins l (.loop .ready none τ n ps.toList asg body)) r' = none := by rw [Heap.ins_other _ _ hne]; exact hr2
            have hlt1 : r' < w1.heap.size := Nat.lt_of_lt_of_le hlt hSp.size
            refine ⟨?_, ?_⟩
            · show (w3.heap.setIfInBounds l y)[r']? = _
              rw [Array.getElem?_setIfInBounds_ne (Ne.symm hne), s1.rest r' hlt1 hn1, hSp.rest r' hlt hr2]
              exact hr1
            · have := s1.dom r' hlt1 hn1
              simp [Heap.era, this]
          have hfin : ∀ x, x = pend.getD .n → CP P n base F w H Q x.exit { a with defers := mark ++ a.defers } w4 := by
            rintro x rfl
            exact ⟨pend.getD .n, τ, H'.era l, F', rfl, hS4, hR4, hT4, hM4, g3⟩
          refine ⟨r.pending, w4, hend, ?_⟩
          rw [b3]
          cases pend with
          | none => exact hfin .n rfl
          | some x =>
            cases x with
            | n => exact hfin .n rfl
            | x id => exact wpIn_exit (hfin (.x id) rfl)
            | r => exact wpIn_ret (hfin .r rfl)
        | panicked c => exact hpost.elim
        | outgrown => exact hpost.elim
    refine wpIn_rangeFunc fun fn _ => ?_
    cases ro with
    | some l0 =>
      obtain ⟨st, pend, τ0, n0, ps0, asg0, body0, hl⟩ := hl0 l0 rfl
      obtain ⟨r, b1, _⟩ := hR.own l0 _ hl
      refine main fn r.defers [] w ?_ hR (Step.refl F w H) hM
      simp only [Instr.enterLoop, Sem.run_bind, run_getLoop (P := P) b1, Result.andThen_ok, Sem.run_pure]
    | none =>
      let wa := w.alloc (.deferred (some []))
      obtain ⟨hRa, hSa⟩ := hR.pushOther (w' := wa) (x := .deferred (some [])) rfl
      refine main fn w.heap.size [{ target := .collected w.heap.size, args := #[] }] wa ?_ hRa hSa ?_
      · simp [Instr.enterLoop, wa]
      · refine ⟨⟨w.heap.size, rfl, hbase, heap_alloc_new w _, hR.none_of_ge (Nat.le_refl _), hM.notIn (Nat.le_refl _)⟩, hM.step hSa⟩
  · exact h.elim

theorem code_in (hm : P.follows .mixedOrders = true) : ∀ (c : Code) (rc : RCode), rCode P c = some rc → okCode n rc = true → ∀ (F : Fz) (w : World) (H : Heap) (τ : Tmps) (a : Act) (Q : X → Tmps → Heap → Prop), base ≤ w.heap.size →
    Rel P F w H → TR F w n τ a.tmps → Mk base w H a.defers → wp P (M P) ro n rc τ H Q → c.wpIn (FO ro) 0 P (CP P n base F w H Q) a w
  | .skip, rc, hr, hok, F, w, H, τ, a, Q, hb, hR, hT, hM, h => by
    simp only [rCode] at hr
    cases hr
    exact wpIn_skip ⟨.n, τ, H, F, rfl, Step.refl F w H, hR, hT, hM, h⟩
  | .label l, rc, hr, hok, F, w, H, τ, a, Q, hb, hR, hT, hM, h => by
    simp only [rCode] at hr
    cases hr
    exact wpIn_label ⟨.n, τ, H, F, rfl, Step.refl F w H, hR, hT, hM, h⟩
  | .exit id, rc, hr, hok, F, w, H, τ, a, Q, hb, hR, hT, hM, h => by
    simp only [rCode] at hr
    cases hr
    exact wpIn_exit ⟨.x id, τ, H, F, rfl, Step.refl F w H, hR, hT, hM, h⟩
  | .ret, rc, hr, hok, F, w, H, τ, a, Q, hb, hR, hT, hM, h => by
    simp only [rCode] at hr
    cases hr
    exact wpIn_ret ⟨.r, τ, H, F, rfl, Step.refl F w H, hR, hT, hM, h⟩
  | .goto l, rc, hr, _, _, _, _, _, _, _, _, _, _, _, h => by
    simp only [rCode] at hr
    cases hr
    exact h.elim
  | .refuse s, rc, hr, _, _, _, _, _, _, _, _, _, _, _, h => by
    simp only [rCode] at hr
    cases hr
    exact h.elim
  | .region id ops false, rc, hr, hok, F, w, H, τ, a, Q, hb, hR, hT, hM, h => by
    simp only [rCode, Option.map_eq_some_iff] at hr
    obtain ⟨rl, hl, rfl⟩ := hr
    refine wpIn_region_list (ops_in ops.toList rl hl hok F w H τ a _ hR hT hM h fun e a' w' hc => ?_)
    obtain ⟨x, τ', H', F', g1, g2, g3, g4, g5, g6, g7⟩ := hc
    subst g6
    exact ⟨.n, τ', H', F', g1, g2, g3, g4, g5, g7⟩
  | .region id ops true, rc, hr, hok, F, w, H, τ, a, Q, hb, hR, hT, hM, h => by
    simp only [rCode, Option.map_eq_some_iff] at hr
    obtain ⟨rl, hl, rfl⟩ := hr
    refine wpIn_mono (region_draw hm hl hok hR hT hM h) fun e a' w' hc => ?_
    obtain ⟨x, τ', H', F', g1, g2, g3, g4, g5, g6, g7⟩ := hc
    subst g6
    exact ⟨.n, τ', H', F', g1, g2, g3, g4, g5, g7⟩
  | .seq c d, rc, hr, hok, F, w, H, τ, a, Q, hb, hR, hT, hM, h => by
    simp only [rCode, Option.bind_eq_bind, Option.bind_eq_some_iff, Option.pure_def, Option.some.injEq] at hr
    obtain ⟨rc, h1, rd, h2, rfl⟩ := hr
    simp only [okCode, Bool.and_eq_true] at hok
    refine wpIn_seq (wpIn_mono (code_in hm c rc h1 hok.1 F w H τ a _ hb hR hT hM h) fun e a' w' hc => ?_)
    obtain ⟨x, τ', H', F', g1, g2, g3, g4, g5, g6⟩ := hc
    subst g1
    cases x with
    | n => exact wpIn_mono (code_in hm d rd h2 hok.2 F' w' H' τ' a' Q (Nat.le_trans hb g2.size) g3 g4 g5 g6) fun e a'' w'' hc => hc.pre g2
    | x id => exact ⟨.x id, τ', H', F', rfl, g2, g3, g4, g5, g6⟩
    | r => exact ⟨.r, τ', H', F', rfl, g2, g3, g4, g5, g6⟩
  | .cond x c d, rc, hr, hok, F, w, H, τ, a, Q, hb, hR, hT, hM, h => by
    simp only [rCode, Option.bind_eq_bind, Option.bind_eq_some_iff, Option.pure_def, Option.some.injEq] at hr
    obtain ⟨rx, h0, rc, h1, rd, h2, rfl⟩ := hr
    simp only [okCode, Bool.and_eq_true] at hok
    have e1 := ev_vr hT h0 hok.1.1
    simp only [wp] at h
    split at h
    · rename_i t ht
      rw [ht] at e1
      generalize hvx : a.eval x = vx at *
      cases e1
      cases t with
      | true => exact wpIn_cond_true hvx (code_in hm c rc h1 hok.1.2 F w H τ a Q hb hR hT hM (by simpa using h))
      | false => exact wpIn_cond_false hvx (code_in hm d rd h2 hok.2 F w H τ a Q hb hR hT hM (by simpa using h))
    · exact h.elim
  | .block id c, rc, hr, hok, F, w, H, τ, a, Q, hb, hR, hT, hM, h => by
    simp only [rCode, Option.map_eq_some_iff] at hr
    obtain ⟨rc, h1, rfl⟩ := hr
    simp only [okCode] at hok
    refine wpIn_block (wpIn_mono (code_in hm c rc h1 hok F w H τ a _ hb hR hT hM h) fun e a' w' hc => ?_)
    obtain ⟨x, τ', H', F', g1, g2, g3, g4, g5, g6⟩ := hc
    subst g1
    cases x with
    | n => exact ⟨.n, τ', H', F', rfl, g2, g3, g4, g5, g6⟩
    | x id' =>
      simp only at g6
      simp only [X.exit, Exit.inBlock]
      split at g6
      · rename_i hid
        rw [if_pos hid]
        exact ⟨.n, τ', H', F', rfl, g2, g3, g4, g5, g6⟩
      · rename_i hid
        rw [if_neg hid]
        exact ⟨.x id', τ', H', F', rfl, g2, g3, g4, g5, g6⟩
    | r => exact ⟨.r, τ', H', F', rfl, g2, g3, g4, g5, g6⟩
  | .loop c, rc, hr, hok, F, w, H, τ, a, Q, hb, hR, hT, hM, h => by
    simp only [rCode, Option.map_eq_some_iff] at hr
    obtain ⟨rc, h1, rfl⟩ := hr
    simp only [okCode] at hok
    obtain ⟨I, k, hI, hround⟩ := h
    refine wpIn_loop_ghost (fun k a1 w1 => ∃ τ1 H1 F1, Step F w H F1 w1 H1 ∧ Rel P F1 w1 H1 ∧ TR F1 w1 n τ1 a1.tmps ∧ Mk base w1 H1 a1.defers ∧ I k τ1 H1) k ⟨τ, H, F, Step.refl F w H, hR, hT, hM, hI⟩ ?_
    rintro k a1 w1 ⟨τ1, H1, F1, s1, s2, s3, s4, s5⟩
    refine wpIn_mono (code_in hm c rc h1 hok F1 w1 H1 τ1 a1 _ (Nat.le_trans hb s1.size) s2 s3 s4 (hround k τ1 H1 s5)) fun e a' w' hc => ?_
    obtain ⟨x, τ', H', F', g1, g2, g3, g4, g5, g6⟩ := hc
    subst g1
    cases x with
    | n =>
      obtain ⟨k', H2, hlt, hsub, hi⟩ := g6
      exact ⟨k', hlt, τ', H2, F', s1.trans (g2.trans (Step.subH F' w' hsub)), g3.sub hsub, g4, g5.step (Step.subH F' w' hsub), hi⟩
    | x id => exact ⟨.x id, τ', H', F', rfl, s1.trans g2, g3, g4, g5, g6⟩
    | r => exact ⟨.r, τ', H', F', rfl, s1.trans g2, g3, g4, g5, g6⟩
  | .rangeFunc f ps ca cb, rc, hr, hok, F, w, H, τ, a, Q, hb, hR, hT, hM, h => by
    simp only [rCode, Option.bind_eq_bind, Option.bind_eq_some_iff, Option.pure_def, Option.some.injEq] at hr
    obtain ⟨rf, h0, asg, h1, body, h2, rfl⟩ := hr
    exact range_in h0 h1 h2 hok hb hR hT hM h
  | .scope c, rc, hr, hok, F, w, H, τ, a, Q, hb, hR, hT, hM, h => by
    simp only [rCode, Option.map_eq_some_iff] at hr
    obtain ⟨rc, h1, rfl⟩ := hr
    simp only [okCode] at hok
    refine wpIn_scope (code_in hm c rc h1 hok F w H τ a Q hb hR hT hM h) fun l a' w' hc => ?_
    obtain ⟨x, τ', H', F', g1, _⟩ := hc
    cases x <;> cases g1

end Go.Fsl
