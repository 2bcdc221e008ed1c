/- A part of our logic over the resolved code, or of a proof in it. -/
import Derived.Test.YtdajenjajmofiaaGreatDoorFslSound14
set_option linter.unusedSimpArgs false
set_option linter.unusedVariables false
namespace Go.Fsl
variable {P : Program} {n : Nat} {base : Nat}

/-! ### results -/
def resSem (tmps : Array Value) : ResultVar → Sem Value
  | .tmp t => pure (tmps.getD t undef)
  | .cell a t => do loadVar t (← asAddr (tmps.getD a undef))
theorem results_eq (fd : Func) (tmps : Array Value) : results fd tmps = (do
    let vs ← fd.results.mapM (resSem tmps)
    pure (if h : vs.size = 1 then vs[0] else .tuple vs)) := rfl

theorem resOne_in {F : Fz} {w : World} {H : Heap} {τ : Tmps} {tmps : Array Value} (hR : Rel P F w H) (hT : TR F w n τ tmps) {rv : ResultVar} {rr : RRes} (h : rRes P rv = some rr) (hok : okRRes n rr = true) {d : D}
    (hd : resOne τ H rr = some d) : ∃ v, (resSem tmps rv).run P w = .ok v w ∧ VR F w d v := by
  cases rv with
  | tmp t =>
    simp only [rRes] at h
    cases h
    simp only [resOne] at hd
    cases hd
    exact ⟨_, rfl, hT.2 t (by simpa [okRRes] using hok)⟩
  | cell a t =>
    simp only [rRes, Option.bind_eq_bind, Option.bind_eq_some_iff, Option.pure_def, Option.some.injEq] at h
    obtain ⟨g, hg, k, hk, rfl⟩ := h
    have hv := hT.2 a (by simpa [okRRes] using hok)
    simp only [resOne] at hd
    split at hd
    · rename_i b off heq
      rw [heq] at hv
      generalize hva : tmps.getD a undef = va at *
      cases hv
      split at hd
      · rename_i cs frz room hb
        obtain ⟨u, hu⟩ := hR.cellsAt hb
        obtain ⟨v, h1, h2⟩ := load_at (o := 0) (off := off) u (fun i h => by simpa using hu i h) hg hk hd
        refine ⟨v, ?_, h2⟩
        simp only [Nat.zero_add] at h1
        simp [resSem, asAddr, hva, h1]
      · cases hd
    · cases hd

theorem res_list {F : Fz} {w : World} {H : Heap} {τ : Tmps} {tmps : Array Value} (hR : Rel P F w H) (hT : TR F w n τ tmps) : ∀ (rvs : List ResultVar) (rrs : List RRes) (ds : List D), rvs.mapM (rRes P) = some rrs → rrs.all (okRRes n) = true →
    rrs.mapM (resOne τ H) = some ds → ∃ vs, (rvs.mapM (resSem tmps)).run P w = .ok vs w ∧ VRs F w ds vs := by
  intro rvs
  induction rvs with
  | nil =>
    intro rrs ds h1 _ h3
    simp at h1
    subst h1
    simp at h3
    subst h3
    exact ⟨[], by simp, VRs.nil F w⟩
  | cons rv rvs ih =>
    intro rrs ds h1 h2 h3
    rw [List.mapM_cons] at h1
    simp only [Option.bind_eq_bind, Option.bind_eq_some_iff, Option.pure_def, Option.some.injEq] at h1
    obtain ⟨rr, h1, rrs, h1', rfl⟩ := h1
    rw [List.mapM_cons] at h3
    simp only [Option.bind_eq_bind, Option.bind_eq_some_iff, Option.pure_def, Option.some.injEq] at h3
    obtain ⟨d, h3, ds, h3', rfl⟩ := h3
    simp only [List.all_cons, Bool.and_eq_true] at h2
    obtain ⟨v, e1, e2⟩ := resOne_in hR hT h1 h2.1 h3
    obtain ⟨vs, e3, e4⟩ := ih rrs ds h1' h2.2 h3'
    refine ⟨v :: vs, ?_, e4.cons e2⟩
    rw [List.mapM_cons, Sem.run_bind, e1]
    simp only [Result.andThen_ok]
    rw [Sem.run_bind, e3]
    rfl

theorem results_in {F : Fz} {w : World} {H : Heap} {τ : Tmps} {tmps : Array Value} (hR : Rel P F w H) (hT : TR F w n τ tmps) {fd : Func} {rrs : List RRes} (h1 : fd.results.toList.mapM (rRes P) = some rrs) (h2 : rrs.all (okRRes n) = true)
    {d : D} (h3 : resD τ H rrs = some d) : ∃ v, (results fd tmps).run P w = .ok v w ∧ VR F w d v := by
  have key : ∃ ds vs, VRs F w ds vs ∧ (d = match ds with | [d] => d | ds => .tup ds) ∧ (fd.results.toList.mapM (resSem tmps)).run P w = .ok vs w := by
    cases rrs with
    | nil =>
      simp only [resD] at h3
      simp at h3
      obtain ⟨vs, e1, e2⟩ := res_list hR hT _ [] [] h1 h2 (by simp)
      exact ⟨[], vs, e2, h3.symm, e1⟩
    | cons r rs =>
      cases rs with
      | nil =>
        simp only [resD] at h3
        obtain ⟨vs, e1, e2⟩ := res_list hR hT _ [r] [d] h1 h2 (by simp [h3])
        exact ⟨[d], vs, e2, rfl, e1⟩
      | cons r2 rs =>
        simp only [resD, Option.map_eq_some_iff] at h3
        obtain ⟨ds, h3, rfl⟩ := h3
        obtain ⟨vs, e1, e2⟩ := res_list hR hT _ _ ds h1 h2 h3
        have hl := (mapM_some h3).1
        refine ⟨ds, vs, e2, ?_, e1⟩
        match ds, hl with
        | [], _ => rfl
        | [_], hl => simp at hl
        | _ :: _ :: _, _ => rfl
  obtain ⟨ds, vs, hv, rfl, hrun⟩ := key
  have hrun' : (results fd tmps).run P w = .ok (if h : vs.toArray.size = 1 then vs.toArray[0] else .tuple vs.toArray) w := by
    rw [results_eq, Array.mapM_eq_mapM_toList, Sem.run_bind]
    have : ((List.toArray <$> fd.results.toList.mapM (resSem tmps) : Sem (Array Value))).run P w = .ok vs.toArray w := by
      simp [hrun]
    rw [this]
    rfl
  refine ⟨_, hrun', ?_⟩
  match ds, vs, hv with
  | [], [], hv => simpa using VR.tup [] rfl hv.2
  | [d], [v], hv => simpa using hv.head
  | d :: e :: ds, v :: u :: vs, hv => simpa using VR.tup (v :: u :: vs) hv.1 hv.2
  | [], _ :: _, hv => have := hv.1; simp at this
  | [_], [], hv => have := hv.1; simp at this
  | [_], _ :: _ :: _, hv => have := hv.1; simp at this
  | _ :: _ :: _, [], hv => have := hv.1; simp at this
  | _ :: _ :: _, [_], hv => have := hv.1; simp at this

/-! ### the marks are taken in -/
theorem leaves_in {fd : Func} {tmps : Array Value} {F0 : Fz} {w0 : World} {H0 : Heap} {R : Ending → World → Prop} :
    ∀ (ds : List Deferred) (F : Fz) (w : World) (H : Heap), Mk w0.heap.size w H ds → Rel P F w H → Step F0 w0 H0 F w H →
      (∀ w', Rel P F w' H → Step F0 w0 H0 F w' H → KeepF F w w' → ∃ v, (results fd tmps).run P w' = .ok v w' ∧ R (.returned v) w') →
      LeavesInM Fence.wide 0 P fd tmps R ds .returning w
  | [], F, w, H, _, hR, hS, h => by
    obtain ⟨v, h1, h2⟩ := h w hR hS (KeepF.refl F w)
    exact ⟨v, h1, h2⟩
  | d :: ds, F, w, H, ⟨⟨r, h1, h2, h3, h4, h5⟩, h6⟩, hR, hS, h => by
    subst h1
    let w1 : World := { w with heap := w.heap.setIfInBounds r (.deferred none) }
    have hset := run_setObj (P := P) (y := .deferred none) h3 (by intros; simp)
    have hget := run_getObj (P := P) h3 (by intros; simp)
    obtain ⟨hR1, hK1⟩ := hR.other (w' := w1) h4 h3 (by intros; simp) rfl
    refine ⟨by simp, .inl ⟨r, w1, rfl, ?_, ?_⟩⟩
    · simp only [Instr.takeDeferred, Sem.run_bind, hget, Result.andThen_ok, hset, Sem.run_pure]
      rfl
    · refine leaves_in ds F w1 H ?_ hR1 (hS.other h2 rfl hK1) fun w' hR' hS' hK' => h w' hR' hS' (hK1.trans (SubF.refl F) hK')
      refine h6.turn fun r' hr' q1 q2 => ⟨?_, q2⟩
      have hne : r' ≠ r := by
        rintro rfl
        simp only [List.mem_map] at hr'
        obtain ⟨e, he, hq⟩ := hr'
        exact h5 e he hq
      show (w.heap.setIfInBounds r (.deferred none))[r']? = _
      rw [Array.getElem?_setIfInBounds_ne (Ne.symm hne)]
      exact q1

theorem initT_tr {F : Fz} {w : World} {ds : List D} {vs : List Value} (hv : VRs F w ds vs) (hle : ds.length ≤ n) : TR F w n (initT ds) (vs.toArray ++ Array.replicate (n - vs.toArray.size) undef) := by
  have hl := hv.1
  refine ⟨by simp; omega, fun t ht => ?_⟩
  by_cases h : t < ds.length
  · have h' : t < vs.length := by omega
    have := hv.2 t h h'
    simpa [initT, h, h', Array.getD_eq_getD_getElem?, Array.getElem?_append, List.getD_eq_getElem?_getD] using this
  · have h' : ¬ t < vs.length := by omega
    have e1 : initT ds t = .undef := by simp [initT, h]
    have e2 : (vs.toArray ++ Array.replicate (n - vs.toArray.size) undef).getD t undef = undef := by
      simp only [Array.getD_eq_getD_getElem?, Array.getElem?_append, List.size_toArray, h', if_false, Array.getElem?_replicate]
      split <;> rfl
    rw [e1, e2]
    exact VR.undef F w

theorem putPs_tr {F : Fz} {w : World} : ∀ {ps : List Nat} {ds : List D} {vs : List Value} {τ : Tmps} {tmps : Array Value}, VRs F w ds vs → TR F w n τ tmps →
    TR F w n (putPs τ ps ds) ((ps.zip vs).foldl (fun tmps (t, a) => tmps.setIfInBounds t a) tmps)
  | [], ds, vs, τ, tmps, _, hT => by simpa [putPs] using hT
  | p :: ps, [], [], τ, tmps, _, hT => by simpa [putPs] using hT
  | p :: ps, [], _ :: _, τ, tmps, hv, _ => by have := hv.1; simp at this
  | p :: ps, _ :: _, [], τ, tmps, hv, _ => by have := hv.1; simp at this
  | p :: ps, d :: ds, v :: vs, τ, tmps, hv, hT => by
    obtain ⟨h1, h2⟩ := hv.tail
    simp only [putPs, List.zip_cons_cons, List.foldl_cons]
    exact putPs_tr h2 (hT.put p h1)

theorem M.fn (hm : P.follows .mixedOrders = true) (f : FuncId) (fd : Func) (fn : RFn) (args : List D) (H : Heap) (Q : D → Heap → Prop) (h1 : P.funcs[f]? = some fd) (h2 : rFn P fd = some fn) (h : bodyW P (M P) fn args H Q) : M P (.fn f) args H Q := by
  intro F w vs hR hv
  simp only [rFn, Option.bind_eq_bind, Option.bind_eq_some_iff] at h2
  obtain ⟨b, hb, h2⟩ := h2
  split at h2
  · cases h2
  · rename_i hname
    simp only [Option.bind_eq_some_iff, Option.pure_def, Option.some.injEq] at h2
    obtain ⟨rrs, hres, rb, hrb, rfl⟩ := h2
    obtain ⟨k1, k2, k3, hw⟩ := h
    refine ⟨⟨fd, h1, by rw [hb]; rfl, Bool.eq_false_iff.2 hname⟩, ?_⟩
    refine callsIn_of_wp_marks h1 hb trivial ?_
    have hT := initT_tr hv k1
    refine wpIn_mono (F := FO none) (code_in hm (base := w.heap.size) b rb hrb k2 F w H _ { tmps := vs.toArray ++ Array.replicate (fd.ntmps - vs.toArray.size) undef, defers := [] } _ (Nat.le_refl _) hR hT trivial hw) fun e a' w' hc => ?_
    obtain ⟨x, τ', H', F', g1, g2, g3, g4, g5, hx, r, hr, r', H1, hg, hq⟩ := hc
    subst g1
    have main : LeavesInM Fence.wide 0 P fd a'.tmps (Post P F w H Q) a'.defers .returning w' := by
      refine leaves_in a'.defers F' w' H' g5 g3 g2 fun w2 hR2 hS2 hK2 => ?_
      obtain ⟨v, e1, e2⟩ := results_in hR2 (g4.mono (SubF.refl F') hK2) hres k3 hr
      refine ⟨v, e1, ?_⟩
      obtain ⟨F3, s3, hR3, hv3⟩ := hg.2 F' w2 [v] hR2 (VRs.one e2)
      exact ⟨r', H1, F3, hS2.trans s3, hR3, hv3.head, hq⟩
    rcases hx with rfl | rfl <;> exact main

theorem M.yld (hm : P.follows .mixedOrders = true) (l : Nat) (args : List D) (H : Heap) (K : D → Heap → Prop) (h : yldW P (M P) l args H K) : M P (.yld l) args H K := by
  intro F w vs hR hv
  obtain ⟨pend, τ, n, ps, asg, body, hl, hlen, hw⟩ := h
  obtain ⟨r, b1, b2, b3, b4, b5, b6, b7, b8, b9, b10, b11⟩ := hR.own l _ hl
  have hlen2 : vs.length = ps.length := by rw [hv.1, hlen]
  refine ⟨r.fn, (r.params.zip vs.toArray).foldl (fun tmps (t, a) => tmps.setIfInBounds t a) r.tmps, r.assign, r.body, ?_, ?_⟩
  · simp only [Instr.yield, Sem.run_bind, run_getLoop (P := P) b1, Result.andThen_ok]
    have : ¬ (vs.toArray.size ≠ r.params.size) := by simp [b4, hlen2]
    rw [if_neg this]
    rfl
  · have hT : TR F w n (putPs τ ps args) ((r.params.zip vs.toArray).foldl (fun tmps (t, a) => tmps.setIfInBounds t a) r.tmps) := by
      have := putPs_tr (ps := ps) hv (⟨b7, b11⟩ : TR F w n τ r.tmps)
      rw [b4, ← Array.foldl_toList]
      simpa using this
    refine roundIn_of_wpIn (F := Fence.wide) trivial ?_
    refine wpIn_mono (F := FO (some l)) (code_in hm (ro := some l) (base := w.heap.size) r.assign asg b5 b8 F w H _ { tmps := _, defers := [] } _ (Nat.le_refl _) hR hT trivial hw) fun e a1 w1 hc => ?_
    obtain ⟨x, τ1, H1, F1, g1, g2, g3, g4, g5, rfl, hl1, hw1⟩ := hc
    subst g1
    obtain ⟨r1, c1, c2, c3, c4, c5, c6, c7, c8, c9, c10, c11⟩ := g3.own l _ hl1
    have hset := run_setObj (P := P) (y := .loop { r1 with state := .busy }) c1 (by intros; simp)
    have hturn := g3.turn (y := .loop { r1 with state := .busy }) (o' := .loop .busy pend τ n ps asg body) hl1 (by intros; simp)
      (fun w'' hw'' hk => ⟨{ r1 with state := .busy }, heap_turn c1 hw'', rfl, c3, c4, c5, c6, c7, c8, c9, c10, fun t ht => (c11 t ht).mono (SubF.refl F1) hk⟩)
    refine ⟨{ w1 with heap := w1.heap.setIfInBounds l (.loop { r1 with state := .busy }) }, ?_, ?_⟩
    · simp only [Instr.beginRound, Sem.run_bind, run_getLoop (P := P) c1, Result.andThen_ok, hset, c2, Sem.run_pure]
    · have hS1 := g2.trans hturn.2
      have hT1 := g4.mono hturn.2.sub hturn.2.keep
      -- the assignment ran the same body
      have hbody : rCode P r.body = some body := b6
      refine wpIn_mono (F := FO (some l)) (code_in hm (ro := some l) (base := w.heap.size) r.body body hbody b9 F1 _ _ τ1 a1 _ hS1.size hturn.1 hT1 (g5.step hturn.2) hw1) fun e a2 w2 hc => ?_
      obtain ⟨x, τ2, H2, F2, q1, q2, q3, q4, q5, hl2, hK⟩ := hc
      subst q1
      obtain ⟨r2, d1, d2, d3, d4, d5, d6, d7, d8, d9, d10, d11⟩ := q3.own l _ hl2
      have fin : ∀ (jump : Option Code) (st : LoopState) (pd : Option X), st = (if jump.isNone then .ready else .done) → jump = pd.bind X.code →
          K (.b jump.isNone) (H2.ins l (.loop st pd τ n ps asg body)) →
          ∃ v w', (Instr.endRound l jump).run P w2 = .ok v w' ∧ Post P F w H K (.returned v) w' := by
        intro jump st pd hst hpd hk
        have hset2 := run_setObj (P := P) (y := .loop { r2 with state := st, pending := jump }) d1 (by intros; simp)
        have hturn2 := q3.turn (y := .loop { r2 with state := st, pending := jump }) (o' := .loop st pd τ n ps asg body) hl2 (by intros; simp)
          (fun w'' hw'' hk => ⟨{ r2 with state := st, pending := jump }, heap_turn d1 hw'', rfl, hpd, d4, d5, d6, d7, d8, d9, d10, fun t ht => (d11 t ht).mono (SubF.refl F2) hk⟩)
        refine ⟨.bool jump.isNone, _, ?_, .b jump.isNone, _, F2, (hS1.trans q2).trans hturn2.2, hturn2.1, .v _, hk⟩
        simp only [Instr.endRound, Sem.run_bind, run_getLoop (P := P) d1, Result.andThen_ok, ← hst, hset2, Sem.run_pure]
      cases x with
      | n => exact fin none .ready none rfl rfl hK
      | x id => exact fin (some (.exit id)) .done (some (.x id)) rfl rfl hK
      | r => exact fin (some .ret) .done (some .r) rfl rfl hK

theorem M.closed (hm : P.follows .mixedOrders = true) (I : CallSem) (hI : ∀ c args H Q, I c args H Q → M P c args H Q) : Closed P I (M P) where
  fn := M.fn hm
  yld := M.yld hm
  intr := hI

/-- THE SOUNDNESS. -/
theorem Call.sound (hm : P.follows .mixedOrders = true) {I : CallSem} (hI : ∀ c args H Q, I c args H Q → M P c args H Q) {c : Cal} {args : List D} {H : Heap} {Q : D → Heap → Prop} (h : Call P I c args H Q) : M P c args H Q :=
  h (M P) (M.good P) (M.closed hm I hI)

end Go.Fsl
