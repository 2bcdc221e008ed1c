/- A part of our logic over the resolved code, or of a proof in it. -/
import Derived.Test.YtdajenjajmofiaaGreatDoorFslEv7
import Derived.Test.YtdajenjajmofiaaGreatDoorFslRules
set_option linter.unusedSimpArgs false
set_option linter.unusedVariables false
namespace Go.Fsl
variable {P : Program} {C : CallSem} {S : Sl} {G : Nat} {τ : T D} {τ' : Tmps} {st : St} {H0 H : Heap} {h : Hnd}

section
variable {α β : Type}
theorem bindL_some {f : α → Outs β} : ∀ {l : List α} {outs : List β}, bindL f l = some outs → ∀ a ∈ l, ∃ bs, f a = some bs ∧ ∀ b ∈ bs, b ∈ outs
  | [], _, _, a, ha => by cases ha
  | c :: l, outs, h, a, ha => by
    simp only [bindL] at h
    split at h
    · cases h
    · rename_i bs hb
      split at h
      · cases h
      · rename_i cs hc
        cases h
        rcases List.mem_cons.1 ha with rfl | ha
        · exact ⟨bs, hb, fun b hb => List.mem_append_left _ hb⟩
        · obtain ⟨bs2, h1, h2⟩ := bindL_some hc a ha
          exact ⟨bs2, h1, fun b hb => List.mem_append_right _ (h2 b hb)⟩
theorem bindO_some {x : Outs α} {f : α → Outs β} {outs : List β} (h : bindO x f = some outs) : ∃ l, x = some l ∧ ∀ a ∈ l, ∃ bs, f a = some bs ∧ ∀ b ∈ bs, b ∈ outs := by
  cases x with
  | none => cases h
  | some l => exact ⟨l, rfl, bindL_some h⟩
end

theorem wanted_sim {N : Nat} (hF : FR S N τ τ') (g : Option (Nat × Bool)) : wanted τ' g = wanted (fr τ) g := by
  cases g with
  | none => rfl
  | some p =>
    have := hF p.1
    simp only [wanted]
    generalize fr τ p.1 = d at *
    generalize τ' p.1 = d' at *
    cases this <;> rfl

theorem fr_put (τ : T D) {t : Nat} (ht : t < 4294967295) (d : D) (s : Nat) : fr (τ.put t d) s = if s = t then d else fr τ s := by
  simp only [fr, T.get_put _ _ _ ht]
  split <;> rfl
theorem FR.put {N : Nat} (hF : FR S N τ τ') {t : Nat} (ht : t < 4294967295) {d d' : D} (hd : RD S N d d') : FR S N (τ.put t d) (τ'.put t d') := by
  intro s
  rw [fr_put _ ht]
  simp only [Tmps.put]
  split
  · exact hd
  · exact hF s
theorem FR.putO {N : Nat} (hF : FR S N τ τ') {o : Option Nat} (ho : (match o with | none => true | some t => Nat.blt t 4000000000) = true) {d d' : D} (hd : RD S N d d') : FR S N (putO τ o d) (τ'.putO o d') := by
  cases o with
  | none => exact hF
  | some t =>
    simp only [bltd, decide_eq_true_eq] at ho
    exact hF.put (by omega) hd

theorem eqDet1_sim {N : Nat} {d e d' e' : D} (h : eqDet1 d e = true) (hd : RD S N d d') (he : RD S N e e') : d' = e' := by
  unfold eqDet1 at h
  split at h
  · rw [hd.bool, he.bool, eq_of_beq h]
  · simp only [Bool.and_eq_true, beq_iff_eq] at h
    rw [hd.int, he.int, h.1, h.2]
  · simp only [beq_iff_eq] at h
    rw [hd.str, he.str]
    congr 2
    apply ByteArray.ext
    exact Array.toList_inj.1 h
  · cases hd; cases he; rfl
  · simp only [Bool.and_eq_true, beqd, decide_eq_true_eq] at h
    obtain ⟨rfl, rfl⟩ := h
    cases hd with
    | v hv => simp [plainV, plain1] at hv
    | ptr h1 =>
      cases he with
      | v hv => simp [plainV, plain1] at hv
      | ptr h2 => rfl
  · simp only [beqd, decide_eq_true_eq] at h
    subst h
    cases hd with
    | v hv => simp [plainV, plain1] at hv
    | map h1 =>
      cases he with
      | v hv => simp [plainV, plain1] at hv
      | map h2 => rfl
  · cases hd; cases he; rfl
  · cases hd; cases he; rfl
  · simp only [Bool.and_eq_true, Bool.or_eq_true, beqd, bltd, decide_eq_true_eq] at h
    obtain ⟨⟨⟨⟨rfl, rfl⟩, rfl⟩, rfl⟩, h5⟩ := h
    cases hd with
    | v hv => simp [plainV, plain1] at hv
    | sx a1 a2 a3 a4 a5 =>
      generalize hD : D.v (Value.slice (some _) _ _) = q at he
      cases he <;> try (cases hD; done)
      case v hv => cases hD; simp [plainV, plain1] at hv
      case sx => cases hD; rfl
      case so => cases hD; exact absurd a3 (Nat.lt_irrefl _)
      case st => cases hD; exact absurd a3 (Nat.lt_irrefl _)
    | so a1 a2 a3 a4 a5 =>
      rename_i q
      generalize hD : D.v (Value.slice (some _) _ _) = q at he
      cases he <;> try (cases hD; done)
      case v hv => cases hD; simp [plainV, plain1] at hv
      case sx b1 b2 b3 b4 b5 => cases hD; exact absurd b3 (Nat.lt_irrefl _)
      case so q2 n2 b1 b2 b3 b4 b5 =>
        simp only [D.v.injEq, Value.slice.injEq, Option.some.injEq, Addr.mk.injEq, and_true] at hD
        obtain ⟨⟨rfl, h7⟩, rfl⟩ := hD
        have := Nat.eq_of_mul_eq_mul_right a5 h7
        subst this
        rfl
      case st b1 b2 b3 =>
        cases hD
        rcases h5 with h5 | h5
        · omega
        · exact absurd h5 (Nat.lt_irrefl _)
    | st a1 a2 a3 =>
      rcases h5 with h5 | h5
      · omega
      · exact absurd h5 (Nat.lt_irrefl _)
  · cases h

theorem eqDets_sim {N : Nat} : ∀ {a b a' b' : List D}, eqDets a b = true → RDs S N a a' → RDs S N b b' → a' = b'
  | [], [], _, _, _, ha, hb => by cases ha; cases hb; rfl
  | x :: xs, y :: ys, _, _, h, ha, hb => by
    simp only [eqDets, Bool.and_eq_true] at h
    cases ha with
    | cons h1 h2 =>
      cases hb with
      | cons h3 h4 => rw [eqDet1_sim h.1 h1 h3, eqDets_sim h.2 h2 h4]
  | [], _ :: _, _, _, h, _, _ => by simp [eqDets] at h
  | _ :: _, [], _, _, h, _, _ => by simp [eqDets] at h
theorem eqDet_sim {N : Nat} {d e d' e' : D} (h : eqDet d e = true) (hd : RD S N d d') (he : RD S N e e') : d' = e' := by
  unfold eqDet at h
  split at h
  · obtain ⟨_, rfl, h1⟩ := hd.of_agg
    obtain ⟨_, rfl, h2⟩ := he.of_agg
    rw [eqDets_sim h h1 h2]
  · exact eqDet1_sim h hd he

theorem still_sim (hR : HR S G st H0 H) (hF : FR S st.N τ τ') {r : Nat × ROp × Option (Nat × Bool)} (hok : okOpC G r.2.1 = true) (hs : stillA G h τ st r = true) : still P C τ' H r := by
  intro hw
  rw [wanted_sim hF] at hw
  simp only [stillA, hw, cond_true] at hs
  cases hobj : isObj r.2.1 with
  | false => rw [hobj] at hs; cases hs
  | true =>
    rw [hobj] at hs
    simp only [cond_true] at hs
    have he : exOp G h r.2.1 τ st = optD st (loadV r.2.1 (fr τ) ((st.A.get (loadB r.2.1 (fr τ))).bind AO.toO)) ∧ r.2.1.cls = .load := by
      cases hop : r.2.1 <;> rw [hop] at hobj <;> simp only [isObj, Bool.false_eq_true] at hobj <;> exact ⟨rfl, rfl⟩
    rw [he.1] at hs
    cases hd : loadV r.2.1 (fr τ) ((st.A.get (loadB r.2.1 (fr τ))).bind AO.toO) with
    | none => rw [hd] at hs; cases hs
    | some d =>
      rw [hd] at hs
      simp only [optD, one] at hs
      obtain ⟨d', e1, e2⟩ := load_sim hR hF hobj hok hd
      exact (load_spec (.inr he.2) τ' H _).2 ⟨d', e1, eqDet_sim hs e2 (hF r.1)⟩

theorem exOps_sound (hS : HS G h C) : ∀ {os : List ROper} {τ : T D} {τ' : Tmps} {st : St} {S : Sl} {H : Heap} {outs : List (T D × St)} {Q : Tmps → Heap → Prop}, os.all (okOperC G) = true → HR S G st H0 H → FR S st.N τ τ' →
    exOps G h os τ st = some outs → (∀ p ∈ outs, ∀ S' H' τ'', On S st.N S' p.2.N → HR S' G p.2 H0 H' → FR S' p.2.N p.1 τ'' → Q τ'' H') → opsW P C os τ' H Q
  | [], τ, τ', st, S, H, outs, Q, _, hR, hF, hx, hQ => by
    cases hx
    exact hQ (τ, st) (List.mem_singleton.2 rfl) S H τ' (.refl _ _) hR hF
  | o :: os, τ, τ', st, S, H, outs, Q, hok, hR, hF, hx, hQ => by
    simp only [List.all_cons, Bool.and_eq_true, okOperC] at hok
    obtain ⟨⟨⟨hd, ho⟩, hre⟩, hos⟩ := hok
    simp only [exOps] at hx
    simp only [opsW, wanted_sim hF]
    cases hw : wanted (fr τ) o.guard with
    | false =>
      rw [hw] at hx
      simp only [cond_false] at hx
      rw [if_neg (by simp)]
      exact exOps_sound hS hos hR (hF.putO hd RDs.nil.tup) hx hQ
    | true =>
      rw [hw] at hx
      simp only [cond_true] at hx
      rw [if_pos rfl]
      obtain ⟨l, hl, hall⟩ := bindO_some hx
      refine exOp_sound hS hR hF ho hl fun p hp S' H' d' hon hR' hd' => ?_
      obtain ⟨bs, hb, hsub⟩ := hall p hp
      have hF' := (hF.ext hon.ext hon.le).putO hd hd'
      cases hst : o.re.all (stillA G h (putO τ o.dst p.1) p.2) with
      | false => rw [hst] at hb; cases hb
      | true =>
        rw [hst] at hb
        simp only [cond_true] at hb
        refine ⟨fun r hr => ?_, exOps_sound hS hos hR' hF' hb fun q hq S'' H'' τ'' hon' => hQ q (hsub q hq) S'' H'' τ'' (hon.trans hon')⟩
        rw [List.all_eq_true] at hst hre
        exact still_sim hR' hF' (hre r hr) (hst r hr)

def RoR (S : Sl) (N : Nat) : Option Nat → Option Nat → Prop
  | none, none => True
  | some a, some b => a < N ∧ b = S.blk a
  | _, _ => False
theorem RoR.on {S S' : Sl} {N N' : Nat} (ho : On S N S' N') {a b : Option Nat} (h : RoR S N a b) : RoR S' N' a b := by
  cases a <;> cases b <;> try exact h
  obtain ⟨h1, h2⟩ := h
  exact ⟨Nat.lt_of_lt_of_le h1 ho.le, by rw [(ho.ext _ h1).1]; exact h2⟩

/-- What is told of all ways out of a code. -/
def AftC (S : Sl) (N G : Nat) (H0 : Heap) (outs : List CO) (Q : X → Tmps → Heap → Prop) : Prop :=
  ∀ p ∈ outs, ∀ S' H' τ', On S N S' p.2.2.N → HR S' G p.2.2 H0 H' → FR S' p.2.2.N p.2.1 τ' → Q p.1 τ' H'

theorem isLoop_sim {N : Nat} {a : Nat} {p : Option AO} (h : isLoop p = true) : ∃ ls pend τ n ps asg body, p = some (.loop ls pend τ n ps asg body) := by
  unfold isLoop at h
  split at h
  · exact ⟨_, _, _, _, _, _, _, rfl⟩
  · cases h

theorem exC_sound (hS : HS G h C) {L : Nat} {ro : Option Nat} {n : Nat} : ∀ {c : RCode} {τ : T D} {τ' : Tmps} {st : St} {S : Sl} {H : Heap} {ro' : Option Nat} {outs : List CO} {Q : X → Tmps → Heap → Prop}, okCodeC G c = true → HR S G st H0 H → FR S st.N τ τ' →
    RoR S st.N ro ro' → exC G L h ro n c τ st = some outs → AftC S st.N G H0 outs Q → wp P C ro' n c τ' H Q := by
  intro c
  induction c with
  | skip =>
    intro τ τ' st S H ro' outs Q _ hR hF _ hx hQ
    cases hx
    exact hQ (.n, τ, st) (List.mem_singleton.2 rfl) S H τ' (.refl _ _) hR hF
  | reg ops =>
    intro τ τ' st S H ro' outs Q hok hR hF _ hx hQ
    obtain ⟨l, hl, hall⟩ := bindO_some hx
    refine exOps_sound hS hok hR hF hl fun p hp S' H' τ'' hon hR' hF' => ?_
    obtain ⟨bs, hb, hsub⟩ := hall p hp
    cases hb
    exact hQ (.n, p.1, p.2) (hsub _ (List.mem_singleton.2 rfl)) S' H' τ'' hon hR' hF'
  | seq a b iha ihb =>
    intro τ τ' st S H ro' outs Q hok hR hF hro hx hQ
    simp only [okCodeC, Bool.and_eq_true] at hok
    obtain ⟨l, hl, hall⟩ := bindO_some hx
    refine iha hok.1 hR hF hro hl fun p hp S' H' τ'' hon hR' hF' => ?_
    obtain ⟨x, τp, stp⟩ := p
    obtain ⟨bs, hb, hsub⟩ := hall _ hp
    cases x with
    | n => exact ihb hok.2 hR' hF' (hro.on hon) hb fun q hq S'' H'' τ3 hon' => hQ q (hsub q hq) S'' H'' τ3 (hon.trans hon')
    | x id => cases hb; exact hQ _ (hsub _ (List.mem_singleton.2 rfl)) S' H' τ'' hon hR' hF'
    | r => cases hb; exact hQ _ (hsub _ (List.mem_singleton.2 rfl)) S' H' τ'' hon hR' hF'
  | cond c a b iha ihb =>
    intro τ τ' st S H ro' outs Q hok hR hF hro hx hQ
    simp only [okCodeC, Bool.and_eq_true] at hok
    have e1 := ev_sim hR.gl hF hok.1.1
    simp only [exC] at hx
    simp only [wp]
    split at hx
    · rename_i t ht
      rw [ht] at e1
      rw [e1.bool]
      cases t
      · exact ihb hok.2 hR hF hro hx hQ
      · exact iha hok.1.2 hR hF hro hx hQ
    · cases hx
  | block id b ih =>
    intro τ τ' st S H ro' outs Q hok hR hF hro hx hQ
    obtain ⟨l, hl, hall⟩ := bindO_some hx
    refine ih hok hR hF hro hl fun p hp S' H' τ'' hon hR' hF' => ?_
    obtain ⟨x, τp, stp⟩ := p
    obtain ⟨bs, hb, hsub⟩ := hall _ hp
    cases x with
    | n => cases hb; exact hQ _ (hsub _ (List.mem_singleton.2 rfl)) S' H' τ'' hon hR' hF'
    | x id' =>
      simp only [beqd, cond_dec] at hb
      dsimp only
      split at hb
      · rename_i he
        rw [if_pos he]
        cases hb; exact hQ _ (hsub _ (List.mem_singleton.2 rfl)) S' H' τ'' hon hR' hF'
      · rename_i he
        rw [if_neg he]
        cases hb; exact hQ _ (hsub _ (List.mem_singleton.2 rfl)) S' H' τ'' hon hR' hF'
    | r => cases hb; exact hQ _ (hsub _ (List.mem_singleton.2 rfl)) S' H' τ'' hon hR' hF'
  | loop b ih =>
    intro τ τ' st S H ro' outs Q hok hR hF hro hx hQ
    refine ⟨fun k τ1' H1 => ∃ S1 τ1 st1 outs1, HR S1 G st1 H0 H1 ∧ FR S1 st1.N τ1 τ1' ∧ RoR S1 st1.N ro ro' ∧ iter (exC G L h ro n b) k τ1 st1 = some outs1 ∧ AftC S1 st1.N G H0 outs1 Q,
      L, ⟨S, τ, st, outs, hR, hF, hro, hx, hQ⟩, ?_⟩
    rintro k τ1' H1 ⟨S1, τ1, st1, outs1, hR1, hF1, hro1, hx1, hQ1⟩
    cases k with
    | zero => cases hx1
    | succ k =>
      obtain ⟨l, hl, hall⟩ := bindO_some hx1
      refine ih hok hR1 hF1 hro1 hl fun p hp S' H' τ'' hon hR' hF' => ?_
      obtain ⟨x, τp, stp⟩ := p
      obtain ⟨bs, hb, hsub⟩ := hall _ hp
      cases x with
      | n => exact ⟨k, H', Nat.lt_succ_self k, HSub.refl _, S', τp, stp, bs, hR', hF', hro1.on hon, hb, fun q hq S'' H'' τ3 hon' => hQ1 q (hsub q hq) S'' H'' τ3 (hon.trans hon')⟩
      | x id => cases hb; exact hQ1 _ (hsub _ (List.mem_singleton.2 rfl)) S' H' τ'' hon hR' hF'
      | r => cases hb; exact hQ1 _ (hsub _ (List.mem_singleton.2 rfl)) S' H' τ'' hon hR' hF'
  | rangef f ps asg body _ _ =>
    intro τ τ' st S H ro' outs Q hok hR hF hro hx hQ
    simp only [okCodeC, Bool.and_eq_true] at hok
    have e1 := ev_sim hR.gl hF hok.1.1.1
    simp only [exC] at hx
    simp only [wp]
    split at hx
    · rename_i g caps hg
      rw [hg] at e1
      obtain ⟨caps', e2, e3⟩ := e1.of_fn
      rw [e2]
      simp only [bltd, cond_eq_ite, Bool.and_eq_true, decide_eq_true_eq] at hx
      have hq := ite_some hx; clear hx
      obtain ⟨⟨hl1, hN⟩, hx⟩ := hq
      refine ⟨fun l0 hl0 => ?_, fun l hl => ?_⟩
      · subst hl0
        cases ro with
        | none => exact hro.elim
        | some a =>
          obtain ⟨ha, rfl⟩ := hro
          obtain ⟨_, _, _, _, _, _, _, hA⟩ := isLoop_sim (N := 0) (a := 0) hl1
          obtain ⟨o', f0, f1⟩ := hR.obj a _ hA
          cases o' <;> try (exact f1.elim)
          exact ⟨_, _, _, _, _, _, _, f0⟩
      · obtain ⟨outl, ho, hall⟩ := bindO_some hx
        have hext := Sl.upd_ext S st.N l 0 0 0 0 0 (τ', n, ps, asg, body)
        obtain ⟨q1, q2, q3, q4, q5, q6, q7⟩ := Sl.upd_at S st.N l 0 0 0 0 0 (τ', n, ps, asg, body)
        have hon := On.upd S st.N l 0 0 0 0 0 (τ', n, ps, asg, body)
        have hR1 := hR.new (b := l) (o := .loop .ready none τ n ps asg body) (o' := .loop .ready none τ' n ps asg body) hN hl hext q1
          ⟨rfl, rfl, hF.ext hon.ext hon.le, rfl, rfl, rfl, rfl, q7, hok.1.2, hok.2, hok.1.1.2⟩
        have hy := RD.yld (S := S.upd st.N l 0 0 0 0 0 (τ', n, ps, asg, body)) (N := st.N + 1) (a := st.N) (by omega)
        rw [q1] at hy
        refine hS _ _ _ _ _ _ _ _ _ _ ho hR1 (RDs.cons hy (e3.ext hon.ext hon.le)) (.fn g) fun p hp S' H' d' hon' hR' hd' => ?_
        obtain ⟨bs, hb, hsub⟩ := hall p hp
        have hNl : st.N < p.2.N := hon'.le
        have hblk : S'.blk st.N = l := by rw [(hon'.ext st.N (Nat.lt_succ_self _)).1, q1]
        split at hb
        · rename_i ls pend τ1 n1 ps1 asg1 body1 hA
          obtain ⟨o', f0, f1⟩ := hR'.obj st.N _ hA
          cases o' <;> try (exact f1.elim)
          obtain ⟨rfl, rfl, _⟩ := f1
          rw [hblk] at f0
          refine ⟨_, _, _, _, _, _, _, f0, ?_⟩
          have hon2 := hon.trans hon'
          have key : ls ≠ .busy → bs = [(pend.getD .n, τ, { p.2 with A := p.2.A.del st.N })] → ls ≠ .busy ∧ Q (pend.getD .n) τ' (H'.era l) := by
            intro hls hbs
            subst hbs
            refine ⟨hls, ?_⟩
            have hRe := hR'.era hA hR.hG (by omega)
            rw [hblk] at hRe
            exact hQ (pend.getD .n, τ, { p.2 with A := p.2.A.del st.N }) (hsub _ (List.mem_singleton.2 rfl)) S' _ τ' hon2 hRe (hF.ext hon2.ext hon2.le)
          split at hb
          · cases hb
          · rename_i hnb
            cases hb
            exact key hnb rfl
        · cases hb
    · cases hx
  | exit id =>
    intro τ τ' st S H ro' outs Q _ hR hF _ hx hQ
    cases hx
    exact hQ (.x id, τ, st) (List.mem_singleton.2 rfl) S H τ' (.refl _ _) hR hF
  | scope b ih => intro τ τ' st S H ro' outs Q hok hR hF hro hx hQ; exact ih hok hR hF hro hx hQ
  | ret =>
    intro τ τ' st S H ro' outs Q _ hR hF _ hx hQ
    cases hx
    exact hQ (.r, τ, st) (List.mem_singleton.2 rfl) S H τ' (.refl _ _) hR hF
  | dead => intro τ τ' st S H ro' outs Q _ _ _ _ hx; cases hx

theorem argsT_get : ∀ (ds : List D) (i : Nat) (t : T D) (s : Nat), i + ds.length < 4294967295 → fr (argsT ds i t) s = if i ≤ s ∧ s < i + ds.length then ds.getD (s - i) .undef else fr t s
  | [], i, t, s, _ => by
    simp only [argsT, List.length_nil, Nat.add_zero]
    rw [if_neg (by omega)]
  | d :: ds, i, t, s, h => by
    simp only [List.length_cons] at h
    simp only [argsT]
    rw [argsT_get ds (i + 1) _ s (by omega), fr_put _ (by omega)]
    simp only [List.length_cons]
    by_cases h1 : s = i
    · subst h1
      rw [if_neg (by omega), if_pos rfl, if_pos (by omega)]
      simp
    · rw [if_neg h1]
      by_cases h2 : i + 1 ≤ s ∧ s < i + 1 + ds.length
      · rw [if_pos h2, if_pos (by omega)]
        have : s - i = (s - (i + 1)) + 1 := by omega
        rw [this]
        simp
      · rw [if_neg h2, if_neg (by omega)]

theorem init_sim {N : Nat} {ds ds' : List D} (h : RDs S N ds ds') (hl : ds.length < 4294967295) : FR S N (argsT ds 0 .leaf) (initT ds') := by
  intro s
  rw [argsT_get ds 0 .leaf s (by omega)]
  simp only [initT, Nat.zero_le, true_and, Nat.zero_add, Nat.sub_zero]
  by_cases hs : s < ds.length
  · rw [if_pos hs]
    have hs' : s < ds'.length := by rw [← h.length]; exact hs
    have := h.get s hs hs'
    simpa [List.getD_eq_getElem?_getD, hs, hs'] using this
  · rw [if_neg hs]
    have : ds'.getD s .undef = .undef := by
      rw [List.getD_eq_getElem?_getD, List.getElem?_eq_none (by rw [← h.length]; omega)]; rfl
    rw [this]
    exact RDs.nil.tup

theorem putPs_sim {N : Nat} : ∀ {ps : List Nat} {ds ds' : List D} {τ : T D} {τ' : Tmps}, ps.all (Nat.blt · 4000000000) = true → RDs S N ds ds' → FR S N τ τ' → FR S N (putPsT τ ps ds) (putPs τ' ps ds')
  | [], _, _, _, _, _, _, hF => by simpa [putPsT, putPs] using hF
  | p :: ps, _, _, τ, τ', hp, hd, hF => by
    simp only [List.all_cons, Bool.and_eq_true, bltd, decide_eq_true_eq] at hp
    cases hd with
    | nil => simpa [putPsT, putPs] using hF
    | cons h1 h2 =>
      simp only [putPsT, putPs]
      exact putPs_sim (by simpa [bltd] using hp.2) h2 (hF.put (by omega) h1)

theorem resOne_sim (hR : HR S G st H0 H) (hF : FR S st.N τ τ') {r : RRes} {d : D} (h : resA τ st r = some d) : ∃ d', resOne τ' H r = some d' ∧ RD S st.N d d' := by
  cases r with
  | t t => cases h; exact ⟨_, rfl, hF t⟩
  | c a g n =>
    have e1 := hF a
    simp only [resA] at h
    simp only [resOne]
    generalize fr τ a = x at *
    generalize τ' a = y at *
    cases e1 <;> try (simp only [reduceCtorEq] at h; done)
    case v v hv => cases v with
      | pointer A => cases A <;> simp_all [plainV, plain1]
      | _ => simp at h
    case ptr a off ha =>
      cases hA : st.A.get a with
      | none => simp only [hA] at h; cases h
      | some p =>
        simp only [hA] at h
        cases p <;> try (simp only [reduceCtorEq] at h; done)
        obtain ⟨cs', frz, room, ty', f0, f1, f2, f3, f4, f5, f6, f7, f8⟩ := hR.at hA
        simp only [f0]
        obtain ⟨d', g1, g2⟩ := rd_sim f1 h
        exact ⟨d', rd_drop f6 g1, g2⟩
theorem resAs_sim (hR : HR S G st H0 H) (hF : FR S st.N τ τ') : ∀ {rs : List RRes} {ds : List D}, resAs τ st rs = some ds → ∃ ds', rs.mapM (resOne τ' H) = some ds' ∧ RDs S st.N ds ds'
  | [], _, h => by cases h; exact ⟨[], rfl, .nil⟩
  | r :: rs, ds, h => by
    simp only [resAs] at h
    split at h
    · rename_i d ds2 h1 h2
      cases h
      obtain ⟨d', e1, e2⟩ := resOne_sim hR hF h1
      obtain ⟨ds', e3, e4⟩ := resAs_sim hR hF h2
      exact ⟨d' :: ds', by simp [List.mapM_cons, e1, e3], .cons e2 e4⟩
    · cases h
theorem res_sim (hR : HR S G st H0 H) (hF : FR S st.N τ τ') {rs : List RRes} {d : D} (h : resDA τ st rs = some d) : ∃ d', resD τ' H rs = some d' ∧ RD S st.N d d' := by
  unfold resDA at h
  unfold resD
  split at h
  · exact resOne_sim hR hF h
  · rename_i rs hne
    simp only [Option.map_eq_some_iff] at h
    obtain ⟨ds, h1, rfl⟩ := h
    obtain ⟨ds', e1, e2⟩ := resAs_sim hR hF h1
    split
    · rename_i r; exact absurd rfl (hne r)
    · rw [e1]; exact ⟨_, rfl, e2.tup⟩

def TblOK (P : Program) (G : Nat) (tbl : T RFn) : Prop :=
  ∀ f fn, tbl.get f = some fn → okCodeC G fn.body = true ∧ okCode fn.n fn.body = true ∧ fn.res.all (okRRes fn.n) = true ∧ ∃ fd, P.funcs[f]? = some fd ∧ rFn P fd = some fn

/-- The body of a function. -/
theorem body_sound (hS : HS G h C) {L : Nat} {fn : RFn} {ds ds' : List D} {outs : List CO} (h1 : okCodeC G fn.body = true) (h2 : okCode fn.n fn.body = true) (h3 : fn.res.all (okRRes fn.n) = true) (hle : ds.length ≤ fn.n) (hlt : fn.n < 4000000000)
    (hx : exC G L h none fn.n fn.body (argsT ds 0 .leaf) st = some outs) (hR : HR S G st H0 H) (hds : RDs S st.N ds ds') {Q : D → Heap → Prop}
    (hQ : ∀ p ∈ outs, (p.1 = .n ∨ p.1 = .r) ∧ ∃ d, resDA p.2.1 p.2.2 fn.res = some d ∧ ∀ S' H' d', On S st.N S' p.2.2.N → HR S' G p.2.2 H0 H' → RD S' p.2.2.N d d' → ∃ r' H1, Ghost P [d'] H' [r'] H1 ∧ Q r' H1) : bodyW P C fn ds' H Q := by
  refine ⟨by rw [← hds.length]; exact hle, h2, h3, ?_⟩
  refine exC_sound hS h1 hR (init_sim hds (by omega)) (ro' := none) (show RoR S st.N none none from trivial) hx fun p hp S' H' τ'' hon hR' hF' => ?_
  obtain ⟨hx1, d, hd, hK⟩ := hQ p hp
  obtain ⟨d', e1, e2⟩ := res_sim hR' hF' hd
  exact ⟨hx1, d', e1, hK S' H' d' hon hR' e2⟩

theorem ex_sound {I : CallSem} {L : Nat} {tbl : T RFn} (ht : TblOK P G tbl) : ∀ k, HS G (ex G L tbl k) (Call P I)
  | 0 => by intro c c' ds ds' st outs S H0 H K hx; cases hx
  | k + 1 => by
    have ih : HS G (ex G L tbl k) (Call P I) := ex_sound ht k
    intro c c' ds ds' st outs S H0 H K hx hR hds hc hA
    cases hc with
    | fn f =>
      simp only [ex] at hx
      cases hf : tbl.get f with
      | none => rw [hf] at hx; cases hx
      | some fn =>
        rw [hf] at hx
        obtain ⟨t1, t2, t3, fd, t4, t5⟩ := ht f fn hf
        simp only [bled, bltd, cond_eq_ite, Bool.and_eq_true, decide_eq_true_eq] at hx
        have hq := ite_some hx; clear hx
        obtain ⟨⟨hle, hlt⟩, hx⟩ := hq
        obtain ⟨l, hl, hall⟩ := bindO_some hx
        refine call_fn t4 t5 (body_sound ih t1 t2 t3 hle hlt hl hR hds fun p hp => ?_)
        obtain ⟨x, τp, stp⟩ := p
        obtain ⟨bs, hb, hsub⟩ := hall _ hp
        have key : ∀ d, resDA τp stp fn.res = some d → bs = [(d, stp)] → ∃ d, resDA τp stp fn.res = some d ∧ ∀ S' H' d', On S st.N S' stp.N → HR S' G stp H0 H' → RD S' stp.N d d' → ∃ r' H1, Ghost P [d'] H' [r'] H1 ∧ K r' H1 := by
          rintro d hd rfl
          exact ⟨d, hd, fun S' H' d' hon hR' hd' => ⟨d', H', Ghost.refl P _ _, hA (d, stp) (hsub _ (List.mem_singleton.2 rfl)) S' H' d' hon hR' hd'⟩⟩
        cases x with
        | x id => cases hb
        | n =>
          dsimp only at hb
          split at hb
          · rename_i d hd; cases hb; exact ⟨.inl rfl, key d hd rfl⟩
          · cases hb
        | r =>
          dsimp only at hb
          split at hb
          · rename_i d hd; cases hb; exact ⟨.inr rfl, key d hd rfl⟩
          · cases hb
    | @yld l hl =>
      simp only [ex] at hx
      split at hx
      · rename_i pend τl n ps asg body hAl
        simp only [bled, beqd, cond_eq_ite, Bool.and_eq_true, decide_eq_true_eq] at hx
        have hq := ite_some hx; clear hx
        obtain ⟨⟨hGl, hlen⟩, hx⟩ := hq
        obtain ⟨o', f0, f1⟩ := hR.obj l _ hAl
        cases o' <;> try (exact f1.elim)
        rename_i ls' pend' τl' n' ps' asg' body'
        obtain ⟨rfl, rfl, hFl, rfl, rfl, rfl, rfl, hlp, ok1, ok2, ok3⟩ := f1
        obtain ⟨l1, hl1, hall1⟩ := bindO_some hx
        refine (Call.closed P I).yld (S.blk l) ds' H K ⟨pend, τl', n, ps, asg, body, f0, by rw [← hds.length]; exact hlen, ?_⟩
        refine exC_sound ih ok1 hR (putPs_sim ok3 hds hFl) (ro := some l) (ro' := some (S.blk l)) ⟨hl, rfl⟩ hl1 fun p hp S1 H1 τ1 hon1 hR1 hF1 => ?_
        obtain ⟨x, τp, stp⟩ := p
        obtain ⟨bs, hb, hsub⟩ := hall1 _ hp
        have e1 := hon1.ext l hl
        cases x with
        | x id => cases hb
        | r => cases hb
        | n =>
          dsimp only at hb
          refine ⟨rfl, ?_⟩
          split at hb
          · rename_i pend2 τ2 n2 ps2 asg2 body2 hA2
            have hq := ite_some hb; clear hb
            obtain ⟨hpe, hb⟩ := hq
            have hpe := eq_of_beq hpe
            subst hpe
            obtain ⟨o2, k0, k1⟩ := hR1.obj l _ hA2
            cases o2 <;> try (exact k1.elim)
            rename_i ls2' pend2' τ2' n2' ps2' asg2' body2'
            obtain ⟨rfl, rfl, hF2, rfl, rfl, rfl, rfl, hlp2, k3, k4, k5⟩ := k1
            rw [e1.2.2.2.2.2.2, hlp] at hlp2
            cases hlp2
            rw [e1.1] at k0
            refine ⟨k0, ?_⟩
            have hR1b := hR1.put (o := .loop .busy pend2 τ2 n ps asg body) (o' := .loop .busy pend2 τl' n ps asg body) hA2 hGl ⟨rfl, rfl, hF2, rfl, rfl, rfl, rfl, by rw [e1.2.2.2.2.2.2, hlp], ok1, ok2, ok3⟩
            rw [e1.1] at hR1b
            obtain ⟨l2, hl2, hall2⟩ := bindO_some hb
            refine exC_sound ih ok2 hR1b hF1 (ro := some l) (ro' := some (S.blk l)) ⟨Nat.lt_of_lt_of_le hl hon1.le, e1.1.symm⟩ hl2 fun q hq S2 H2 τ2'' hon2 hR2 hF2' => ?_
            obtain ⟨y, τq, stq⟩ := q
            obtain ⟨bs2, hb2, hsub2⟩ := hall2 _ hq
            have e2 := hon2.ext l (Nat.lt_of_lt_of_le hl hon1.le)
            dsimp only at hb2 ⊢
            split at hb2
            · rename_i pend3 τ3 n3 ps3 asg3 body3 hA3
              have hq := ite_some hb2; clear hb2
              obtain ⟨hpe, hb2⟩ := hq
              have hpe := eq_of_beq hpe
              subst hpe
              obtain ⟨o3, m0, m1⟩ := hR2.obj l _ hA3
              cases o3 <;> try (exact m1.elim)
              rename_i ls3' pend3' τ3' n3' ps3' asg3' body3'
              obtain ⟨rfl, rfl, hF3, rfl, rfl, rfl, rfl, hlp3, _⟩ := m1
              rw [e2.2.2.2.2.2.2, e1.2.2.2.2.2.2, hlp] at hlp3
              cases hlp3
              rw [e2.1, e1.1] at m0
              refine ⟨m0, ?_⟩
              have hlast : ∀ ls pp, HR S2 G { stq with A := stq.A.put l (.loop ls pp τ3 n ps asg body) } H0 (H2.ins (S.blk l) (.loop ls pp τl' n ps asg body)) := by
                intro ls pp
                have := hR2.put (o := .loop ls pp τ3 n ps asg body) (o' := .loop ls pp τl' n ps asg body) hA3 hGl ⟨rfl, rfl, hF3, rfl, rfl, rfl, rfl, by rw [e2.2.2.2.2.2.2, e1.2.2.2.2.2.2, hlp], ok1, ok2, ok3⟩
                rwa [e2.1, e1.1] at this
              have hon3 := hon1.trans hon2
              cases y with
              | n =>
                cases hb2
                exact hA _ (hsub _ (hsub2 _ (List.mem_singleton.2 rfl))) S2 _ _ hon3 (hlast _ _) (.v rfl)
              | x id =>
                cases hb2
                exact hA _ (hsub _ (hsub2 _ (List.mem_singleton.2 rfl))) S2 _ _ hon3 (hlast _ _) (.v rfl)
              | r =>
                cases hb2
                exact hA _ (hsub _ (hsub2 _ (List.mem_singleton.2 rfl))) S2 _ _ hon3 (hlast _ _) (.v rfl)
            · cases hb2
          · cases hb
      · cases hx
end Go.Fsl
