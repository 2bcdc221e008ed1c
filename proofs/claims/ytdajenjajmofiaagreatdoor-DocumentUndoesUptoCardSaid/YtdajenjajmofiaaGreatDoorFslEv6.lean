/- A part of our logic over the resolved code, or of a proof in it. -/
import Derived.Test.YtdajenjajmofiaaGreatDoorFslEv5
set_option linter.unusedSimpArgs false
set_option linter.unusedVariables false
namespace Go.Fsl
variable {P : Program} {C : CallSem} {S : Sl} {G : Nat} {τ : T D} {τ' : Tmps} {st : St} {H0 H : Heap} {h : Hnd}

theorem ite_some {α : Type} {p : Prop} [Decidable p] {x : Option α} {y : α} (h : (if p then x else none) = some y) : p ∧ x = some y := by
  split at h
  · rename_i hp; exact ⟨hp, h⟩
  · cases h

theorem HR.at (hR : HR S G st H0 H) {a : Nat} {cs : List D} {sz : Nat} {ty : Option TypeId} (hA : st.A.get a = some (.cells cs sz ty)) :
    ∃ cs' frz room ty', H (S.blk a) = some (.cells cs' frz room ty') ∧ OK S st.N G a (.cells cs sz ty) (.cells cs' frz room ty') := by
  obtain ⟨o', e1, e2⟩ := hR.obj a _ hA
  obtain ⟨cs', frz, room, ty', rfl⟩ := e2.cells_of
  exact ⟨_, _, _, _, e1, e2⟩

theorem HR.del (h : HR S G st H0 H) {a : Nat} (hN : a < 4000000000) : HR S G { st with A := st.A.del a } H0 H where
  hG := h.hG
  big := h.big
  glob := h.glob
  live := fun c q hq => by
    simp only at hq ⊢
    rw [T.get_del _ _ (by omega)] at hq
    split at hq
    · cases hq
    · exact h.live c q hq
  inj := fun c d q r hq hr he => by
    simp only at hq hr
    rw [T.get_del _ _ (by omega)] at hq hr
    split at hq
    · cases hq
    · split at hr
      · cases hr
      · exact h.inj c d q r hq hr he
  obj := fun c q hq => by
    simp only at hq ⊢
    rw [T.get_del _ _ (by omega)] at hq
    split at hq
    · cases hq
    · exact h.obj c q hq
  out := fun c q hq hG => by
    simp only at hq
    rw [T.get_del _ _ (by omega)] at hq
    split at hq
    · cases hq
    · exact h.out c q hq hG
  sub := h.sub

/-- An append to a slice that is not nil. -/
theorem append_at (hR : HR S G st H0 H) {a off n c k sz bytes o' c' : Nat} {cs ys ys' : List D} {ty : Option TypeId} {e : TypeId} {K : D → Heap → Prop} {outs : List (D × St)} (hA : st.A.get a = some (.cells cs sz ty))
    (hga : G ≤ a) (hsz : 0 < sz) (hle : off + n * sz ≤ cs.length) (hby : (n + k) * bytes ≤ 2 ^ 46) (hty : ∀ t, ty = some t → t = e) (hys : RDs S st.N ys ys') (hl : ys.length = k * sz)
    (hx : (if k = 0 then one (.v (.slice (some ⟨a, off, none⟩) n c), st) else
      mk (if c < BIG ∧ c < n + k then st else { st with A := st.A.del a }) (.cells ((cs.drop off).take (n * sz) ++ ys) sz (if off = 0 then ty else none)) (.v (.slice (some ⟨st.N, 0, none⟩) (n + k) BIG))) = some outs)
    (hAft : Aft S st.N G H0 outs K) (hsame : RD S st.N (.v (.slice (some ⟨a, off, none⟩) n c)) (.v (.slice (some ⟨S.blk a, o', none⟩) n c')))
    (ho : n = 0 ∧ c' = 0 ∨ o' = S.base a + off) (hlen : o' + n * sz ≤ S.len a) (hroom : o' + c' * sz ≤ S.room a) (hnc' : n ≤ c') (hin : 0 < k → n + k ≤ c' → o' = S.base a + off ∧ ¬ (c < BIG ∧ c < n + k)) :
    match H (S.blk a) with
    | some (.cells cs frz room ty) => o' + n * sz ≤ cs.length ∧ o' + c' * sz ≤ room ∧ (n + k) * bytes ≤ 2 ^ 46 ∧
        (n + k ≤ c' → k = 0 → K (.v (.slice (some ⟨S.blk a, o', none⟩) n c')) H) ∧
        (n + k ≤ c' → 0 < k → frz ≤ o' + n * sz ∧ K (.v (.slice (some ⟨S.blk a, o', none⟩) (n + k) c')) (H.ins (S.blk a) (.cells (cs.take (o' + n * sz) ++ ys') frz room ty))) ∧
        (c' < n + k → ∀ b' c2, H b' = none → n + k ≤ c2 → K (.v (.slice (some ⟨b', 0, none⟩) (n + k) c2)) (H.ins b' (.cells ((cs.drop o').take (n * sz) ++ ys') 0 (c2 * sz) (some e))))
    | _ => False := by
  obtain ⟨cs', frz, room, ty', f0, f1, f2, f3, f4, f5, f6, f7, f8⟩ := hR.at hA
  rw [f0]
  have hal := hR.live a _ hA
  have hlt := hR.big
  have hlen' := f1.length
  rw [List.length_drop] at hlen'
  have hkl : ys'.length = k * sz := by rw [← hys.length, hl]
  have hnk : (n + k) * sz = n * sz + k * sz := Nat.add_mul ..
  refine ⟨by rw [f5]; exact hlen, by rw [f3 hsz]; exact hroom, hby, fun h1 h2 => ?_, fun h1 h2 => ?_, fun h1 b' c2 hb' hc2 => ?_⟩
  · rw [if_pos h2] at hx
    cases hx
    exact hAft.one _ _ _ (.refl _ _) hR hsame
  · obtain ⟨he, hnc⟩ := hin h2 h1
    rw [if_neg (by omega), if_neg hnc] at hx
    refine ⟨by have := f2 hga; omega, ?_⟩
    rw [← era_ins_same]
    have hR1 := hR.era hA hga (by omega)
    have hcut : (cs'.take (o' + n * sz) ++ ys').drop o' = (cs'.drop o').take (n * sz) ++ ys' := by
      rw [List.drop_append_of_le_length (by rw [List.length_take]; omega), List.drop_take]
      congr 2
      omega
    have hrel : RDs S st.N ((cs.drop off).take (n * sz) ++ ys) ((cs'.drop o').take (n * sz) ++ ys') := by
      refine RDs.append ?_ hys
      have := (f1.drop off).take (n * sz)
      rwa [List.drop_drop, ← he] at this
    refine new_sim (S := S) (st := { st with A := st.A.del a }) hR1 hx hAft (b := S.blk a) (base := o') (sz := sz) (room := S.room a) (len := (cs'.take (o' + n * sz) ++ ys').length) (cap := c') (lp := noLp) hR1 (by simp [Heap.era]) ?_ ?_
    · obtain ⟨q1, q2, q3, q4, q5, q6, _⟩ := Sl.upd_at S st.N (S.blk a) o' sz (S.room a) (cs'.take (o' + n * sz) ++ ys').length c' noLp
      refine ⟨by rw [q2, hcut]; exact hrel.on (On.upd ..), fun _ => by rw [q2]; have := f2 hga; omega, fun _ => by rw [q4]; exact f3 hsz, q3.symm, q5.symm, by rw [q2, List.length_append, List.length_take]; omega, fun t ht => (by split at ht <;> first | exact f7 t ht | (cases ht; done)), fun h0 => by
        rw [q2]
        rcases h0 with h0 | h0
        · omega
        · split at h0
          · have := f8 (.inr h0); omega
          · exact absurd rfl h0⟩
    · obtain ⟨q1, q2, q3, q4, q5, q6, _⟩ := Sl.upd_at S st.N (S.blk a) o' sz (S.room a) (cs'.take (o' + n * sz) ++ ys').length c' noLp
      have := RD.so (S := S.upd st.N (S.blk a) o' sz (S.room a) (cs'.take (o' + n * sz) ++ ys').length c' noLp) (N := st.N + 1) (a := st.N) (q := 0) (n := n + k) (by omega) (by rw [q6]; omega) (by rw [q2, q3, q4, q6]; exact hroom)
        (by rw [q2, q3, q5, List.length_append, List.length_take, hkl, Nat.zero_add]; omega) (by rw [q3]; exact hsz)
      rw [q1, q2, q3, q6] at this
      simpa using this
  · have hk0 : ¬ k = 0 := by omega
    rw [if_neg hk0] at hx
    have hrel : RDs S st.N ((cs.drop off).take (n * sz) ++ ys) ((cs'.drop o').take (n * sz) ++ ys') := by
      refine RDs.append ?_ hys
      rcases ho with ⟨h3, _⟩ | h3
      · subst h3; simpa using RDs.nil
      · have := (f1.drop off).take (n * sz)
        rwa [List.drop_drop, ← h3] at this
    have hRR : ∀ st1, (st1 = st ∨ st1 = { st with A := st.A.del a }) → mk st1 (.cells ((cs.drop off).take (n * sz) ++ ys) sz (if off = 0 then ty else none)) (.v (.slice (some ⟨st.N, 0, none⟩) (n + k) BIG)) = some outs → st1.N = st.N → HR S G st1 H0 H →
        K (.v (.slice (some ⟨b', 0, none⟩) (n + k) c2)) (H.ins b' (.cells ((cs'.drop o').take (n * sz) ++ ys') 0 (c2 * sz) (some e))) := by
      intro st1 _ hx hN hR1
      have hAft1 : Aft S st1.N G H0 outs K := by rw [hN]; exact hAft
      refine new_sim (S := S) hR1 hx hAft1 (b := b') (base := 0) (sz := sz) (room := c2 * sz) (len := ((cs'.drop o').take (n * sz) ++ ys').length) (cap := c2) (lp := noLp) hR1 hb' ?_ ?_
      · rw [hN]
        exact OK.cells_new hrel (fun _ => rfl) (fun t ht => by split at ht <;> first | (rw [hty t ht]; done) | (cases ht; done))
      · rw [hN]
        obtain ⟨q1, q2, q3, q4, q5, q6, _⟩ := Sl.upd_at S st.N b' 0 sz (c2 * sz) ((cs'.drop o').take (n * sz) ++ ys').length c2 noLp
        have := RD.so (S := S.upd st.N b' 0 sz (c2 * sz) ((cs'.drop o').take (n * sz) ++ ys').length c2 noLp) (N := st.N + 1) (a := st.N) (q := 0) (n := n + k) (by omega) (by rw [q6]; omega) (by rw [q2, q3, q4, q6]; omega)
          (by rw [q2, q3, q5, List.length_append, List.length_take, List.length_drop, hkl]; simp only [Nat.zero_add]; omega) (by rw [q3]; exact hsz)
        rw [q1, q2, q3, q6] at this
        simpa using this
    split at hx
    · exact hRR _ (.inl rfl) hx rfl hR
    · exact hRR _ (.inr rfl) hx rfl (hR.del (by omega))

theorem append_sim (hR : HR S G st H0 H) (hF : FR S st.N τ τ') {sz bytes : Nat} {z : List D} {e : TypeId} {a x : RO} (h1 : okRO G a = true) (h2 : okRO G x = true) {outs : List (D × St)} {K : D → Heap → Prop}
    (hx : exOp G h (.append sz bytes z e a x) τ st = some outs) (hA : Aft S st.N G H0 outs K) : opW P C (.append sz bytes z e a x) τ' H K := by
  have hg := hR.gl
  have e1 := ev_sim hg hF h1
  have e2 := ev_sim hg hF h2
  simp only [exOp] at hx
  simp only [opW]
  cases hs : srcA st.A sz (x.ev (fr τ)) with
  | none => rw [hs] at hx; cases hx
  | some p =>
    obtain ⟨k, ys⟩ := p
    rw [hs] at hx
    obtain ⟨ys', hs', hys⟩ := src_sim hR e2 hs
    rw [hs']
    simp only [beqd, bltd, ← Bool.decide_and, cond_dec, Bool.and_eq_true, cond_eq_ite] at hx
    have hq := ite_some hx
    clear hx
    obtain ⟨hc, hx⟩ := hq
    simp only [decide_eq_true_eq] at hc
    obtain ⟨⟨hl, hone⟩, hsz⟩ := hc
    simp only
    refine ⟨by rw [← hys.length]; exact hl, by rw [hys.one_all]; exact hone, ?_⟩
    generalize a.ev τ' = ay at *
    generalize a.ev (fr τ) = ax at *
    cases e1 <;> try (simp only [reduceCtorEq] at hx; done)
    case v v hv =>
      cases v with
      | slice A m c =>
        cases A with
        | some A => simp [plainV, plain1] at hv
        | none =>
          split at hx
          · rename_i heq
            cases heq
            simp only [beqd, cond_dec, bled] at hx
            refine ⟨fun hk => ?_, fun hk => ?_⟩
            · rw [if_pos (by simpa using hk)] at hx
              cases hx
              exact hA.one _ _ _ (.refl _ _) hR (.v rfl)
            · rw [if_neg (by simp; omega)] at hx
              obtain ⟨hb, hx⟩ := ite_some hx
              simp only [decide_eq_true_eq] at hb
              refine ⟨by rw [show (2 : Nat) ^ 46 = 70368744177664 from rfl]; exact hb, fun b c hbn hkc => ?_⟩
              refine new_sim hR hx hA (b := b) (base := 0) (sz := sz) (room := c * sz) (len := ys'.length) (cap := c) (lp := noLp) hR hbn (OK.cells_new hys (fun _ => rfl) (fun t ht => ht)) ?_
              obtain ⟨q1, q2, q3, q4, q5, q6, _⟩ := Sl.upd_at S st.N b 0 sz (c * sz) ys'.length c noLp
              have := RD.so (S := S.upd st.N b 0 sz (c * sz) ys'.length c noLp) (N := st.N + 1) (a := st.N) (q := 0) (n := k) (by omega) (by rw [q6]; omega) (by rw [q2, q3, q4, q6]; omega) (by rw [q2, q3, q5, ← hys.length, hl]; simp only [Nat.zero_add]; exact Nat.le_refl _) (by rw [q3]; exact hsz)
              rw [q1, q2, q3, q6] at this
              simpa using this
          · rename_i heq; cases heq
          · cases hx
      | _ => simp at hx
    case sx a off n c h hnc hb hr hl' =>
      split at hx
      · rename_i heq; cases heq
      · rename_i heq
        cases heq
        split at hx
        · rename_i cs sz' ty hAa
          have hq := ite_some hx
          clear hx
          obtain ⟨hc, hx⟩ := hq
          simp only [decide_eq_true_eq, bled, beqd] at hc hx
          obtain ⟨⟨⟨⟨⟨hc1, hc2⟩, hc3⟩, hc4⟩, hc5⟩, hc6⟩ := hc
          subst hc3
          have htt : ∀ t, ty = some t → t = e := by rintro t rfl; simpa using hc1
          obtain ⟨cs', frz, room, ty', f0, f1, f2, f3, f4, f5, f6, f7, f8⟩ := hR.at hAa
          subst f4
          exact append_at hR hAa hc2 hc4 hc5 hc6 htt hys hl hx hA (.sx h hnc hb hr hl') (.inr rfl) hl' hr hnc (fun _ hge => ⟨rfl, fun hh => by omega⟩)
        · cases hx
      · rename_i hn1 hn2; exact absurd rfl (hn2 _ _ _ _)
    case so a q n h hn hr hl' hz =>
      split at hx
      · rename_i heq; cases heq
      · rename_i heq
        cases heq
        split at hx
        · rename_i cs sz' ty hAa
          have hq := ite_some hx
          clear hx
          obtain ⟨hc, hx⟩ := hq
          simp only [decide_eq_true_eq, bled, beqd] at hc hx
          obtain ⟨⟨⟨⟨⟨hc1, hc2⟩, hc3⟩, hc4⟩, hc5⟩, hc6⟩ := hc
          subst hc3
          have htt : ∀ t, ty = some t → t = e := by rintro t rfl; simpa using hc1
          obtain ⟨cs', frz, room, ty', f0, f1, f2, f3, f4, f5, f6, f7, f8⟩ := hR.at hAa
          subst f4
          have m1 : (q + n) * S.sz a = q * S.sz a + n * S.sz a := Nat.add_mul ..
          have m2 : q * S.sz a + (S.cap a - q) * S.sz a = S.cap a * S.sz a := by rw [← Nat.add_mul]; congr 1; omega
          exact append_at hR hAa hc2 hc4 hc5 hc6 htt hys hl hx hA (.so h hn hr hl' hz) (.inr rfl) (by omega) (by omega) (by omega) (fun _ hge => ⟨rfl, fun hh => absurd hh.1 (Nat.lt_irrefl _)⟩)
        · cases hx
      · rename_i hn1 hn2; exact absurd rfl (hn2 _ _ _ _)
    case st a off off' h hl' hr =>
      split at hx
      · rename_i heq; cases heq
      · rename_i heq
        cases heq
        split at hx
        · rename_i cs sz' ty hAa
          have hq := ite_some hx
          clear hx
          obtain ⟨hc, hx⟩ := hq
          simp only [decide_eq_true_eq, bled, beqd] at hc hx
          obtain ⟨⟨⟨⟨⟨hc1, hc2⟩, hc3⟩, hc4⟩, hc5⟩, hc6⟩ := hc
          subst hc3
          have htt : ∀ t, ty = some t → t = e := by rintro t rfl; simpa using hc1
          obtain ⟨cs', frz, room, ty', f0, f1, f2, f3, f4, f5, f6, f7, f8⟩ := hR.at hAa
          subst f4
          exact append_at hR hAa hc2 hc4 hc5 hc6 htt hys hl hx hA (.st h hl' hr) (.inl ⟨rfl, rfl⟩) (by omega) (by omega) (Nat.le_refl _) (fun hk hge => absurd hge (by omega))
        · cases hx
      · rename_i hn1 hn2; exact absurd rfl (hn2 _ _ _ _)
end Go.Fsl
