/- A part of our logic over the resolved code, or of a proof in it. -/
import Derived.Test.YtdajenjajmofiaaGreatDoorFslEv6
set_option linter.unusedSimpArgs false
set_option linter.unusedVariables false
namespace Go.Fsl
variable {P : Program} {C : CallSem} {S : Sl} {G : Nat} {τ : T D} {τ' : Tmps} {st : St} {H0 H : Heap} {h : Hnd}

theorem optD_some {st : St} {o : Option D} {outs : List (D × St)} (h : optD st o = some outs) : ∃ d, o = some d ∧ outs = [(d, st)] := by
  cases o with
  | none => cases h
  | some d => cases h; exact ⟨d, rfl, rfl⟩

theorem HR.put (hR : HR S G st H0 H) {a : Nat} {p : AO} (hp : st.A.get a = some p) (ha : G ≤ a) {o : AO} {o' : O} (ho : OK S st.N G a o o') :
    HR S G { st with A := st.A.put a o } H0 (H.ins (S.blk a) o') :=
  hR.upd hp ha (by have := hR.live a p hp; have := hR.big; omega) ho

theorem exOp_sound (hS : HS G h C) (hR : HR S G st H0 H) (hF : FR S st.N τ τ') {o : ROp} (hok : okOpC G o = true) {outs : List (D × St)} {K : D → Heap → Prop}
    (hx : exOp G h o τ st = some outs) (hA : Aft S st.N G H0 outs K) : opW P C o τ' H K := by
  have hg := hR.gl
  have pure' : o.cls = .pure → own o = false → exOp G h o τ st = optD st (pureV o (fr τ)) → opW P C o τ' H K := by
    intro hc ho he
    rw [he] at hx
    obtain ⟨d, hd, rfl⟩ := optD_some hx
    obtain ⟨d', e1, e2⟩ := pure_sim hg hF hc ho hok hd
    exact (pure_spec hc τ' H K).2 ⟨d', e1, hA.one _ _ _ (.refl _ _) hR e2⟩
  have load' : isObj o = true → o.cls = .load → exOp G h o τ st = optD st (loadV o (fr τ) ((st.A.get (loadB o (fr τ))).bind AO.toO)) → opW P C o τ' H K := by
    intro ho hc he
    rw [he] at hx
    obtain ⟨d, hd, rfl⟩ := optD_some hx
    obtain ⟨d', e1, e2⟩ := load_sim hR hF ho hok hd
    exact (load_spec (.inr hc) τ' H K).2 ⟨d', e1, hA.one _ _ _ (.refl _ _) hR e2⟩
  cases o
  case alloc cs t =>
    intro b hb
    have hl := RDs.leaves (S := S) (N := st.N) (show cs.all plainL = true from hok)
    refine new_sim hR hx hA (b := b) (base := 0) (sz := 0) (room := 0) (len := cs.length) (cap := 0) (lp := noLp) hR hb (OK.cells_new hl (fun _ => rfl) (fun _ h => h)) ?_
    have := RD.ptr (S := S.upd st.N b 0 0 0 cs.length 0 noLp) (N := st.N + 1) (a := st.N) (off := 0) (by omega)
    simpa [Sl.upd] using this
  case box x =>
    have e1 := ev_sim hg hF hok
    simp only [exOp] at hx
    simp only [opW]
    cases hc : (x.ev (fr τ)).cells with
    | none => rw [hc] at hx; cases hx
    | some cs =>
      rw [hc] at hx
      obtain ⟨cs', e2, e3⟩ := e1.cells hc
      rw [e2]
      intro b hb
      refine new_sim hR hx hA (b := b) (base := 0) (sz := 0) (room := 0) (len := cs'.length) (cap := 0) (lp := noLp) hR hb (OK.cells_new e3 (fun _ => rfl) (fun _ h => h)) ?_
      have := RD.ptr (S := S.upd st.N b 0 0 0 cs'.length 0 noLp) (N := st.N + 1) (a := st.N) (off := 0) (by omega)
      simpa [Sl.upd] using this
  case store n a x =>
    simp only [okOpC, Bool.and_eq_true] at hok
    have e1 := ev_sim hg hF hok.1
    have e2 := ev_sim hg hF hok.2
    simp only [exOp] at hx
    simp only [opW]
    generalize a.ev τ' = ay at *
    generalize a.ev (fr τ) = ax at *
    cases e1 <;> try (simp only [reduceCtorEq] at hx; done)
    case v v hv => cases v with
      | pointer A => cases A <;> simp_all [plainV, plain1]
      | _ => simp at hx
    case ptr a off ha =>
      simp only [bled, cond_dec] at hx
      have hq := ite_some hx; clear hx
      obtain ⟨hGa, hx⟩ := hq
      cases hAa : st.A.get a with
      | none => rw [hAa] at hx; cases hx
      | some p =>
        rw [hAa] at hx
        cases p <;> try (simp only [reduceCtorEq] at hx; done)
        rename_i cs sz ty
        obtain ⟨cs', frz, room, ty', f0, f1, f2, f3, f4, f5, f6, f7, f8⟩ := hR.at hAa
        simp only [f0]
        cases hc : (x.ev (fr τ)).cells with
        | none => rw [hc] at hx; cases hx
        | some ds =>
          rw [hc] at hx
          obtain ⟨ds', e3, e4⟩ := e2.cells hc
          simp only [e3]
          simp only [beqd, cond_eq_ite, Bool.and_eq_true, decide_eq_true_eq, bled] at hx
          have hq := ite_some hx; clear hx
          obtain ⟨⟨⟨g1, g2⟩, g3⟩, hx⟩ := hq
          cases hx
          have hlen := f1.length
          rw [List.length_drop] at hlen
          refine ⟨by rw [← e4.length]; exact g1, by have := f2 hGa; omega, by omega, by rw [e4.one_all]; exact g3, ?_⟩
          have hdrop : (setMany cs' (S.base a + off) ds').drop (S.base a) = setMany (cs'.drop (S.base a)) off ds' := by
            clear e3 e4 hA f0 f1 f3 f4 f5 f6 hlen g2
            induction ds' generalizing cs' off with
            | nil => rfl
            | cons d ds ih =>
              simp only [setMany]
              have := ih (cs' := cs'.set (S.base a + off) d) (off := off + 1)
              rw [← Nat.add_assoc] at this
              rw [this]
              congr 1
              rw [List.drop_set]
              split
              · omega
              · congr 1; omega
          have hls : ∀ (ds cs : List D) i, (setMany cs i ds).length = cs.length := by
            intro ds
            induction ds with
            | nil => intro cs i; rfl
            | cons d ds ih => intro cs i; simp only [setMany]; rw [ih, List.length_set]
          exact hA.one _ _ _ (.refl _ _) (hR.put hAa hGa ⟨by rw [hdrop]; exact e4.setMany f1 off, f2, f3, f4, by rw [hls]; exact f5, by rw [hls]; exact f6, f7, f8⟩) RDs.nil.tup
  case cvsb x =>
    have e1 := ev_sim hg hF hok
    simp only [exOp] at hx
    simp only [opW]
    generalize x.ev τ' = ay at *
    generalize x.ev (fr τ) = ax at *
    split at hx
    · rename_i s
      rw [e1.str]
      intro b c hb hc
      refine new_sim hR hx hA (b := b) (base := 0) (sz := 1) (room := c) (len := (s.data.toList.map byteD).length) (cap := c) (lp := noLp) hR hb (OK.cells_new (.bytes _) (fun _ => rfl) (fun _ h => by cases h)) ?_
      have hl : (s.data.toList.map byteD).length = s.size := by rw [List.length_map]; rfl
      obtain ⟨q1, q2, q3, q4, q5, q6, _⟩ := Sl.upd_at S st.N b 0 1 c (s.data.toList.map byteD).length c noLp
      have := RD.so (S := S.upd st.N b 0 1 c (s.data.toList.map byteD).length c noLp) (N := st.N + 1) (a := st.N) (q := 0) (n := s.size) (by omega) (by rw [q6]; omega) (by rw [q2, q3, q4, q6]; omega) (by rw [q2, q3, q5, hl]; omega) (by rw [q3]; decide)
      rw [q1, q2, q3, q6] at this
      simpa using this
    · cases hx
  case cvbs x =>
    have e1 := ev_sim hg hF hok
    simp only [exOp] at hx
    simp only [opW]
    generalize x.ev τ' = ay at *
    generalize x.ev (fr τ) = ax at *
    split at hx
    · cases hx
    · rename_i hns
      cases hs : srcA st.A 1 ax with
      | none => rw [hs] at hx; cases hx
      | some p =>
        obtain ⟨k, cs⟩ := p
        rw [hs] at hx
        obtain ⟨cs', e2, e3⟩ := src_sim hR e1 hs
        refine ⟨fun s hs' => ?_, ?_⟩
        · subst hs'
          cases e1
          exact hns _ rfl
        · rw [e2]
          simp only at hx ⊢
          cases hl : bytesOf cs with
          | none => rw [hl] at hx; cases hx
          | some l =>
            rw [hl] at hx
            rw [bytesOf_sim e3 hl, hl]
            simp only [beqd, cond_eq_ite, Bool.and_eq_true, decide_eq_true_eq] at hx
            have hq := ite_some hx; clear hx
            obtain ⟨⟨g1, g2⟩, hx⟩ := hq
            cases hx
            exact ⟨g1, g2, hA.one _ _ _ (.refl _ _) hR (.v rfl)⟩
  case bslice sz zs n parts =>
    simp only [okOpC, Bool.and_eq_true] at hok
    simp only [exOp] at hx
    simp only [opW]
    cases hb : buildCells (fr τ) (List.replicate n zs).flatten parts with
    | none => rw [hb] at hx; cases hx
    | some cs =>
      rw [hb] at hx
      obtain ⟨cs', e1, e2⟩ := build_sim hg hF hok.2 (RDs.flatten (m := n) (RDs.leaves hok.1)) hb
      rw [e1]
      simp only [beqd, bltd, cond_eq_ite, Bool.and_eq_true, decide_eq_true_eq] at hx
      have hq := ite_some hx; clear hx
      obtain ⟨⟨g1, g2⟩, hx⟩ := hq
      refine ⟨g1, fun b hbn => ?_⟩
      have hlen : cs'.length = n * sz := by
        have hbl : ∀ {ps : List (Nat × Nat × RO)} {a r : List D}, buildCells (fr τ) a ps = some r → r.length = a.length := by
          intro ps
          induction ps with
          | nil => intro a r h; cases h; rfl
          | cons p ps ih =>
            intro a r h
            obtain ⟨off, m, x⟩ := p
            simp only [buildCells] at h
            split at h
            · split at h
              · have := ih h
                rw [this]
                have hls : ∀ (ds cs : List D) i, (setMany cs i ds).length = cs.length := by
                  intro ds
                  induction ds with
                  | nil => intro cs i; rfl
                  | cons d ds ih => intro cs i; simp only [setMany]; rw [ih, List.length_set]
                exact hls _ _ _
              · cases h
            · cases h
        rw [← e2.length, hbl hb]
        simp [g1]
      refine new_sim hR hx hA (b := b) (base := 0) (sz := sz) (room := n * sz) (len := cs'.length) (cap := n) (lp := noLp) hR hbn (OK.cells_new e2 (fun _ => rfl) (fun _ h => by cases h)) ?_
      obtain ⟨q1, q2, q3, q4, q5, q6, _⟩ := Sl.upd_at S st.N b 0 sz (n * sz) cs'.length n noLp
      have := RD.sx (S := S.upd st.N b 0 sz (n * sz) cs'.length n noLp) (N := st.N + 1) (a := st.N) (off := 0) (n := n) (c := n) (by omega) (Nat.le_refl _) g2 (by rw [q2, q3, q4]; omega) (by rw [q2, q3, q5]; omega)
      rw [q1, q2] at this
      simpa using this
  case append sz bytes z e a x =>
    simp only [okOpC, Bool.and_eq_true] at hok
    exact append_sim hR hF hok.1 hok.2 hx hA
  case mkslice sz bytes zero l c =>
    simp only [okOpC, Bool.and_eq_true] at hok
    have e1 := ev_sim hg hF hok.1.2
    have e2 := ev_sim hg hF hok.2
    simp only [exOp] at hx
    simp only [opW]
    split at hx
    · rename_i l' c' hl hc
      rw [e1.intD hl, e2.intD hc, hl, hc]
      have hq := ite_some hx; clear hx
      obtain ⟨⟨g1, g2, g3, g4, g5⟩, hx⟩ := hq
      refine ⟨g1, g2, by rw [show (2 : Int) ^ 46 = 70368744177664 from rfl]; exact g3, by rw [show (2 : Int) ^ 46 = 70368744177664 from rfl]; exact g4, g5, fun b hb => ?_⟩
      have hlen : (List.replicate l'.toNat zero).flatten.length = l'.toNat * sz := by simp [g5]
      have hls := RDs.flatten (m := l'.toNat) (RDs.leaves (S := S) (N := st.N) hok.1.1)
      refine new_sim hR hx hA (b := b) (base := 0) (sz := sz) (room := c'.toNat * sz) (len := (List.replicate l'.toNat zero).flatten.length) (cap := c'.toNat) (lp := noLp) hR hb (OK.cells_new hls (fun _ => rfl) (fun _ h => by cases h)) ?_
      obtain ⟨q1, q2, q3, q4, q5, q6, _⟩ := Sl.upd_at S st.N b 0 sz (c'.toNat * sz) (List.replicate l'.toNat zero).flatten.length c'.toNat noLp
      have := RD.sx (S := S.upd st.N b 0 sz (c'.toNat * sz) (List.replicate l'.toNat zero).flatten.length c'.toNat noLp) (N := st.N + 1) (a := st.N) (off := 0) (n := l'.toNat) (c := c'.toNat) (by omega) (by omega)
        (by have : (BIG : Int) = 4611686018427387904 := rfl; omega) (by rw [q2, q3, q4]; omega) (by rw [q2, q3, q5, hlen]; omega)
      rw [q1, q2] at this
      simpa using this
    · cases hx
  case mkmap =>
    intro b hb
    refine new_sim hR hx hA (b := b) (base := 0) (sz := 0) (room := 0) (len := 0) (cap := 0) (lp := noLp) hR hb (o' := .map [] 0) ⟨rfl, rfl, fun i h => absurd h (by simp)⟩ ?_
    have := RD.map (S := S.upd st.N b 0 0 0 0 0 noLp) (N := st.N + 1) (a := st.N) (by omega)
    simpa [Sl.upd] using this
  case mapupd kd m k x =>
    simp only [okOpC, Bool.and_eq_true] at hok
    have e1 := ev_sim hg hF hok.1.1
    have e2 := ev_sim hg hF hok.1.2
    have e3 := ev_sim hg hF hok.2
    simp only [exOp, cond_eq_ite] at hx
    simp only [opW]
    have hq := ite_some hx; clear hx
    obtain ⟨hk, hx⟩ := hq
    have hkk := keyOk_sim e2 hk
    rw [hkk] at e2 ⊢
    refine ⟨hk, ?_⟩
    generalize m.ev τ' = ay at *
    generalize m.ev (fr τ) = ax at *
    cases e1 <;> try (simp only [reduceCtorEq] at hx; done)
    case v v hv => cases v with
      | map A => cases A <;> simp_all [plainV, plain1]
      | _ => simp at hx
    case map a ha =>
      simp only [bled, decide_eq_true_eq] at hx
      have hq := ite_some hx; clear hx
      obtain ⟨hGa, hx⟩ := hq
      cases hAa : st.A.get a with
      | none => rw [hAa] at hx; cases hx
      | some p =>
        rw [hAa] at hx
        cases p <;> try (simp only [reduceCtorEq] at hx; done)
        rename_i es cl
        dsimp only at hx
        obtain ⟨o', f0, f1⟩ := hR.obj a _ hAa
        obtain ⟨es', rfl, hes⟩ := f1.map_of
        simp only [f0]
        cases hf : findE kd (k.ev (fr τ)) es 0 with
        | none => rw [hf] at hx; cases hx
        | some r =>
          rw [hf] at hx
          rcases findE_sim hk hes hf with ⟨rfl, g2⟩ | ⟨j, d, d', rfl, g2, g3⟩
          · rw [g2]
            cases hx
            have hes2 := (hes.append (RE.cons (b := cl) e2 e3 .nil)).idx
            exact hA.one _ _ _ (.refl _ _) (hR.put hAa hGa ⟨rfl, hes2.1, hes2.2⟩) RDs.nil.tup
          · rw [g2]
            cases hx
            have hes2 := (hes.modify e2 e3 j).idx
            exact hA.one _ _ _ (.refl _ _) (hR.put hAa hGa ⟨rfl, hes2.1, hes2.2⟩) RDs.nil.tup
  case srange x =>
    have e1 := ev_sim hg hF hok
    simp only [exOp] at hx
    simp only [opW]
    generalize x.ev τ' = ay at *
    generalize x.ev (fr τ) = ax at *
    split at hx
    · rename_i s
      rw [e1.str]
      intro b hb
      refine new_sim hR hx hA (b := b) (base := 0) (sz := 0) (room := 0) (len := 0) (cap := 0) (lp := noLp) hR hb (o' := .siter s 0) ⟨rfl, rfl, by simp [Sl.upd]⟩ ?_
      have := RD.ptr (S := S.upd st.N b 0 0 0 0 0 noLp) (N := st.N + 1) (a := st.N) (off := 0) (by omega)
      simpa [Sl.upd] using this
    · cases hx
  case mrange x =>
    have e1 := ev_sim hg hF hok
    simp only [exOp] at hx
    simp only [opW]
    generalize x.ev τ' = ay at *
    generalize x.ev (fr τ) = ax at *
    cases e1 <;> try (simp only [reduceCtorEq] at hx; done)
    case v v hv => cases v with
      | map A => cases A <;> simp_all [plainV, plain1]
      | _ => simp at hx
    case map a ha =>
      cases hAa : st.A.get a with
      | none => simp only [hAa] at hx; cases hx
      | some p =>
        simp only [hAa] at hx
        cases p <;> try (simp only [reduceCtorEq] at hx; done)
        rename_i es cl
        obtain ⟨o', f0, f1⟩ := hR.obj a _ hAa
        obtain ⟨es', rfl, hes⟩ := f1.map_of
        simp only [f0]
        intro b hb
        refine new_sim hR hx hA (b := b) (base := 0) (sz := 0) (room := 0) (len := 0) (cap := 0) (lp := noLp) hR hb (o' := .miter (S.blk a) cl [] cl) ⟨by omega, ?_, rfl, rfl, rfl, by simp [Sl.upd]⟩ ?_
        · exact ((Sl.upd_ext S st.N b 0 0 0 0 0 noLp) a ha).1.symm
        · have := RD.ptr (S := S.upd st.N b 0 0 0 0 0 noLp) (N := st.N + 1) (a := st.N) (off := 0) (by omega)
          simpa [Sl.upd] using this
  case next str it =>
    have e1 := ev_sim hg hF hok
    cases str
    case «true» =>
      simp only [exOp] at hx
      simp only [opW]
      generalize it.ev τ' = ay at *
      generalize it.ev (fr τ) = ax at *
      cases e1 <;> try (simp only [reduceCtorEq] at hx; done)
      case v v hv => cases v with
        | pointer A => cases A <;> simp_all [plainV, plain1]
        | _ => simp at hx
      case ptr a off ha =>
        split at hx
        · rename_i heq
          cases heq
          simp only [bled, cond_dec] at hx
          have hq := ite_some hx; clear hx
          obtain ⟨hGa, hx⟩ := hq
          cases hAa : st.A.get a with
          | none => rw [hAa] at hx; cases hx
          | some p =>
            rw [hAa] at hx
            cases p <;> try (simp only [reduceCtorEq] at hx; done)
            rename_i s pos
            obtain ⟨o', f0, f1⟩ := hR.obj a _ hAa
            cases o' <;> try (exact f1.elim)
            rename_i s' pos'
            obtain ⟨rfl, rfl, hb0⟩ := f1
            simp only [hb0, Nat.add_zero, f0]
            simp only [bltd, cond_dec] at hx
            split at hx
            · rename_i hlt
              cases hx
              rw [if_pos hlt]
              exact hA.one _ _ _ (.refl _ _) (hR.put hAa hGa ⟨rfl, rfl, hb0⟩) (RDs.cons (.v rfl) (.cons (.v rfl) (.cons (.v rfl) .nil))).tup
            · rename_i hlt
              cases hx
              rw [if_neg hlt]
              exact hA.one _ _ _ (.refl _ _) hR (RDs.cons (.v rfl) .nil).tup
        · cases hx
    case «false» =>
      simp only [exOp] at hx
      simp only [opW]
      generalize it.ev τ' = ay at *
      generalize it.ev (fr τ) = ax at *
      cases e1 <;> try (simp only [reduceCtorEq] at hx; done)
      case v v hv => cases v with
        | pointer A => cases A <;> simp_all [plainV, plain1]
        | _ => simp at hx
      case ptr a off ha =>
        split at hx
        · rename_i heq
          cases heq
          simp only [bled, cond_dec] at hx
          have hq := ite_some hx; clear hx
          obtain ⟨hGa, hx⟩ := hq
          cases hAa : st.A.get a with
          | none => rw [hAa] at hx; cases hx
          | some p =>
            rw [hAa] at hx
            cases p <;> try (simp only [reduceCtorEq] at hx; done)
            rename_i m since seen stepped
            obtain ⟨o', f0, f1⟩ := hR.obj a _ hAa
            cases o' <;> try (exact f1.elim)
            obtain ⟨hm, rfl, rfl, rfl, rfl, hb0⟩ := f1
            simp only [hb0, Nat.add_zero, f0]
            cases hAm : st.A.get m with
            | none => simp only [hAm] at hx; cases hx
            | some p =>
              simp only [hAm] at hx
              cases p <;> try (simp only [reduceCtorEq] at hx; done)
              rename_i es cl
              obtain ⟨o', g0, g1⟩ := hR.obj m _ hAm
              obtain ⟨es', rfl, hes⟩ := g1.map_of
              simp only [g0]
              simp only [cond_eq_ite, Bool.and_eq_true, bltd] at hx
              have hq := ite_some hx; clear hx
              obtain ⟨⟨hc1, hc2⟩, hx⟩ := hq
              cases hx
              have hi := hes.idx
              have hback : ∀ e' ∈ es', ∃ e ∈ es, e.1 = e'.1 ∧ RD S st.N e.2.1 e'.2.1 ∧ RD S st.N e.2.2 e'.2.2 := by
                intro e' he'
                obtain ⟨i, h1, h2⟩ := List.getElem_of_mem he'
                have h3 : i < es.length := by rw [hi.1]; exact h1
                obtain ⟨k1, k2, k3⟩ := hi.2 i h3 h1
                rw [h2] at k1 k2 k3
                exact ⟨_, List.getElem_mem h3, k1, k2, k3⟩
              have hforth : ∀ e ∈ es, ∃ e' ∈ es', e.1 = e'.1 := by
                intro e he
                obtain ⟨i, h1, h2⟩ := List.getElem_of_mem he
                have h3 : i < es'.length := by rw [← hi.1]; exact h1
                obtain ⟨k1, _⟩ := hi.2 i h1 h3
                rw [h2] at k1
                exact ⟨_, List.getElem_mem h3, k1⟩
              refine ⟨?_, fun e' he' => ?_, fun e' he' hns => ?_, fun hall => ?_⟩
              · simp only [Bool.or_eq_true, List.isEmpty_iff, List.any_eq_true, decide_eq_true_eq] at hc1
                rcases hc1 with (h1 | h1) | ⟨e, he, hlt⟩
                · exact .inl h1
                · subst h1; cases hes; exact .inr (.inl rfl)
                · obtain ⟨e', he', h2⟩ := hforth e he
                  exact .inr (.inr ⟨e', he', by rw [← h2]; exact hlt⟩)
              · obtain ⟨e, he, h2, _⟩ := hback e' he'
                simp only [List.all_eq_true, decide_eq_true_eq] at hc2
                rw [← h2]; exact hc2 e he
              · obtain ⟨e, he, h2, h3, h4⟩ := hback e' he'
                refine hA (.tup [.b true, e.2.1, e.2.2], { st with A := st.A.put a (.miter m since (seen ++ [e.1]) cl) }) ?_ S _ _ (.refl _ _) (hR.put hAa hGa ⟨hm, rfl, rfl, by rw [h2], rfl, hb0⟩) (RDs.cons (.v rfl) (.cons h3 (.cons h4 .nil))).tup
                refine List.mem_append_left _ (List.mem_map.2 ⟨e, List.mem_filter.2 ⟨he, ?_⟩, rfl⟩)
                rw [h2]
                simpa using hns
              · refine hA (.tup [.b false], st) ?_ S _ _ (.refl _ _) hR (RDs.cons (.v rfl) .nil).tup
                refine List.mem_append_right _ ?_
                rw [if_pos]
                · exact List.mem_singleton.2 rfl
                · rw [List.all_eq_true]
                  intro e he
                  obtain ⟨e', he', h2⟩ := hforth e he
                  rw [h2]
                  simpa using hall e' he'
        · cases hx
  case entry it =>
    have e1 := ev_sim hg hF hok
    simp only [exOp] at hx
    simp only [opW]
    generalize it.ev τ' = ay at *
    generalize it.ev (fr τ) = ax at *
    cases e1 <;> try (simp only [reduceCtorEq] at hx; done)
    case v v hv => cases v with
      | pointer A => cases A <;> simp_all [plainV, plain1]
      | _ => simp at hx
    case ptr a off ha =>
      split at hx
      · rename_i heq
        cases heq
        cases hAa : st.A.get a with
        | none => simp only [hAa] at hx; cases hx
        | some p =>
          simp only [hAa] at hx
          cases p <;> try (simp only [reduceCtorEq] at hx; done)
          rename_i m since seen stepped
          obtain ⟨o', f0, f1⟩ := hR.obj a _ hAa
          cases o' <;> try (exact f1.elim)
          obtain ⟨hm, rfl, rfl, rfl, rfl, hb0⟩ := f1
          simp only [hb0, Nat.add_zero, f0]
          cases hAm : st.A.get m with
          | none => simp only [hAm] at hx; cases hx
          | some p =>
            simp only [hAm] at hx
            cases p <;> try (simp only [reduceCtorEq] at hx; done)
            rename_i es cl
            obtain ⟨o', g0, g1⟩ := hR.obj m _ hAm
            obtain ⟨es', rfl, hes⟩ := g1.map_of
            simp only [g0]
            cases hs : seen.getLast? with
            | none => rw [hs] at hx; cases hx
            | some k =>
              rw [hs] at hx
              dsimp only at hx ⊢
              simp only [beqd, cond_dec] at hx
              have hq := ite_some hx; clear hx
              obtain ⟨hc, hx⟩ := hq
              refine ⟨hc, ?_⟩
              have hfind : ∀ {es es' : List (Nat × D × D)}, RE S st.N es es' → ∀ e, es.find? (·.1 == k) = some e → ∃ e', es'.find? (·.1 == k) = some e' ∧ RD S st.N e.2.1 e'.2.1 ∧ RD S st.N e.2.2 e'.2.2 := by
                intro es es' hes
                induction hes with
                | nil => intro e he; cases he
                | cons h1 h2 _ ih =>
                  rename_i b _ _ _ _ _ _ _
                  intro e he
                  simp only [List.find?_cons] at he ⊢
                  cases hbk : b == k with
                  | true => rw [hbk] at he; cases he; exact ⟨_, rfl, h1, h2⟩
                  | false => rw [hbk] at he; exact ih e he
              cases hf : es.find? (·.1 == k) with
              | none => rw [hf] at hx; cases hx
              | some e =>
                rw [hf] at hx
                obtain ⟨e', k1, k2, k3⟩ := hfind hes e hf
                rw [k1]
                cases hx
                exact hA.one _ _ _ (.refl _ _) hR (RDs.cons k2 (.cons k3 .nil)).tup
      · cases hx
  case call c args =>
    cases c with
    | fn f =>
      have e1 := evs_sim hg hF (xs := args) hok
      exact ⟨_, _, Ghost.refl' P _ _, hS _ _ _ _ _ _ _ _ _ _ hx hR e1 (.fn f) hA⟩
    | val x =>
      simp only [okOpC, Bool.and_eq_true] at hok
      have e1 := evs_sim hg hF (xs := args) hok.2
      have e2 := ev_sim hg hF hok.1
      simp only [exOp] at hx
      simp only [opW]
      generalize x.ev τ' = ay at *
      generalize x.ev (fr τ) = ax at *
      cases e2 <;> try (simp only [reduceCtorEq] at hx; done)
      case v v hv => cases v with
        | func t f c => cases t <;> simp_all [plainV, plain1]
        | _ => simp at hx
      case yld a ha =>
        simp only [Array.isEmpty_empty, Bool.and_self, cond_true] at hx
        exact ⟨rfl, rfl, hS _ _ _ _ _ _ _ _ _ _ hx hR e1 (.yld ha) hA⟩
      case fn f cs cs' hl hr =>
        exact ⟨_, _, Ghost.refl' P _ _, hS _ _ _ _ _ _ _ _ _ _ hx hR (e1.append (.of hl hr)) (.fn f) hA⟩
  case iface t x =>
    have e1 := ev_sim hg hF hok
    simp only [exOp] at hx
    simp only [opW]
    generalize x.ev τ' = ay at *
    generalize x.ev (fr τ) = ax at *
    split at hx
    · rename_i v
      simp only [cond_eq_ite] at hx
      have hq := ite_some hx; clear hx
      obtain ⟨hp, hx⟩ := hq
      cases hx
      have hv : plainV v = true := by cases v <;> first | exact hp | (simp [plain1] at hp)
      cases e1 <;> try (simp [plain1] at hp; done)
      exact hA.one _ _ _ (.refl _ _) hR (.v hp)
    · cases hx
  case slc str sz x lo hi mx =>
    simp only [okOpC, Bool.and_eq_true] at hok
    have e1 := ev_sim hg hF hok.1.1.1
    simp only [exOp] at hx
    generalize hxe : x.ev (fr τ) = ax at *
    split at hx
    · rename_i a off n c
      cases str with
      | true => cases hx
      | false =>
        obtain ⟨d, hd, rfl⟩ := optD_some hx
        exact slc_sim hR hF hok.1.1.2 hok.1.2 hok.2 hd e1 (fun d' hd' => hA.one _ _ _ (.refl _ _) hR hd') rfl
    · rename_i hns
      obtain ⟨d, hd, rfl⟩ := optD_some hx
      simp only [pureV, hxe] at hd
      simp only [opW]
      generalize x.ev τ' = ay at *
      cases e1 <;> try (simp only [reduceCtorEq] at hd; done)
      case v v hv =>
        cases v <;> try (simp only [reduceCtorEq] at hd; done)
        case string s =>
          dsimp only at hd ⊢
          split at hd
          · rename_i l hh hl hhh
            have hq := ite_some hd; clear hd
            obtain ⟨hc, hd⟩ := hq
            cases hd
            simp only [opt_sim hg hF hok.1.1.2 hl, opt_sim hg hF hok.1.2 hhh]
            exact ⟨hc.1, hc.2.1, hc.2.2.1, hc.2.2.2.1, hc.2.2.2.2, hA.one _ _ _ (.refl _ _) hR (.v rfl)⟩
          · cases hd
        case slice A n c =>
          cases A with
          | some A => simp [plainV, plain1] at hv
          | none =>
            split at hd <;> try (rename_i heq; cases heq; done)
            · rename_i heq
              cases heq
              split at hd
              · rename_i l hh m hl hhh hm
                have hq := ite_some hd; clear hd
                obtain ⟨hc, hd⟩ := hq
                cases hd
                simp only [opt_sim hg hF hok.1.1.2 hl, opt_sim hg hF hok.1.2 hhh, opt_sim hg hF hok.2 hm]
                exact ⟨hc.1, hc.2.1, hc.2.2.1, hc.2.2.2, hA.one _ _ _ (.refl _ _) hR (.v rfl)⟩
              · cases hd
            · cases hd
      case sx => exact absurd rfl (hns _ _ _ _)
      case so => exact absurd rfl (hns _ _ _ _)
      case st => exact absurd rfl (hns _ _ _ _)
  case usd x =>
    have e1 := ev_sim hg hF hok
    simp only [exOp] at hx
    simp only [opW]
    generalize x.ev τ' = ay at *
    generalize x.ev (fr τ) = ax at *
    split at hx
    · cases e1
      cases hx
      exact hA.one _ _ _ (.refl _ _) hR (.v rfl)
    · rename_i A n c
      simp only [bltd, cond_dec] at hx
      have hq := ite_some hx; clear hx
      obtain ⟨hn, hx⟩ := hq
      cases hx
      cases e1 with
      | v hv => simp [plainV, plain1] at hv
      | sx h hnc hb hr hl => exact ⟨by omega, hA.one _ _ _ (.refl _ _) hR (.ptr h)⟩
      | so h hn' hr hl => exact ⟨by omega, hA.one _ _ _ (.refl _ _) hR (.ptr h)⟩
      | st h hl hr => omega
    · cases hx
  case cvt x =>
    have e1 := ev_sim hg hF hok
    simp only [exOp] at hx
    simp only [opW]
    generalize x.ev τ' = ay at *
    generalize x.ev (fr τ) = ax at *
    cases e1 <;> try (simp only [reduceCtorEq] at hx; done)
    case v v hv => cases v with
      | pointer A => cases A <;> simp_all [plainV, plain1]
      | _ => simp at hx
    case ptr a off ha =>
      cases hAa : st.A.get a with
      | none => simp only [hAa] at hx; cases hx
      | some p =>
        simp only [hAa] at hx
        cases p <;> try (simp only [reduceCtorEq] at hx; done)
        rename_i cs sz ty
        obtain ⟨cs', frz, room, ty', f0, f1, f2, f3, f4, f5, f6, f7, f8⟩ := hR.at hAa
        simp only [f0]
        simp only [bltd, cond_dec] at hx
        have hq := ite_some hx; clear hx
        obtain ⟨hn, hx⟩ := hq
        cases hx
        have hlen := f1.length
        rw [List.length_drop] at hlen
        exact ⟨by omega, hA.one _ _ _ (.refl _ _) hR (.ptr ha)⟩
  case cvu n u x =>
    have e1 := ev_sim hg hF hok
    simp only [exOp] at hx
    simp only [opW]
    generalize x.ev τ' = ay at *
    generalize x.ev (fr τ) = ax at *
    cases e1 <;> try (simp only [reduceCtorEq] at hx; done)
    case v v hv => cases v with
      | pointer A => cases A <;> simp_all [plainV, plain1]
      | _ => simp at hx
    case ptr a off ha =>
      split at hx
      · rename_i heq
        cases heq
        split at hx
        · rename_i cs t hAa
          obtain ⟨cs', frz, room, ty', f0, f1, f2, f3, f4, f5, f6, f7, f8⟩ := hR.at hAa
          simp only [beqd, bltd, bled, cond_eq_ite, Bool.and_eq_true, decide_eq_true_eq] at hx
          have hq := ite_some hx; clear hx
          obtain ⟨⟨⟨rfl, hn⟩, hle⟩, hx⟩ := hq
          cases hx
          have hlen := f1.length
          rw [List.length_drop] at hlen
          have hb0 := f8 (.inl rfl)
          have hp := RD.ptr (S := S) (N := st.N) (off := 0) ha
          rw [hb0, Nat.zero_add] at hp
          simp only [hb0, Nat.add_zero, f0]
          exact ⟨f7 _ rfl, hn, by omega, hA.one _ _ _ (.refl _ _) hR hp⟩
        · cases hx
      · cases hx
  case ust u p n =>
    simp only [okOpC, Bool.and_eq_true] at hok
    have e1 := ev_sim hg hF hok.1
    have e2 := ev_sim hg hF hok.2
    simp only [exOp] at hx
    simp only [opW]
    cases hn : intD (n.ev (fr τ)) with
    | none => rw [hn] at hx; cases hx
    | some m =>
      rw [hn] at hx
      rw [e2.intD hn, hn]
      dsimp only at hx ⊢
      generalize p.ev τ' = ay at *
      generalize p.ev (fr τ) = ax at *
      split at hx
      · rename_i h0
        rw [if_pos h0]
        cases e1 <;> try (simp only [reduceCtorEq] at hx; done)
        case v v hv => cases v with
          | pointer A => cases hx; exact hA.one _ _ _ (.refl _ _) hR (.v rfl)
          | _ => simp at hx
        case ptr => cases hx; exact hA.one _ _ _ (.refl _ _) hR (.v rfl)
      · rename_i h0
        rw [if_neg h0]
        have hq := ite_some hx; clear hx
        obtain ⟨hc, hx⟩ := hq
        refine ⟨hc.1, by rw [show (2 : Int) ^ 62 = 4611686018427387904 from rfl]; exact hc.2, ?_⟩
        cases e1 <;> try (simp only [reduceCtorEq] at hx; done)
        case v v hv => cases v with
          | pointer A => cases A <;> simp_all [plainV, plain1]
          | _ => simp at hx
        case ptr a off ha =>
          split at hx
          · rename_i heq
            cases heq
            simp only [bled, cond_dec] at hx
            have hq := ite_some hx; clear hx
            obtain ⟨hGa, hx⟩ := hq
            split at hx
            · rename_i cs sz t hAa
              obtain ⟨cs', frz, room, ty', f0, f1, f2, f3, f4, f5, f6, f7, f8⟩ := hR.at hAa
              have hq := ite_some hx; clear hx
              obtain ⟨⟨hle, rfl⟩, hx⟩ := hq
              cases hl : strictL (cs.take m.toNat) with
              | none => rw [hl] at hx; cases hx
              | some l =>
                rw [hl] at hx
                cases hx
                have hlen := f1.length
                rw [List.length_drop] at hlen
                have hb0 := f8 (.inr (by simp))
                · simp only [hb0, Nat.add_zero, f0]
                  rw [hb0, List.drop_zero] at f1
                  refine ⟨f7 _ rfl, by omega, by have := f2 hGa; omega, l, ?_, hA.one _ _ _ (.refl _ _) (hR.era hAa hGa (by have := hR.big; omega)) (.v rfl)⟩
                  have := f1.take m.toNat
                  rw [strictL_eq hl] at this
                  exact this.bytes_eq
            · cases hx
          · cases hx
  case load => exact load' rfl rfl rfl
  case lookup => exact load' rfl rfl rfl
  case mlen => exact load' rfl rfl rfl
  case dead => cases hx
  all_goals exact pure' rfl rfl rfl
end Go.Fsl
