/- A part of our logic over the resolved code, or of a proof in it. -/
import Derived.Test.YtdajenjajmofiaaGreatDoorFslEv3
set_option linter.unusedSimpArgs false
set_option linter.unusedVariables false
namespace Go.Fsl
variable {S : Sl} {G : Nat} {τ : T D} {τ' : Tmps} {st : St} {H0 H : Heap}

theorem HR.gl (h : HR S G st H0 H) : Gl S st.N G := ⟨h.hG, h.glob⟩

def Sl.upd (S : Sl) (N b base sz room len cap : Nat) (lp : Tmps × Nat × List Nat × RCode × RCode) : Sl where
  blk a := if a = N then b else S.blk a
  base a := if a = N then base else S.base a
  sz a := if a = N then sz else S.sz a
  room a := if a = N then room else S.room a
  len a := if a = N then len else S.len a
  cap a := if a = N then cap else S.cap a
  lp a := if a = N then lp else S.lp a
theorem Sl.upd_ext (S : Sl) (N b base sz room len cap : Nat) (lp : Tmps × Nat × List Nat × RCode × RCode) : S.ext (S.upd N b base sz room len cap lp) N := fun a ha => by
  have : a ≠ N := by omega
  simp [Sl.upd, this]
theorem Sl.upd_at (S : Sl) (N b base sz room len cap : Nat) (lp : Tmps × Nat × List Nat × RCode × RCode) :
    (S.upd N b base sz room len cap lp).blk N = b ∧ (S.upd N b base sz room len cap lp).base N = base ∧ (S.upd N b base sz room len cap lp).sz N = sz ∧ (S.upd N b base sz room len cap lp).room N = room ∧
    (S.upd N b base sz room len cap lp).len N = len ∧ (S.upd N b base sz room len cap lp).cap N = cap ∧ (S.upd N b base sz room len cap lp).lp N = lp := by simp [Sl.upd]
abbrev noLp : Tmps × Nat × List Nat × RCode × RCode := (fun _ => .undef, 0, [], .skip, .skip)

theorem On.upd (S : Sl) (N b base sz room len cap : Nat) (lp : Tmps × Nat × List Nat × RCode × RCode) : On S N (S.upd N b base sz room len cap lp) (N + 1) := ⟨Sl.upd_ext S N b base sz room len cap lp, Nat.le_succ N⟩

/-- A new object. -/
theorem HR.new (h : HR S G st H0 H) (hN : st.N < 4000000000) {b : Nat} (hb : H b = none) {S' : Sl} (hx : S.ext S' st.N) (hS : S'.blk st.N = b) {o : AO} {o' : O} (ho : OK S' (st.N + 1) G st.N o o') :
    HR S' G (st.new o) H0 (H.ins b o') where
  hG := Nat.le_succ_of_le h.hG
  big := hN
  glob := fun g hg => by
    obtain ⟨e1, e2, _⟩ := hx g (Nat.lt_of_lt_of_le hg h.hG)
    rw [e1, e2]; exact h.glob g hg
  live := fun a p hp => by
    simp only [St.new] at hp ⊢
    rw [T.get_put _ _ _ (by omega)] at hp
    split at hp
    · omega
    · have := h.live a p hp; omega
  inj := fun a c p q hp hq he => by
    simp only [St.new] at hp hq
    rw [T.get_put _ _ _ (by omega)] at hp hq
    split at hp <;> split at hq
    · omega
    · rename_i h1 h2
      obtain ⟨o2, e3, _⟩ := h.obj c q hq
      rw [h1, hS, (hx c (h.live c q hq)).1] at he
      rw [← he, hb] at e3; cases e3
    · rename_i h1 h2
      obtain ⟨o2, e3, _⟩ := h.obj a p hp
      rw [h2, hS, (hx a (h.live a p hp)).1] at he
      rw [he, hb] at e3; cases e3
    · rw [(hx a (h.live a p hp)).1, (hx c (h.live c q hq)).1] at he
      exact h.inj a c p q hp hq he
  obj := fun a p hp => by
    simp only [St.new] at hp ⊢
    rw [T.get_put _ _ _ (by omega)] at hp
    split at hp
    · rename_i h1
      cases hp
      subst h1
      exact ⟨o', by rw [hS]; simp, ho⟩
    · obtain ⟨o2, e3, e4⟩ := h.obj a p hp
      have hl := h.live a p hp
      refine ⟨o2, ?_, e4.ext hx (Nat.le_succ _) hl⟩
      rw [(hx a hl).1, Heap.ins_other]
      · exact e3
      · rintro rfl; rw [hb] at e3; cases e3
  out := fun a p hp hG => by
    simp only [St.new] at hp
    rw [T.get_put _ _ _ (by omega)] at hp
    split at hp
    · rename_i h1
      rw [h1, hS]
      cases e : H0 b with
      | none => rfl
      | some q => rw [h.sub b q e] at hb; cases hb
    · rw [(hx a (h.live a p hp)).1]; exact h.out a p hp hG
  sub := h.sub.trans (HSub.ins o' hb)

/-- An object is turned. -/
theorem HR.upd (h : HR S G st H0 H) {a : Nat} {p : AO} (hp : st.A.get a = some p) (ha : G ≤ a) (hN : a < 4000000000) {o : AO} {o' : O} (ho : OK S st.N G a o o') :
    HR S G { st with A := st.A.put a o } H0 (H.ins (S.blk a) o') where
  hG := h.hG
  big := h.big
  glob := h.glob
  live := fun c q hq => by
    simp only at hq ⊢
    rw [T.get_put _ _ _ (by omega)] at hq
    split at hq
    · rename_i e; rw [e]; exact h.live a p hp
    · exact h.live c q hq
  inj := fun c d q r hq hr he => by
    simp only at hq hr
    rw [T.get_put _ _ _ (by omega)] at hq hr
    split at hq <;> split at hr
    · omega
    · rename_i e1 e2; rw [e1] at he ⊢; exact h.inj a d p r hp hr he
    · rename_i e1 e2; rw [e2] at he ⊢; exact h.inj c a q p hq hp he
    · exact h.inj c d q r hq hr he
  obj := fun c q hq => by
    simp only at hq ⊢
    rw [T.get_put _ _ _ (by omega)] at hq
    split at hq
    · rename_i e
      cases hq
      subst e
      exact ⟨o', by simp, ho⟩
    · rename_i e
      obtain ⟨o2, e3, e4⟩ := h.obj c q hq
      refine ⟨o2, ?_, e4⟩
      rw [Heap.ins_other]
      · exact e3
      · exact fun he => e (h.inj c a q p hq hp he)
  out := fun c q hq hG => by
    simp only at hq
    rw [T.get_put _ _ _ (by omega)] at hq
    split at hq
    · rename_i e; rw [e]; exact h.out a p hp ha
    · exact h.out c q hq hG
  sub := fun b o2 hb => by
    rw [Heap.ins_other]
    · exact h.sub b o2 hb
    · rintro rfl; rw [h.out a p hp ha] at hb; cases hb

/-- An object is let go. -/
theorem HR.era (h : HR S G st H0 H) {a : Nat} {p : AO} (hp : st.A.get a = some p) (ha : G ≤ a) (hN : a < 4000000000) : HR S G { st with A := st.A.del a } H0 (H.era (S.blk a)) where
  hG := h.hG
  big := h.big
  glob := h.glob
  live := fun c q hq => by
    simp only at hq ⊢
    rw [T.get_del _ _ (by omega)] at hq
    split at hq
    · cases hq
    · exact h.live c q hq
  inj := fun c d q r hq hr he => by
    simp only at hq hr
    rw [T.get_del _ _ (by omega)] at hq hr
    split at hq
    · cases hq
    · split at hr
      · cases hr
      · exact h.inj c d q r hq hr he
  obj := fun c q hq => by
    simp only at hq ⊢
    rw [T.get_del _ _ (by omega)] at hq
    split at hq
    · cases hq
    · rename_i e
      obtain ⟨o2, e3, e4⟩ := h.obj c q hq
      refine ⟨o2, ?_, e4⟩
      simp only [Heap.era]
      rw [if_neg (fun he => e (h.inj c a q p hq hp he))]
      exact e3
  out := fun c q hq hG => by
    simp only at hq
    rw [T.get_del _ _ (by omega)] at hq
    split at hq
    · cases hq
    · exact h.out c q hq hG
  sub := fun b o2 hb => by
    simp only [Heap.era]
    rw [if_neg (by rintro rfl; rw [h.out a p hp ha] at hb; cases hb)]
    exact h.sub b o2 hb

theorem era_ins_same (H : Heap) (b : Nat) (o : O) : (H.era b).ins b o = H.ins b o := by
  funext c
  simp only [Heap.ins, Heap.era]
  split <;> rfl

theorem OK.cells_of {N a : Nat} {cs : List D} {sz : Nat} {ty : Option TypeId} {o' : O} (h : OK S N G a (.cells cs sz ty) o') : ∃ cs' frz room ty', o' = .cells cs' frz room ty' := by
  cases o' <;> first | exact ⟨_, _, _, _, rfl⟩ | exact h.elim
theorem OK.map_of {N a : Nat} {es : List (Nat × D × D)} {cl : Nat} {o' : O} (h : OK S N G a (.map es cl) o') : ∃ es', o' = .map es' cl ∧ RE S N es es' := by
  cases o' with
  | map es' cl' =>
    obtain ⟨e1, e2⟩ := h
    subst e1
    exact ⟨_, rfl, .of e2.1 e2.2⟩
  | _ => exact h.elim

theorem load_sim (hR : HR S G st H0 H) (hF : FR S st.N τ τ') {o : ROp} (ho : isObj o = true) (hok : okOpC G o = true) {d : D} (hd : loadV o (fr τ) ((st.A.get (loadB o (fr τ))).bind AO.toO) = some d) :
    ∃ d', loadV o τ' (H (loadB o τ')) = some d' ∧ RD S st.N d d' := by
  have hg := hR.gl
  cases o <;> simp only [isObj, Bool.false_eq_true] at ho
  all_goals simp only [okOpC, Bool.and_eq_true] at hok
  all_goals simp only [loadV, loadB] at hd ⊢
  case load g n a =>
    have h1 := ev_sim hg hF hok
    generalize a.ev τ' = y at *
    generalize a.ev (fr τ) = x at *
    cases h1 <;> try (simp only [reduceCtorEq] at hd; done)
    case v x hx => cases x with
      | pointer A => cases A <;> simp_all [plainV, plain1]
      | _ => simp at hd
    case ptr a off h =>
      dsimp only at hd ⊢
      cases hA : st.A.get a with
      | none => rw [hA] at hd; cases hd
      | some p =>
        rw [hA] at hd
        obtain ⟨o', e1, e2⟩ := hR.obj a p hA
        cases p <;> simp only [Option.bind_some, AO.toO, reduceCtorEq] at hd
        rename_i cs sz ty
        obtain ⟨cs', frz, room, ty', rfl⟩ := e2.cells_of
        obtain ⟨f1, f2, f3, f4, f5, f6, f7⟩ := e2
        rw [e1]
        obtain ⟨d', g1, g2⟩ := rd_sim f1 hd
        exact ⟨d', rd_drop f6 g1, g2⟩
  case lookup kd zero ok m k =>
    have h1 := ev_sim hg hF hok.1.2
    have h2 := ev_sim hg hF hok.2
    have h3 := RD.const hg.2 hg.1 hok.1.1
    split at hd
    · rename_i hk
      have hkk := keyOk_sim h2 hk
      rw [hkk, if_pos hk]
      generalize m.ev τ' = y at *
      generalize m.ev (fr τ) = x at *
      cases h1 <;> try (simp only [reduceCtorEq] at hd; done)
      case v x hx => cases x with
        | map A =>
          cases A with
          | none => cases hd; cases ok <;> first | exact ⟨_, rfl, h3⟩ | exact ⟨_, rfl, (RDs.cons h3 (.one (.v rfl))).tup⟩
          | some A => simp [plainV, plain1] at hx
        | _ => simp at hd
      case map a h =>
        dsimp only at hd ⊢
        cases hA : st.A.get a with
        | none => rw [hA] at hd; cases hd
        | some p =>
          rw [hA] at hd
          obtain ⟨o', e1, e2⟩ := hR.obj a p hA
          cases p <;> simp only [Option.bind_some, AO.toO, reduceCtorEq] at hd
          rename_i es cl
          obtain ⟨es', rfl, hes⟩ := e2.map_of
          rw [e1]
          dsimp only
          cases hf : findE kd (k.ev (fr τ)) es 0 with
          | none => rw [hf] at hd; cases hd
          | some r =>
            rw [hf] at hd
            rcases findE_sim hk hes hf with ⟨rfl, g2⟩ | ⟨j, x, x', rfl, g2, g3⟩
            · rw [g2]
              cases hd
              cases ok <;> first | exact ⟨_, rfl, h3⟩ | exact ⟨_, rfl, (RDs.cons h3 (.one (.v rfl))).tup⟩
            · rw [g2]
              cases hd
              cases ok <;> first | exact ⟨_, rfl, g3⟩ | exact ⟨_, rfl, (RDs.cons g3 (.one (.v rfl))).tup⟩
    · cases hd
  case mlen x =>
    have h1 := ev_sim hg hF hok
    generalize x.ev τ' = y at *
    generalize x.ev (fr τ) = x at *
    cases h1 <;> try (simp only [reduceCtorEq] at hd; done)
    case v x hx => cases x with
      | map A =>
        cases A with
        | none => cases hd; exact ⟨_, rfl, .v rfl⟩
        | some A => simp [plainV, plain1] at hx
      | _ => simp at hd
    case map a h =>
      dsimp only at hd ⊢
      cases hA : st.A.get a with
      | none => rw [hA] at hd; cases hd
      | some p =>
        rw [hA] at hd
        obtain ⟨o', e1, e2⟩ := hR.obj a p hA
        cases p <;> simp only [Option.bind_some, AO.toO, reduceCtorEq] at hd
        obtain ⟨es', rfl, hes⟩ := e2.map_of
        rw [e1]
        cases hd
        rw [hes.idx.1]
        exact ⟨_, rfl, .v rfl⟩

/-- What an append takes. -/
theorem src_sim (hR : HR S G st H0 H) {d d' : D} (h : RD S st.N d d') {sz k : Nat} {ys : List D} (hs : srcA st.A sz d = some (k, ys)) :
    ∃ ys', srcCells H sz d' = some (k, ys') ∧ RDs S st.N ys ys' := by
  unfold srcA at hs
  split at hs
  · rename_i s
    rw [h.str]
    simp only [beqd, cond_dec] at hs
    split at hs
    · rename_i e
      cases hs
      refine ⟨_, by simp only [srcCells, if_pos e], .bytes _⟩
    · cases hs
  · rename_i n c
    simp only [beqd, cond_dec] at hs
    split at hs
    · rename_i e
      cases hs
      cases h
      exact ⟨_, by simp only [srcCells, if_pos e], .nil⟩
    · cases hs
  · rename_i b o n c
    simp only [beqd, bled, cond_dec] at hs
    cases hA : st.A.get b with
    | none => rw [hA] at hs; split at hs <;> cases hs
    | some p =>
      rw [hA] at hs
      obtain ⟨o', e1, e2⟩ := hR.obj b p hA
      cases p <;> simp only [ite_self, reduceCtorEq] at hs
      rename_i cs s ty
      obtain ⟨cs', frz, room, ty', rfl⟩ := e2.cells_of
      obtain ⟨f1, f2, f3, f4, f5, f6, f7⟩ := e2
      have hlen := f1.length
      rw [List.length_drop] at hlen
      have take : ∀ {q m : Nat}, o + m * sz ≤ cs.length → q = S.base b + o → RDs S st.N ((cs.drop o).take (m * sz)) ((cs'.drop q).take (m * sz)) := by
        rintro q m _ rfl
        have := (f1.drop o).take (m * sz)
        rwa [List.drop_drop] at this
      split at hs
      · rename_i e0
        cases hs
        subst e0
        cases h with
        | v hx => simp [plainV, plain1] at hx
        | sx h hnc hb hr hl => exact ⟨[], by simp only [srcCells, e1]; rw [if_pos (by rw [f5]; omega)]; simp, .nil⟩
        | so h hn hr hl => exact ⟨[], by simp only [srcCells, e1]; rw [if_pos (by rw [f5]; simpa using hl)]; simp, .nil⟩
        | st h hl hr => exact ⟨[], by simp only [srcCells, e1]; rw [if_pos (by rw [f5]; simpa using hl)]; simp, .nil⟩
      · rename_i e0
        split at hs
        · rename_i hle
          cases hs
          cases h with
          | v hx => simp [plainV, plain1] at hx
          | sx h hnc hb hr hl => exact ⟨_, by simp only [srcCells, e1]; rw [if_pos (by omega)], take hle rfl⟩
          | so h hn hr hl => exact ⟨_, by simp only [srcCells, e1]; rw [if_pos (by omega)], take hle rfl⟩
          | st h hl hr => exact absurd rfl e0
        · cases hs
  · cases hs
end Go.Fsl
