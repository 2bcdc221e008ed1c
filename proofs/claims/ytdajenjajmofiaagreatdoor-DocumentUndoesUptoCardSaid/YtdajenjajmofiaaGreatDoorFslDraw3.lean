/- A part of our logic over the resolved code, or of a proof in it. -/
import Derived.Test.YtdajenjajmofiaaGreatDoorFslDraw2
set_option linter.unusedSimpArgs false
set_option linter.unusedVariables false
namespace Go.Fsl
variable {P : Program} {C : CallSem}

theorem agree_put {o : ROper} {dst : Option Nat} (h : notIn dst o.rds = true) (τ : Tmps) (d : D) : Agree o.rds (τ.putO dst d) τ := by
  intro t ht
  cases dst with
  | none => rfl
  | some s =>
    have : t ≠ s := by rintro rfl; simp [notIn] at h; exact h ht
    exact Tmps.put_other _ _ this

theorem putO_comm {τ : Tmps} {s t : Option Nat} (h : (match s, t with | some s, some t => s != t | _, _ => true) = true) (d e : D) : (τ.putO s d).putO t e = (τ.putO t e).putO s d := by
  cases s with
  | none => rfl
  | some s => cases t with
    | none => rfl
    | some t =>
      simp only [bne_iff_ne, ne_eq] at h
      funext u
      simp only [Tmps.putO, Tmps.put]
      by_cases h1 : u = t
      · subst h1; simp [Ne.symm h]
      · simp [h1]

/-- What a load must read again. -/
def rdsRe (r : Nat × ROp × Option (Nat × Bool)) : List Nat := r.2.1.rds ++ rdsGuard r.2.2 ++ [r.1]
theorem still_agree {τ τ' : Tmps} {r : Nat × ROp × Option (Nat × Bool)} (h : Agree (rdsRe r) τ τ') (H : Heap) (hs : still P C τ H r) : still P C τ' H r := by
  simp only [rdsRe] at h
  intro hw
  rw [← wanted_agree h.left.right] at hw
  have := hs hw
  rw [op_agree h.left.left] at this
  rw [h r.1 (by simp)] at this
  exact this

theorem mem_reOf {B : List CI} {c : CI} {m : Nat} {r : Nat × ROp × Option (Nat × Bool)} (h : r ∈ reOf B c m) :
    c.o.op.cls = .eff ∧ ∃ b ∈ B, b.o.op.cls = .load ∧ m.testBit b.idx = false ∧ b.o.dst = some r.1 ∧ r.2.1 = b.o.op ∧ r.2.2 = b.o.guard := by
  simp only [reOf] at h
  split at h
  · rename_i hc
    refine ⟨hc, ?_⟩
    obtain ⟨b, hb, hq⟩ := List.mem_filterMap.1 h
    split at hq
    · rename_i hl
      simp only [Bool.and_eq_true, decide_eq_true_eq, Bool.not_eq_true'] at hl
      simp only [Option.map_eq_some_iff] at hq
      obtain ⟨d, hd, rfl⟩ := hq
      exact ⟨b, hb, hl.1, hl.2, hd, rfl, rfl⟩
    · cases hq
  · cases h

theorem reOf_mem {B : List CI} {c b : CI} {m d : Nat} (hc : c.o.op.cls = .eff) (hb : b ∈ B) (hl : b.o.op.cls = .load) (hm : m.testBit b.idx = false) (hd : b.o.dst = some d) : (d, b.o.op, b.o.guard) ∈ reOf B c m := by
  simp only [reOf, if_pos hc]
  exact List.mem_filterMap.2 ⟨b, hb, by simp [hl, hm, hd]⟩

theorem reOf_sub {B B' : List CI} {c : CI} {m : Nat} (h : ∀ b ∈ B, b ∈ B') : ∀ r ∈ reOf B c m, r ∈ reOf B' c m := by
  intro r hr
  obtain ⟨h1, b, h2, h3, h4, h5, h6, h7⟩ := mem_reOf hr
  have := reOf_mem (m := m) h1 (h b h2) h3 h4 h5
  rw [← h6, ← h7] at this
  exact this

def rE (P : Program) (C : CallSem) (B : List CI) (c : CI) (m : Nat) (τ : Tmps) (H : Heap) : Prop := wanted τ c.o.guard = true → ∀ r ∈ reOf B c m, still P C τ H r

/-- One operation of the list, and the rest. -/
theorem ops_cons {B : List CI} {c : CI} {m : Nat} {rest : List (CI × Nat)} {τ : Tmps} {H : Heap} {Q : Tmps → Heap → Prop} (hs : selfOK c.o = true) :
    opsW P C (fillRe B ((c, m) :: rest)) τ H Q ↔ oR P C c.o τ H fun d H' => rE P C B c m (τ.putO c.o.dst d) H' ∧ opsW P C (fillRe (B ++ [c]) rest) (τ.putO c.o.dst d) H' Q := by
  have hag : ∀ d, wanted (τ.putO c.o.dst d) c.o.guard = wanted τ c.o.guard := fun d => wanted_agree (by
    have := agree_put (o := c.o) (dst := c.o.dst) hs τ d
    simp only [ROper.rds] at this
    exact this.right)
  simp only [fillRe, opsW, oR]
  split
  · rename_i hw
    simp only [rE, hag, hw, true_implies]
  · rename_i hw
    simp [rE, hag, hw]

theorem fillRe_weak (hC : Le C C) : ∀ {L : List (CI × Nat)} {B B' : List CI} {τ : Tmps} {H : Heap} {Q : Tmps → Heap → Prop}, (∀ p ∈ L, selfOK p.1.o = true) → (∀ b ∈ B', b ∈ B) → opsW P C (fillRe B L) τ H Q → opsW P C (fillRe B' L) τ H Q
  | [], B, B', τ, H, Q, _, _, h => h
  | (c, m) :: L, B, B', τ, H, Q, hs, hb, h => by
    have h0 := hs (c, m) (by simp)
    rw [ops_cons h0] at h ⊢
    refine oR_mono hC (fun d H' hh => ⟨fun hw r hr => hh.1 hw r (reOf_sub hb r hr), ?_⟩) h
    refine fillRe_weak hC (fun p hp => hs p (List.mem_cons_of_mem _ hp)) (fun b hb' => ?_) hh.2
    rcases List.mem_append.1 hb' with h | h
    · exact List.mem_append_left _ (hb b h)
    · exact List.mem_append_right _ h

/-- What a recheck needs is not turned by a later operation. -/
theorem re_agree {B : List CI} {c y : CI} {m : Nat} (h : ∀ b ∈ B, ssaOK b.o y.o = true) {r : Nat × ROp × Option (Nat × Bool)} (hr : r ∈ reOf B c m) (τ : Tmps) (d : D) : Agree (rdsRe r) (τ.putO y.o.dst d) τ := by
  obtain ⟨_, b, hb, hbl, _, h5, h6, h7⟩ := mem_reOf hr
  have hss := h b hb
  simp only [ssaOK, hbl, ne_eq, not_true_eq_false, decide_false, Bool.false_or, Bool.and_eq_true] at hss
  intro t ht
  simp only [rdsRe, h6, h7, List.mem_append, List.mem_singleton] at ht
  rcases ht with ht | rfl
  · exact agree_put hss.1 τ d t (by simp only [ROper.rds, List.mem_append]; exact ht)
  · cases hy : y.o.dst with
    | none => rfl
    | some s =>
      have h2 := hss.2
      rw [h5, hy] at h2
      simp only [bne_iff_ne, ne_eq] at h2
      exact Tmps.put_other _ _ h2

theorem notIn_of {x i : ROper} (h : apartO x i = true) : notIn x.dst i.rds = true ∧ notIn i.dst x.rds = true ∧ (match x.dst, i.dst with | some s, some t => s != t | _, _ => true) = true := by
  simp only [apartO, Bool.and_eq_true] at h
  exact ⟨h.1.1, h.1.2, h.2⟩

theorem still_load {τ : Tmps} {H : Heap} {o : ROper} {d : Nat} (hl : o.op.cls = .load) (hs : still P C τ H (d, o.op, o.guard)) (hw : wanted τ o.guard = true) : nV o τ (H (loadB o.op τ)) = some (τ d) := by
  have := hs hw
  obtain ⟨d', h1, h2⟩ := (load_spec (P := P) (C := C) (.inr hl) τ H _).1 this
  simp only at h2
  subst h2
  simp [nV, hw, h1]

theorem loadB_agree {o : ROp} {τ τ' : Tmps} (h : Agree o.rds τ τ') : loadB o τ = loadB o τ' := by
  cases o <;> simp only [loadB] <;> first
    | rfl
    | (simp only [ROp.rds] at h; rw [ev_agree h.left])
    | (simp only [ROp.rds] at h; rw [ev_agree h])

theorem still_ins {τ : Tmps} {H : Heap} {r : Nat × ROp × Option (Nat × Bool)} (hl : r.2.1.cls = .load) {b : Nat} {ob : O} (hb : H b = none) (h : still P C τ H r) : still P C τ (H.ins b ob) r := by
  intro hw
  obtain ⟨d, h1, h2⟩ := (load_spec (.inr hl) τ H _).1 (h hw)
  refine (load_spec (.inr hl) τ _ _).2 ⟨d, ?_, h2⟩
  by_cases e : loadB r.2.1 τ = b
  · rw [e] at h1 ⊢
    rw [hb] at h1
    exact loadV_mono (.inr hl) h1 _
  · rw [Heap.ins_other _ _ e]; exact h1

theorem oR_heap {x : ROper} {τ : Tmps} {H : Heap} {K : D → Heap → Prop} (hne : x.op.cls ≠ .eff) (h : oR P C x τ H K) : oR P C x τ H fun d H' => (Fin H → Fin H') ∧ K d H' := by
  by_cases hn : Neut x τ
  · rw [oR_neut hn] at h ⊢
    obtain ⟨d, h1, h2⟩ := h
    exact ⟨d, h1, id, h2⟩
  · have hw : wanted τ x.guard = true := by
      cases hq : wanted τ x.guard with
      | true => rfl
      | false => exact absurd (.inl hq) hn
    cases hc : x.op.cls with
    | pure => exact absurd (.inr (.inl hc)) hn
    | load => exact absurd (.inr (.inr hc)) hn
    | eff => exact absurd hc hne
    | alloc =>
      rw [oR_alloc hc hw] at h ⊢
      obtain ⟨lo, fd, ob, h1, h2⟩ := h
      exact ⟨lo, fd, ob, h1, fun b c hb hc => ⟨fun hf => hf.ins _ _, h2 b c hb hc⟩⟩

/-- AN OPERATION THAT IS READY IS TAKEN FIRST. -/
theorem pull (hg : Good C) {i : CI} {mi : Nat} {post : List (CI × Nat)} {Q : Tmps → Heap → Prop} :
    ∀ (pre : List (CI × Nat)) (B : List CI) (τ : Tmps) (H : Heap), (∀ p ∈ pre ++ (i, mi) :: post, selfOK p.1.o = true) →
      (∀ p ∈ pre, mi.testBit p.1.idx = false ∧ pairOK p.1.o i.o = true) → (∀ b ∈ B, ∀ p ∈ pre ++ [(i, mi)], ssaOK b.o p.1.o = true) →
      (pre ++ [(i, mi)]).Pairwise (fun p q => ssaOK p.1.o q.1.o = true) → (i.o.op.cls = .load → Fin H) →
      ((i.o.op.cls = .pure ∨ i.o.op.cls = .alloc) → ∃ H1 K1, oR P C i.o τ H1 K1) →
      opsW P C (fillRe B (pre ++ (i, mi) :: post)) τ H Q →
      oR P C i.o τ H fun d H' => rE P C B i mi (τ.putO i.o.dst d) H' ∧ opsW P C (fillRe B (pre ++ post)) (τ.putO i.o.dst d) H' Q
  | [], B, τ, H, hself, _, _, _, _, _, h => by
    rw [List.nil_append, ops_cons (hself (i, mi) (by simp))] at h
    refine oR_mono hg.mono (fun d H' hh => ⟨hh.1, ?_⟩) h
    exact fillRe_weak hg.mono (fun p hp => hself p (by simp at hp ⊢; exact .inr hp)) (fun b hb => List.mem_append_left _ hb) hh.2
  | (x, mx) :: pre, B, τ, H, hself, hconc, hB, hss, hfin, hlive, h => by
    have hx : selfOK x.o = true := hself (x, mx) (by simp)
    have hi : selfOK i.o = true := hself (i, mi) (by simp)
    obtain ⟨hm, hpair⟩ := hconc (x, mx) (by simp)
    simp only [pairOK, Bool.and_eq_true] at hpair
    obtain ⟨hap, hcls⟩ := hpair
    obtain ⟨n1, n2, n3⟩ := notIn_of hap
    have hBx : ∀ b ∈ B, ssaOK b.o x.o = true := fun b hb => hB b hb (x, mx) (by simp)
    have hBi : ∀ b ∈ B, ssaOK b.o i.o = true := fun b hb => hB b hb (i, mi) (by simp)
    -- who is wanted is not turned
    have gi : ∀ d d2, Agree i.o.rds ((τ.putO x.o.dst d).putO i.o.dst d2) τ := fun d d2 t ht => (agree_put hi _ d2 t ht).trans (agree_put n1 τ d t ht)
    have gi2 : ∀ d2, Agree i.o.rds (τ.putO i.o.dst d2) τ := fun d2 => agree_put hi τ d2
    have gx : ∀ d d2, Agree x.o.rds ((τ.putO x.o.dst d).putO i.o.dst d2) τ := fun d d2 t ht => (agree_put n2 _ d2 t ht).trans (agree_put hx τ d t ht)
    have gx2 : ∀ d, Agree x.o.rds (τ.putO x.o.dst d) τ := fun d => agree_put hx τ d
    have wg : ∀ {o : ROper} {τ1 τ2 : Tmps}, Agree o.rds τ1 τ2 → wanted τ1 o.guard = wanted τ2 o.guard := fun h => wanted_agree (by simp only [ROper.rds] at h; exact h.right)
    rw [List.cons_append, ops_cons hx] at h
    have h1 : oR P C x.o τ H fun d H' => rE P C B x mx (τ.putO x.o.dst d) H' ∧ oR P C i.o τ H' fun d2 H2 =>
        rE P C (B ++ [x]) i mi ((τ.putO x.o.dst d).putO i.o.dst d2) H2 ∧ opsW P C (fillRe (B ++ [x]) (pre ++ post)) ((τ.putO x.o.dst d).putO i.o.dst d2) H2 Q := by
      have step : ∀ d H', (i.o.op.cls = .load → Fin H') → opsW P C (fillRe (B ++ [x]) (pre ++ (i, mi) :: post)) (τ.putO x.o.dst d) H' Q → oR P C i.o τ H' fun d2 H2 =>
          rE P C (B ++ [x]) i mi ((τ.putO x.o.dst d).putO i.o.dst d2) H2 ∧ opsW P C (fillRe (B ++ [x]) (pre ++ post)) ((τ.putO x.o.dst d).putO i.o.dst d2) H2 Q := by
        intro d H' hf hh
        rw [← oR_agree (agree_put n1 τ d)]
        have hss' := List.pairwise_cons.1 hss
        refine pull hg pre (B ++ [x]) (τ.putO x.o.dst d) H' (fun p hp => hself p (by simp at hp ⊢; exact .inr hp)) (fun p hp => hconc p (List.mem_cons_of_mem _ hp)) ?_ hss'.2 hf ?_ hh
        · intro b hb p hp
          rcases List.mem_append.1 hb with hb | hb
          · exact hB b hb p (by simp at hp ⊢; exact .inr hp)
          · simp only [List.mem_singleton] at hb
            subst hb
            exact hss'.1 p hp
        · intro hq
          obtain ⟨H1, K1, q⟩ := hlive hq
          exact ⟨H1, K1, by rw [oR_agree (agree_put n1 τ d)]; exact q⟩
      by_cases hl : i.o.op.cls = .load
      · have hne : x.o.op.cls ≠ .eff := by
          intro e; rw [e, hl] at hcls; cases hcls
        exact oR_mono hg.mono (fun d H' hh => ⟨hh.2.1, step d H' (fun _ => hh.1 (hfin hl)) hh.2.2⟩) (oR_heap hne h)
      · exact oR_mono hg.mono (fun d H' hh => ⟨hh.1, step d H' (fun e => absurd e hl) hh.2⟩) h
    have h2 := swap hg (x := x.o) (i := i.o) (τ := τ) (H := H)
      (B' := fun d2 H2 => rE P C B i mi (τ.putO i.o.dst d2) H2) (fun hl => hfin hl) (by revert hcls; cases x.o.op.cls <;> cases i.o.op.cls <;> simp) hlive ?_ ?_ ?_ ?_ ?_ h1
    · refine oR_mono hg.mono (fun d2 H2 hh => ⟨hh.1, ?_⟩) h2
      rw [List.cons_append, ops_cons hx, oR_agree (agree_put n2 τ d2)]
      refine oR_mono hg.mono (fun d H' hh2 => ?_) hh.2
      rw [← putO_comm n3]
      refine ⟨fun hw r hr => ?_, hh2.2⟩
      have hw' : wanted (τ.putO x.o.dst d) x.o.guard = true := by rw [wg (gx2 d), ← wg (gx d d2)]; exact hw
      exact still_agree (fun t ht => (re_agree hBi hr (τ.putO x.o.dst d) d2 t ht).symm) H' (hh2.1 hw' r hr)
    · intro hne d H' hw r hr
      exact absurd ⟨(mem_reOf hr).1, by rw [← wg (gx2 d)]; exact hw⟩ hne
    · intro d H' b ob hb hA hw r hr
      obtain ⟨_, b', _, q1, _, _, q2, _⟩ := mem_reOf hr
      exact still_ins (by rw [q2]; exact q1) hb (hA hw r hr)
    · intro d d2 H2 hBB hw r hr
      have hw' : wanted ((τ.putO x.o.dst d).putO i.o.dst d2) i.o.guard = true := by rw [wg (gi d d2), ← wg (gi2 d2)]; exact hw
      have := hBB hw' r (reOf_sub (fun b hb => List.mem_append_left _ hb) r hr)
      rw [putO_comm n3] at this
      exact still_agree (re_agree hBx hr (τ.putO i.o.dst d2) d) H2 this
    · intro hne d2 H2 hw r hr
      exact absurd ⟨(mem_reOf hr).1, by rw [← wg (gi2 d2)]; exact hw⟩ hne
    · intro hie hwi hxl hwx d d2 H2 hBB
      have hds : x.o.dst.isSome = true := by rw [hxl, hie] at hcls; exact hcls
      obtain ⟨dx, hdx⟩ := Option.isSome_iff_exists.1 hds
      have hw' : wanted ((τ.putO x.o.dst d).putO i.o.dst d2) i.o.guard = true := by rw [wg (gi d d2)]; exact hwi
      have hst := hBB hw' _ (reOf_mem (m := mi) hie (List.mem_append_right B (List.mem_singleton.2 rfl)) hxl hm hdx)
      have hwx' : wanted ((τ.putO x.o.dst d).putO i.o.dst d2) x.o.guard = true := by rw [wg (gx d d2)]; exact hwx
      have hval := still_load hxl hst hwx'
      have hgx := gx d d2
      have hlb : loadB x.o.op ((τ.putO x.o.dst d).putO i.o.dst d2) = loadB x.o.op τ := loadB_agree (by simp only [ROper.rds] at hgx; exact hgx.left)
      rw [nV_agree hgx (.inr (.inr hxl)), hlb] at hval
      rw [hval]
      congr 1
      rw [hdx]
      cases hid : i.o.dst with
      | none => simp [Tmps.putO]
      | some t =>
        rw [hdx, hid] at n3
        simp only [bne_iff_ne, ne_eq] at n3
        simp only [Tmps.putO]
        rw [Tmps.put_other _ _ n3, Tmps.put_same]

end Go.Fsl
