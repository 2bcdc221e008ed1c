/- A part of our logic over the resolved code, or of a proof in it. -/
import Derived.Test.YtdajenjajmofiaaGreatDoorFslDraw1
set_option linter.unusedSimpArgs false
set_option linter.unusedVariables false
namespace Go.Fsl
variable {P : Program} {C : CallSem}

def oR (P : Program) (C : CallSem) (o : ROper) (τ : Tmps) (H : Heap) (K : D → Heap → Prop) : Prop :=
  if wanted τ o.guard = true then opW P C o.op τ H K else K .undef H

def nV (o : ROper) (τ : Tmps) (oo : Option O) : Option D := if wanted τ o.guard = true then loadV o.op τ oo else some .undef
def Neut (o : ROper) (τ : Tmps) : Prop := wanted τ o.guard = false ∨ o.op.cls = .pure ∨ o.op.cls = .load
def Purish (o : ROper) (τ : Tmps) : Prop := wanted τ o.guard = false ∨ o.op.cls = .pure

theorem Purish.neut {o : ROper} {τ : Tmps} (h : Purish o τ) : Neut o τ := h.elim .inl fun h => .inr (.inl h)

theorem oR_mono (hC : Le C C) {o : ROper} {τ : Tmps} {H : Heap} {K K' : D → Heap → Prop} (hk : ∀ d H', K d H' → K' d H') (h : oR P C o τ H K) : oR P C o τ H K' := by
  simp only [oR] at h ⊢
  split
  · rename_i hw; rw [if_pos hw] at h; exact opW_mono hC hk h
  · rename_i hw; rw [if_neg hw] at h; exact hk _ _ h

theorem oR_agree {o : ROper} {τ τ' : Tmps} (h : Agree o.rds τ τ') (H : Heap) (K : D → Heap → Prop) : oR P C o τ H K = oR P C o τ' H K := by
  simp only [ROper.rds] at h
  simp only [oR, wanted_agree h.right, op_agree h.left]

theorem nV_agree {o : ROper} {τ τ' : Tmps} (h : Agree o.rds τ τ') (hn : Neut o τ) (oo : Option O) : nV o τ oo = nV o τ' oo := by
  simp only [ROper.rds] at h
  simp only [nV, ← wanted_agree h.right]
  split
  · rename_i hw
    have hcls : o.op.cls = .pure ∨ o.op.cls = .load := by
      rcases hn with h | h
      · rw [h] at hw; cases hw
      · exact h
    -- by what a load is
    have key : ∀ (d : D), loadV o.op τ oo = some d ↔ loadV o.op τ' oo = some d := by
      intro d
      have hb : loadB o.op τ = loadB o.op τ' := by
        generalize o.op = op at *
        cases op <;> simp only [loadB] <;> first
          | rfl
          | (simp only [ROp.rds] at h; rw [ev_agree h.left.left])
          | (simp only [ROp.rds] at h; rw [ev_agree h.left])
      have e := op_agree (P := default) (C := fun _ _ _ _ => False) h.left (justH (loadB o.op τ) oo) (fun d' _ => d' = d)
      have e1 := load_spec (P := default) (C := fun _ _ _ _ => False) hcls τ (justH (loadB o.op τ) oo) (fun d' _ => d' = d)
      have e2 := load_spec (P := default) (C := fun _ _ _ _ => False) hcls τ' (justH (loadB o.op τ) oo) (fun d' _ => d' = d)
      rw [e, e2, ← hb] at e1
      have hj : justH (loadB o.op τ) oo (loadB o.op τ) = oo := by simp [justH]
      rw [hj] at e1
      constructor
      · intro q
        obtain ⟨d', q1, q2⟩ := e1.2 ⟨d, q, rfl⟩
        rw [← q2]; exact q1
      · intro q
        obtain ⟨d', q1, q2⟩ := e1.1 ⟨d, q, rfl⟩
        rw [← q2]; exact q1
    cases h1 : loadV o.op τ oo with
    | none =>
      cases h2 : loadV o.op τ' oo with
      | none => rfl
      | some d => rw [(key d).2 h2] at h1; cases h1
    | some d => exact ((key d).1 h1).symm
  · rfl

theorem oR_neut {o : ROper} {τ : Tmps} (hn : Neut o τ) (H : Heap) (K : D → Heap → Prop) : oR P C o τ H K ↔ ∃ d, nV o τ (H (loadB o.op τ)) = some d ∧ K d H := by
  simp only [oR, nV]
  split
  · rename_i hw
    have hcls : o.op.cls = .pure ∨ o.op.cls = .load := by
      rcases hn with h | h
      · rw [h] at hw; cases hw
      · exact h
    exact load_spec hcls τ H K
  · constructor
    · exact fun h => ⟨_, rfl, h⟩
    · rintro ⟨d, h1, h2⟩
      cases h1; exact h2

theorem nV_mono {o : ROper} {τ : Tmps} (hn : Neut o τ) {d : D} (h : nV o τ none = some d) (oo : Option O) : nV o τ oo = some d := by
  simp only [nV] at h ⊢
  split
  · rename_i hw
    rw [if_pos hw] at h
    have hcls : o.op.cls = .pure ∨ o.op.cls = .load := by
      rcases hn with h | h
      · rw [h] at hw; cases hw
      · exact h
    exact loadV_mono hcls h oo
  · rename_i hw; rw [if_neg hw] at h; exact h

theorem nV_pure {o : ROper} {τ : Tmps} (hn : Purish o τ) (oo oo' : Option O) : nV o τ oo = nV o τ oo' := by
  simp only [nV]
  split
  · rename_i hw
    rcases hn with h | h
    · rw [h] at hw; cases hw
    · exact loadV_pure h τ oo oo'
  · rfl

/-- A neutral operation reads the same behind a new block. -/
theorem nV_ins {o : ROper} {τ : Tmps} (hn : Neut o τ) {H : Heap} {b : Nat} {ob : O} (hb : H b = none) {d : D} (h : nV o τ (H (loadB o.op τ)) = some d) : nV o τ ((H.ins b ob) (loadB o.op τ)) = some d := by
  by_cases e : loadB o.op τ = b
  · rw [e] at h ⊢
    rw [hb] at h
    exact nV_mono hn h _
  · rw [Heap.ins_other _ _ e]; exact h

theorem oR_alloc {o : ROper} {τ : Tmps} (hc : o.op.cls = .alloc) (hw : wanted τ o.guard = true) (H : Heap) (K : D → Heap → Prop) :
    oR P C o τ H K ↔ ∃ lo fd ob, allocV o.op τ = some (lo, fd, ob) ∧ ∀ b c, H b = none → lo ≤ c → K (fd b c) (H.ins b (ob c)) := by
  simp only [oR, if_pos hw]
  exact alloc_spec hc τ H K

theorem oR_frame (hg : Good C) {o : ROper} {τ : Tmps} {H : Heap} {K : D → Heap → Prop} {b : Nat} {ob : O} (hc : o.op.cls = .eff) (hb : H b = none) (h : oR P C o τ H K) : oR P C o τ (H.ins b ob) (Fr b ob K) := by
  simp only [oR] at h ⊢
  split
  · rename_i hw; rw [if_pos hw] at h; exact op_frame hg hc hb h
  · rename_i hw; rw [if_neg hw] at h; exact ⟨H, rfl, hb, h⟩

def Fin (H : Heap) : Prop := ∃ N, ∀ b, N ≤ b → H b = none
theorem Fin.ins {H : Heap} (h : Fin H) (b : Nat) (o : O) : Fin (H.ins b o) := by
  obtain ⟨N, hN⟩ := h
  refine ⟨max N (b + 1), fun c hc => ?_⟩
  rw [Heap.ins_other _ _ (by omega)]
  exact hN c (by omega)

/-- Two neighbours change places. -/
theorem swap (hg : Good C) {x i : ROper} {τ : Tmps} {H : Heap} (hfin : i.op.cls = .load → Fin H) (hok : (match x.op.cls, i.op.cls with | .eff, .load | .eff, .eff | .alloc, .eff => false | _, _ => true) = true)
    (hlive : (i.op.cls = .pure ∨ i.op.cls = .alloc) → ∃ H1 K1, oR P C i τ H1 K1)
    {A : D → Heap → Prop} {B K : D → D → Heap → Prop} {B' : D → Heap → Prop}
    (hAt : ¬ (x.op.cls = .eff ∧ wanted τ x.guard = true) → ∀ d H', A d H') (hA : ∀ d H' b ob, H' b = none → A d H' → A d (H'.ins b ob))
    (hB : ∀ d d2 H2, B d d2 H2 → B' d2 H2) (hBt : ¬ (i.op.cls = .eff ∧ wanted τ i.guard = true) → ∀ d2 H2, B' d2 H2)
    (hBx : i.op.cls = .eff → wanted τ i.guard = true → x.op.cls = .load → wanted τ x.guard = true → ∀ d d2 H2, B d d2 H2 → nV x τ (H2 (loadB x.op τ)) = some d)
    (h : oR P C x τ H fun d H' => A d H' ∧ oR P C i τ H' fun d2 H2 => B d d2 H2 ∧ K d d2 H2) :
    oR P C i τ H fun d2 H2 => B' d2 H2 ∧ oR P C x τ H2 fun d H' => A d H' ∧ K d d2 H' := by
  have hC := hg.mono
  -- i turns nothing
  by_cases hip : Purish i τ
  · have hin := hip.neut
    obtain ⟨d2, hd2⟩ : ∃ d2, ∀ oo, nV i τ oo = some d2 := by
      rcases hip with hw | hc
      · exact ⟨.undef, fun oo => by simp [nV, hw]⟩
      · obtain ⟨H1, K1, q⟩ := hlive (.inl hc)
        obtain ⟨d2, q1, _⟩ := (oR_neut hin H1 K1).1 q
        exact ⟨d2, fun oo => by rw [nV_pure (.inr hc) oo (H1 (loadB i.op τ))]; exact q1⟩
    have ht : ∀ d2 H2, B' d2 H2 := hBt (by
      rintro ⟨h1, h2⟩
      rcases hip with hw | hc
      · rw [hw] at h2; cases h2
      · rw [hc] at h1; cases h1)
    rw [oR_neut hin]
    refine ⟨d2, hd2 _, ht _ _, oR_mono hC (fun d H' hh => ⟨hh.1, ?_⟩) h⟩
    obtain ⟨d2', e1, e2⟩ := (oR_neut hin H' _).1 hh.2
    rw [hd2] at e1
    cases e1
    exact e2.2
  have hwi : wanted τ i.guard = true := by
    cases hq : wanted τ i.guard with
    | true => rfl
    | false => exact absurd (.inl hq) hip
  have hcp : i.op.cls ≠ .pure := fun e => hip (.inr e)
  -- x turns nothing
  by_cases hxn : Neut x τ
  · obtain ⟨d, hd, hAd, hi⟩ := (oR_neut hxn H _).1 h
    cases hci : i.op.cls with
    | pure => exact absurd hci hcp
    | load =>
      have hin : Neut i τ := .inr (.inr hci)
      have ht := hBt (by rw [hci]; rintro ⟨h1, _⟩; cases h1)
      obtain ⟨d2, e1, _, e2⟩ := (oR_neut hin H _).1 hi
      rw [oR_neut hin]
      exact ⟨d2, e1, ht _ _, (oR_neut hxn H _).2 ⟨d, hd, hAd, e2⟩⟩
    | alloc =>
      have ht := hBt (by rw [hci]; rintro ⟨h1, _⟩; cases h1)
      obtain ⟨lo, fd, ob, e1, e2⟩ := (oR_alloc hci hwi H _).1 hi
      rw [oR_alloc hci hwi]
      refine ⟨lo, fd, ob, e1, fun b c hb hc => ⟨ht _ _, ?_⟩⟩
      rw [oR_neut hxn]
      exact ⟨d, nV_ins hxn hb hd, hA _ _ _ _ hb hAd, (e2 b c hb hc).2⟩
    | eff =>
      refine oR_mono hC (fun d2 H2 hh => ⟨hB _ _ _ hh.1, ?_⟩) hi
      rw [oR_neut hxn]
      have hval : nV x τ (H2 (loadB x.op τ)) = some d := by
        by_cases hxp : Purish x τ
        · rw [nV_pure hxp _ (H (loadB x.op τ))]; exact hd
        · have hwx : wanted τ x.guard = true := by
            cases hq : wanted τ x.guard with
            | true => rfl
            | false => exact absurd (.inl hq) hxp
          have hxl : x.op.cls = .load := by
            rcases hxn with e | e | e
            · rw [hwx] at e; cases e
            · exact absurd (.inr e) hxp
            · exact e
          exact hBx hci hwi hxl hwx _ _ _ hh.1
      refine ⟨d, hval, hAt ?_ _ _, hh.2⟩
      rintro ⟨q1, q2⟩
      rcases hxn with e | e | e
      · rw [q2] at e; cases e
      · rw [q1] at e; cases e
      · rw [q1] at e; cases e
  have hwx : wanted τ x.guard = true := by
    cases hq : wanted τ x.guard with
    | true => rfl
    | false => exact absurd (.inl hq) hxn
  cases hcx : x.op.cls with
  | pure => exact absurd (.inr (.inl hcx)) hxn
  | load => exact absurd (.inr (.inr hcx)) hxn
  | alloc =>
    obtain ⟨lo, fd, ob, e1, e2⟩ := (oR_alloc hcx hwx H _).1 h
    cases hci : i.op.cls with
    | pure => exact absurd hci hcp
    | eff => rw [hcx, hci] at hok; cases hok
    | load =>
      have hin : Neut i τ := .inr (.inr hci)
      have ht := hBt (by rw [hci]; rintro ⟨h1, _⟩; cases h1)
      obtain ⟨N, hN⟩ := hfin hci
      -- a block that i does not read
      let b0 := max N (loadB i.op τ + 1)
      have hb0 : H b0 = none := hN b0 (by omega)
      obtain ⟨_, hi⟩ := e2 b0 lo hb0 (Nat.le_refl _)
      obtain ⟨d2, q1, _⟩ := (oR_neut hin _ _).1 hi
      rw [Heap.ins_other _ _ (by omega)] at q1
      rw [oR_neut hin]
      refine ⟨d2, q1, ht _ _, ?_⟩
      rw [oR_alloc hcx hwx]
      refine ⟨lo, fd, ob, e1, fun b c hb hc => ?_⟩
      obtain ⟨r1, r2⟩ := e2 b c hb hc
      obtain ⟨d2', q3, _, q4⟩ := (oR_neut hin _ _).1 r2
      rw [nV_ins hin hb q1] at q3
      cases q3
      exact ⟨r1, q4⟩
    | alloc =>
      have ht := hBt (by rw [hci]; rintro ⟨h1, _⟩; cases h1)
      obtain ⟨H1, K1, q⟩ := hlive (.inr hci)
      obtain ⟨lo', fd', ob', f1, _⟩ := (oR_alloc hci hwi H1 K1).1 q
      rw [oR_alloc hci hwi]
      refine ⟨lo', fd', ob', f1, fun b' c' hb' hc' => ⟨ht _ _, ?_⟩⟩
      rw [oR_alloc hcx hwx]
      refine ⟨lo, fd, ob, e1, fun b c hb hc => ?_⟩
      have hne : b ≠ b' := by rintro rfl; simp at hb
      have hbH : H b = none := by rw [Heap.ins_other _ _ hne] at hb; exact hb
      obtain ⟨r1, r2⟩ := e2 b c hbH hc
      obtain ⟨lo2, fd2, ob2, f2, f3⟩ := (oR_alloc hci hwi _ _).1 r2
      rw [f1] at f2
      cases f2
      have hb'H : (H.ins b (ob c)) b' = none := by rw [Heap.ins_other _ _ (Ne.symm hne)]; exact hb'
      have := f3 b' c' hb'H hc'
      rw [Heap.ins_comm _ _ _ (Ne.symm hne)]
      exact ⟨hA _ _ _ _ hb'H r1, this.2⟩
  | eff =>
    cases hci : i.op.cls with
    | pure => exact absurd hci hcp
    | load => rw [hcx, hci] at hok; cases hok
    | eff => rw [hcx, hci] at hok; cases hok
    | alloc =>
      have ht := hBt (by rw [hci]; rintro ⟨h1, _⟩; cases h1)
      obtain ⟨H1, K1, q⟩ := hlive (.inr hci)
      obtain ⟨lo', fd', ob', f1, _⟩ := (oR_alloc hci hwi H1 K1).1 q
      rw [oR_alloc hci hwi]
      refine ⟨lo', fd', ob', f1, fun b' c' hb' hc' => ⟨ht _ _, ?_⟩⟩
      refine oR_mono hC (fun d H'' hh => ?_) (oR_frame hg (ob := ob' c') hcx hb' h)
      obtain ⟨H', rfl, h2, h3, h4⟩ := hh
      obtain ⟨lo2, fd2, ob2, f2, f3⟩ := (oR_alloc hci hwi _ _).1 h4
      rw [f1] at f2
      cases f2
      exact ⟨hA _ _ _ _ h2 h3, (f3 b' c' h2 hc').2⟩

end Go.Fsl
