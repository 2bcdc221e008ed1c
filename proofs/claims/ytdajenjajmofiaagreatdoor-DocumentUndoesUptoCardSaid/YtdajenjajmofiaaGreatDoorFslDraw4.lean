/- A part of our logic over the resolved code, or of a proof in it. -/
import Derived.Test.YtdajenjajmofiaaGreatDoorFslDraw3
import Derived.Test.YtdajenjajmofiaaGreatDoorFslSound13
import Derived.OrdersIn
set_option linter.unusedSimpArgs false
set_option linter.unusedVariables false
namespace Go.Fsl
variable {P : Program} {n : Nat} {ro : Option Nat} {base : Nat}

/-! ### An operation comes to an end -/
theorem wpIn_live {o : Oper} {a : Act} {w : World} {next : Act → World → Prop} (h : o.wpIn (FO ro) 0 P a w next (fun _ _ _ => False)) : ∃ a' w', next a' w' := by
  have h := h.2
  generalize (o.semAt (FO ro).round a.eval).run P w = r at h
  cases r with
  | ok x w' =>
    cases x <;> simp only [Oper.uponIn] at h <;> first
      | exact ⟨_, _, h⟩
      | (obtain ⟨_, hc⟩ := h
         obtain ⟨e, w'', fr, hr, _⟩ := hc.2 [] (room_wide _)
         cases e with
         | returned v => exact ⟨_, _, hr⟩
         | panicked c => exact hr.elim
         | outgrown => obtain ⟨_, _, hq⟩ := hr; exact hq.elim)
      | (obtain ⟨_, hc⟩ := h
         obtain ⟨v, w'', hr, _⟩ := hc default [] (room_wide _)
         exact ⟨_, _, hr⟩)
      | (obtain ⟨_, hc⟩ := h
         obtain ⟨e, w'', hr, _⟩ := hc.2 default [] (room_wide _)
         cases e with
         | returned v => exact ⟨_, _, hr⟩
         | panicked c => exact hr.elim
         | outgrown => obtain ⟨_, _, hq⟩ := hr; exact hq.elim)
      | exact h.elim
  | halt x w' => cases x <;> simp only [Oper.uponIn] at h

/-! ### What waits for what -/
def preO (ops : Array Oper) (i : Nat) : List Nat := match ops[i]? with | some o => preOf o | none => []
inductive Anc (ops : Array Oper) : Nat → Nat → Prop
  | base {x i : Nat} (h : x ∈ preO ops i) : Anc ops x i
  | step {x j i : Nat} (h : j ∈ preO ops i) (k : Anc ops x j) : Anc ops x i

theorem anc_listed {ops : Array Oper} {S : Nat → Prop} (hD : ∀ j, S j → ∀ k ∈ preO ops j, S k) {x i : Nat} (h : Anc ops x i) : (∀ j ∈ preO ops i, S j) → S x := by
  induction h with
  | base h => exact fun hS => hS _ h
  | step h k ih => exact fun hS => ih (hD _ (hS _ h))

theorem testBit_fold {tab : List (Nat × Nat)} {x : Nat} : ∀ (js : List Nat) (m0 : Nat), (js.foldl (fun m j => m ||| 1 <<< j ||| (tab.lookup j).getD 0) m0).testBit x = true →
    m0.testBit x = true ∨ ∃ j ∈ js, x = j ∨ ((tab.lookup j).getD 0).testBit x = true
  | [], m0, h => .inl h
  | j :: js, m0, h => by
    rcases testBit_fold js _ h with h | ⟨k, hk, h⟩
    · simp only [Nat.testBit_or, Bool.or_eq_true] at h
      rcases h with (h | h) | h
      · exact .inl h
      · refine .inr ⟨j, by simp, .inl ?_⟩
        rw [Nat.testBit_shiftLeft] at h
        simp only [Bool.and_eq_true, decide_eq_true_eq] at h
        have := h.2
        rw [Nat.testBit_one_eq_true_iff_self_eq_zero] at this
        omega
      · exact .inr ⟨j, by simp, .inr h⟩
    · exact .inr ⟨k, by simp [hk], h⟩

theorem ancs_spec {ops : Array Oper} : ∀ (l : List CI) (tab : List (Nat × Nat)), (∀ c ∈ l, c.pre = preO ops c.idx) → (∀ k x, ((tab.lookup k).getD 0).testBit x = true → Anc ops x k) →
    (ancs tab l).map (·.1) = l ∧ ∀ p ∈ ancs tab l, ∀ x, p.2.testBit x = true → Anc ops x p.1.idx
  | [], _, _, _ => ⟨rfl, fun p hp => by simp [ancs] at hp⟩
  | c :: l, tab, hl, ht => by
    have hm : ∀ x, (c.pre.foldl (fun m j => m ||| 1 <<< j ||| (tab.lookup j).getD 0) 0).testBit x = true → Anc ops x c.idx := by
      intro x hx
      rcases testBit_fold _ _ hx with h | ⟨j, hj, h⟩
      · simp at h
      · rw [hl c (by simp)] at hj
        rcases h with rfl | h
        · exact .base hj
        · exact .step hj (ht _ _ h)
    obtain ⟨h1, h2⟩ := ancs_spec l ((c.idx, c.pre.foldl (fun m j => m ||| 1 <<< j ||| (tab.lookup j).getD 0) 0) :: tab) (fun c hc => hl c (by simp [hc])) (by
      intro k x hx
      simp only [List.lookup_cons] at hx
      split at hx
      · rename_i hk
        have : k = c.idx := by simpa using hk
        subst this
        exact hm x hx
      · exact ht k x hx)
    refine ⟨by simp only [ancs, List.map_cons, h1], fun p hp => ?_⟩
    simp only [ancs, List.mem_cons] at hp
    rcases hp with rfl | hp
    · exact hm
    · exact h2 p hp

theorem best_mem {done : Nat} : ∀ {cs : List CI} {c : CI}, bestOf done cs = some c → c ∈ cs
  | [], c, h => by simp [bestOf] at h
  | d :: cs, c, h => by
    simp only [bestOf] at h
    cases hb : bestOf done cs with
    | none =>
      rw [hb] at h
      simp only at h
      split at h
      · cases h; simp
      · cases h
    | some e =>
      rw [hb] at h
      simp only at h
      split at h
      · cases h; simp
      · cases h; exact List.mem_cons_of_mem _ (best_mem hb)

theorem order_mem : ∀ (n : Nat) (done : Nat) (cs : List CI), ∀ c ∈ orderN n done cs, c ∈ cs
  | 0, _, _, c, h => by simp [orderN] at h
  | n + 1, done, cs, c, h => by
    simp only [orderN] at h
    split at h
    · cases h
    · rename_i d hd
      rcases List.mem_cons.1 h with rfl | h
      · exact best_mem hd
      · exact (List.mem_filter.1 (order_mem n _ _ c h)).1

theorem mkCI_spec {ops : Array Oper} {i : Nat} {c : CI} (h : mkCI P ops i = some c) : c.idx = i ∧ c.pre = preO ops i ∧ ∃ o, ops[i]? = some o ∧ rOper P ops o = some c.o := by
  simp only [mkCI, Option.bind_eq_bind, Option.bind_eq_some_iff, Option.pure_def, Option.some.injEq] at h
  obtain ⟨o, h1, r, h2, rfl⟩ := h
  exact ⟨rfl, by simp [preO, h1], o, h1, h2⟩

/-! ### The invariant -/
/-- What is before waits for nothing behind. -/
def Top (S : Nat → Prop) : List (CI × Nat) → Prop
  | [] => True
  | p :: L => (∀ j ∈ p.1.pre, S j) ∧ ¬ S p.1.idx ∧ Top (fun j => S j ∨ j = p.1.idx) L

theorem Top.congr {S S' : Nat → Prop} : ∀ {L : List (CI × Nat)}, (∀ j, S j ↔ S' j) → Top S L → Top S' L
  | [], _, _ => trivial
  | p :: L, h, ⟨h1, h2, h3⟩ => ⟨fun j hj => (h j).1 (h1 j hj), fun q => h2 ((h _).2 q), h3.congr fun j => by rw [h j]⟩

theorem Top.remove {p : CI × Nat} {post : List (CI × Nat)} : ∀ {pre : List (CI × Nat)} {S : Nat → Prop}, (∀ q ∈ pre, q.1.idx ≠ p.1.idx) → Top S (pre ++ p :: post) → Top (fun j => S j ∨ j = p.1.idx) (pre ++ post)
  | [], S, _, h => h.2.2
  | q :: pre, S, hd, ⟨h1, h2, h3⟩ => by
    refine ⟨fun j hj => .inl (h1 j hj), ?_, (Top.remove (fun r hr => hd r (by simp [hr])) h3).congr fun j => ?_⟩
    · rintro (h | h)
      · exact h2 h
      · exact hd q (by simp) h
    · constructor
      · rintro ((h | h) | h)
        · exact .inl (.inl h)
        · exact .inr h
        · exact .inl (.inr h)
      · rintro ((h | h) | h)
        · exact .inl (.inl h)
        · exact .inr h
        · exact .inl (.inr h)

structure LI (P : Program) (n : Nat) (ops : Array Oper) (S : Nat → Prop) (L : List (CI × Nat)) : Prop where
  ci : ∀ p ∈ L, mkCI P ops p.1.idx = some p.1
  ok : ∀ p ∈ L, okOper n p.1.o = true
  out : ∀ p ∈ L, ¬ S p.1.idx
  all : ∀ i, i < ops.size → ¬ S i → ∃ p ∈ L, p.1.idx = i
  anc : ∀ p ∈ L, ∀ x, p.2.testBit x = true → Anc ops x p.1.idx
  self : ∀ p ∈ L, selfOK p.1.o = true
  ssa : L.Pairwise (fun p q => ssaOK p.1.o q.1.o = true)
  pair : L.Pairwise (fun p q => q.2.testBit p.1.idx = true ∨ pairOK p.1.o q.1.o = true)
  dist : L.Pairwise (fun p q => p.1.idx ≠ q.1.idx)
  top : Top S L

theorem LI.remove {ops : Array Oper} {S S' : Nat → Prop} {pre post : List (CI × Nat)} {p : CI × Nat} (h : LI P n ops S (pre ++ p :: post)) (hS : ∀ j, S' j ↔ S j ∨ j = p.1.idx) : LI P n ops S' (pre ++ post) := by
  have hsub : ∀ q ∈ pre ++ post, q ∈ pre ++ p :: post := fun q hq => by
    rcases List.mem_append.1 hq with h | h
    · exact List.mem_append_left _ h
    · exact List.mem_append_right _ (List.mem_cons_of_mem _ h)
  have hsl : (pre ++ post).Sublist (pre ++ p :: post) := List.Sublist.append (List.Sublist.refl _) (List.sublist_cons_self _ _)
  have hd := List.pairwise_append.1 h.dist
  have hne : ∀ q ∈ pre ++ post, q.1.idx ≠ p.1.idx := by
    intro q hq
    rcases List.mem_append.1 hq with hq | hq
    · exact hd.2.2 q hq p (by simp)
    · exact Ne.symm ((List.pairwise_cons.1 hd.2.1).1 q hq)
  exact {
    ci := fun q hq => h.ci q (hsub q hq)
    ok := fun q hq => h.ok q (hsub q hq)
    out := fun q hq => by
      rw [hS]
      rintro (e | e)
      · exact h.out q (hsub q hq) e
      · exact hne q hq e
    all := fun i hi hn => by
      rw [hS] at hn
      obtain ⟨q, hq, hqi⟩ := h.all i hi (fun e => hn (.inl e))
      refine ⟨q, ?_, hqi⟩
      rcases List.mem_append.1 hq with hq | hq
      · exact List.mem_append_left _ hq
      · rcases List.mem_cons.1 hq with rfl | hq
        · exact absurd (.inr hqi.symm) hn
        · exact List.mem_append_right _ hq
    anc := fun q hq => h.anc q (hsub q hq)
    self := fun q hq => h.self q (hsub q hq)
    ssa := h.ssa.sublist hsl
    pair := h.pair.sublist hsl
    dist := h.dist.sublist hsl
    top := (Top.remove (fun q hq => hne q (List.mem_append_left _ hq)) h.top).congr fun j => (hS j).symm }

/-- The operations ahead come to an end. -/
theorem ops_live {ops : Array Oper} {rest : List (CI × Nat)} {Q : Tmps → Heap → Prop} : ∀ (pre : List (CI × Nat)) (B : List CI) (F : Fz) (w : World) (H : Heap) (τ : Tmps) (a : Act),
    (∀ p ∈ pre, mkCI P ops p.1.idx = some p.1 ∧ okOper n p.1.o = true ∧ selfOK p.1.o = true) → Rel P F w H → TR F w n τ a.tmps → opsW P (M P) (fillRe B (pre ++ rest)) τ H Q →
    ∃ B' τ' H', opsW P (M P) (fillRe B' rest) τ' H' Q ∧ ∀ t, (∀ p ∈ pre, p.1.o.dst ≠ some t) → τ' t = τ t
  | [], B, F, w, H, τ, a, _, _, _, h => ⟨B, τ, H, h, fun _ _ => rfl⟩
  | (c, m) :: pre, B, F, w, H, τ, a, hp, hR, hT, h => by
    obtain ⟨h1, h2, h3⟩ := hp (c, m) (by simp)
    obtain ⟨_, _, o, ho, hro⟩ := mkCI_spec h1
    obtain ⟨e1, e2, e3⟩ := rOper_op hro
    simp only [okOper, Bool.and_eq_true] at h2
    rw [List.cons_append, ops_cons h3] at h
    simp only [oR] at h
    have fin : ∀ (d : D) (F' : Fz) (w' : World) (H' : Heap) (a' : Act), Rel P F' w' H' → TR F' w' n (τ.putO c.o.dst d) a'.tmps → opsW P (M P) (fillRe (B ++ [c]) (pre ++ rest)) (τ.putO c.o.dst d) H' Q →
        ∃ B' τ' H', opsW P (M P) (fillRe B' rest) τ' H' Q ∧ ∀ t, (∀ p ∈ (c, m) :: pre, p.1.o.dst ≠ some t) → τ' t = τ t := by
      intro d F' w' H' a' hR' hT' hh
      obtain ⟨B', τ', H'', q1, q2⟩ := ops_live pre (B ++ [c]) F' w' H' _ a' (fun p hq => hp p (by simp [hq])) hR' hT' hh
      refine ⟨B', τ', H'', q1, fun t ht => ?_⟩
      rw [q2 t (fun p hq => ht p (by simp [hq]))]
      have := ht (c, m) (by simp)
      cases hd : c.o.dst with
      | none => rfl
      | some s => exact Tmps.put_other _ _ (by rintro rfl; exact this hd)
    by_cases hw : wanted τ c.o.guard = true
    · rw [if_pos hw] at h
      obtain ⟨a', w', d, H', F', q1, q2, q3⟩ := wpIn_live (ro := none) (op_in (ro := none) (Q := fun _ _ _ => False)
        (next := fun a' w' => ∃ d H' F', Rel P F' w' H' ∧ TR F' w' n (τ.putO c.o.dst d) a'.tmps ∧ opsW P (M P) (fillRe (B ++ [c]) (pre ++ rest)) (τ.putO c.o.dst d) H' Q)
        hR hT e1 h2.2 h (fun v w' d H' F' s r hv hk => ⟨d, H', F', r, by rw [e2]; exact (hT.mono s.sub s.keep).putO o.dst hv, hk.2⟩))
      exact fin d F' w' H' a' q1 q2 q3
    · rw [if_neg hw] at h
      exact fin .undef F w H (a.put c.o.dst undef) hR (hT.putO c.o.dst (VR.undef F w)) h.2

theorem any_in {ops : Array Oper} {Q : Tmps → Heap → Prop} : ∀ (k : Nat) (L : List (CI × Nat)) (listed : Array Bool) (F : Fz) (w : World) (H : Heap) (τ : Tmps) (a : Act) (Q' : Exit → Act → World → Prop),
    L.length = k → listed.size = ops.size → LI P n ops (fun j => listed.getD j false = true) L → (∀ j, listed.getD j false = true → ∀ k ∈ preO ops j, listed.getD k false = true) →
    Rel P F w H → TR F w n τ a.tmps → Mk base w H a.defers → opsW P (M P) (fillRe [] L) τ H Q →
    (∀ e a' w', CP P n base F w H (fun x τ' H' => x = .n ∧ Q τ' H') e a' w' → Q' e a' w') → wpAnyIn (FO ro) 0 P .any ops Q' k listed a w
  | 0, L, listed, F, w, H, τ, a, Q', hk, hsz, hL, hD, hR, hT, hM, h, hq => by
    have : L = [] := List.eq_nil_of_length_eq_zero hk
    subst this
    refine ⟨?_, hq _ _ _ ⟨.n, τ, H, F, rfl, Step.refl F w H, hR, hT, hM, rfl, h⟩⟩
    cases hr : Region.ready .any ops listed with
    | nil => rfl
    | cons i is =>
      exfalso
      obtain ⟨h1, o, ho, _⟩ := mem_ready.1 (show i ∈ Region.ready .any ops listed by rw [hr]; simp)
      have hlt := (Array.getElem?_eq_some_iff.1 ho).1
      obtain ⟨p, hp, _⟩ := hL.all i hlt (by simp [Array.getD, hsz, hlt] at h1 ⊢; exact h1)
      cases hp
  | k + 1, L, listed, F, w, H, τ, a, Q', hk, hsz, hL, hD, hR, hT, hM, h, hq => by
    have edge : ∀ (i : Nat) (o : Oper), ops[i]? = some o → ((∀ e ∈ o.after, Region.binds .any e = true → listed.getD e.on false = true) ↔ ∀ j ∈ preO ops i, listed.getD j false = true) := by
      intro i o ho
      simp only [preO, ho, preOf]
      constructor
      · intro hh j hj
        obtain ⟨e, he, rfl⟩ := List.mem_map.1 hj
        obtain ⟨he1, he2⟩ := List.mem_filter.1 he
        exact hh e (by simpa using he1) he2
      · intro hh e he hb
        exact hh e.on (List.mem_map.2 ⟨e, List.mem_filter.2 ⟨by simpa using he, hb⟩, rfl⟩)
    have tf : ∀ i, i < ops.size → (listed.getD i true = false ↔ ¬ listed.getD i false = true) := by
      intro i hi
      have hi' : i < listed.size := by omega
      simp [Array.getD, hi']
    refine ⟨fun hnil => ?_, fun i hi => ?_⟩
    · exfalso
      cases L with
      | nil => simp at hk
      | cons p L =>
        obtain ⟨c1, c2, o, ho, _⟩ := mkCI_spec (hL.ci p (by simp))
        have hlt := (Array.getElem?_eq_some_iff.1 ho).1
        have : p.1.idx ∈ Region.ready .any ops listed := mem_ready.2 ⟨(tf _ hlt).2 (hL.out p (by simp)), o, ho, (edge _ o ho).2 (by rw [← c2]; exact hL.top.1)⟩
        rw [hnil] at this
        cases this
    · obtain ⟨h1, o, ho, h2⟩ := mem_ready.1 hi
      have hlt := (Array.getElem?_eq_some_iff.1 ho).1
      have hpre := (edge i o ho).1 h2
      obtain ⟨p, hp, rfl⟩ := hL.all i hlt ((tf i hlt).1 h1)
      obtain ⟨pre, post, rfl⟩ := List.append_of_mem hp
      obtain ⟨c1, c2, o', ho', hro⟩ := mkCI_spec (hL.ci p hp)
      rw [ho] at ho'
      cases ho'
      obtain ⟨e1, e2, e3⟩ := rOper_op hro
      have hok := hL.ok p hp
      simp only [okOper, Bool.and_eq_true] at hok
      have hpw := List.pairwise_append.1 hL.pair
      have hbit : ∀ x ∈ pre, p.2.testBit x.1.idx = false := by
        intro x hx
        cases hb : p.2.testBit x.1.idx with
        | false => rfl
        | true => exact absurd (anc_listed hD (hL.anc p hp _ hb) hpre) (hL.out x (List.mem_append_left _ hx))
      have hconc : ∀ x ∈ pre, p.2.testBit x.1.idx = false ∧ pairOK x.1.o p.1.o = true := fun x hx => ⟨hbit x hx, (hpw.2.2 x hx p (by simp)).resolve_left (by rw [hbit x hx]; simp)⟩
      have hss : (pre ++ [p]).Pairwise (fun p q => ssaOK p.1.o q.1.o = true) := hL.ssa.sublist (List.Sublist.append (List.Sublist.refl _) (by simp))
      have hlive : (p.1.o.op.cls = .pure ∨ p.1.o.op.cls = .alloc) → ∃ H1 K1, oR P (M P) p.1.o τ H1 K1 := by
        intro _
        obtain ⟨B', τ', H', q1, q2⟩ := ops_live (n := n) (rest := p :: post) pre [] F w H τ a (fun x hx => ⟨hL.ci x (List.mem_append_left _ hx), hL.ok x (List.mem_append_left _ hx), hL.self x (List.mem_append_left _ hx)⟩) hR hT h
        obtain ⟨pc, pm⟩ := p
        rw [ops_cons (hL.self _ hp)] at q1
        have hag : Agree pc.o.rds τ' τ := by
          intro t ht
          refine q2 t fun x hx hd => ?_
          have hpk := (hconc x hx).2
          simp only [pairOK, Bool.and_eq_true] at hpk
          have := (notIn_of hpk.1).1
          rw [hd] at this
          simp [notIn] at this
          exact this ht
        rw [oR_agree hag] at q1
        exact ⟨H', _, q1⟩
      have hpull := pull (M.good P) (i := p.1) (mi := p.2) (post := post) pre [] τ H (fun q hq => hL.self q hq) hconc (fun b hb => by cases hb) hss (fun _ => ⟨w.heap.size, fun b hb => hR.none_of_ge hb⟩) hlive h
      have hS : ∀ j, ((listed.setIfInBounds p.1.idx true).getD j false = true) ↔ (listed.getD j false = true ∨ j = p.1.idx) := by
        intro j
        have hi' : p.1.idx < listed.size := by omega
        simp only [Array.getD_eq_getD_getElem?, Array.getElem?_setIfInBounds]
        by_cases e : p.1.idx = j
        · subst e; simp [hi']
        · simp [e, Ne.symm e]
      have hL' := hL.remove hS
      have hD' : ∀ j, (listed.setIfInBounds p.1.idx true).getD j false = true → ∀ k ∈ preO ops j, (listed.setIfInBounds p.1.idx true).getD k false = true := by
        intro j hj k hk
        rw [hS] at hj ⊢
        rcases hj with hj | rfl
        · exact .inl (hD j hj k hk)
        · exact .inl (hpre k hk)
      have hlen : (pre ++ post).length = k := by simp at hk ⊢; omega
      unfold wpOpIn
      simp only [ho, guard_in hT hro hok.1.2]
      simp only [oR] at hpull
      by_cases hw : wanted τ p.1.o.guard = true
      · rw [if_pos hw] at hpull ⊢
        refine op_in hR hT e1 hok.2 hpull (fun v w' d H' F' hs hR' hv hk => ?_)
        exact any_in k (pre ++ post) _ F' w' H' _ _ Q' hlen (by simpa using hsz) hL' hD' hR' ((hT.mono hs.sub hs.keep).putO o.dst hv) (by rw [put_defers]; exact hM.step hs) (by rw [← e2]; exact hk.2) (fun e a' w'' hc => hq _ _ _ (hc.pre hs))
      · rw [if_neg hw] at hpull
        have hw' : wanted τ p.1.o.guard = false := by simpa using hw
        rw [if_neg (by rw [hw']; simp)]
        refine ⟨fun _ _ => trivial, ?_⟩
        exact any_in k (pre ++ post) _ F w H _ _ Q' hlen (by simpa using hsz) hL' hD' hR (hT.putO o.dst (VR.undef F w)) (by rw [put_defers]; exact hM) (by rw [← e2]; exact hpull.2) hq

theorem pairs_spec : ∀ {L : List (CI × Nat)}, pairsOK L = true → (∀ p ∈ L, selfOK p.1.o = true) ∧ L.Pairwise (fun p q => ssaOK p.1.o q.1.o = true) ∧ L.Pairwise (fun p q => q.2.testBit p.1.idx = true ∨ pairOK p.1.o q.1.o = true)
  | [], _ => ⟨fun p hp => (by cases hp), .nil, .nil⟩
  | (x, m) :: L, h => by
    simp only [pairsOK, Bool.and_eq_true, List.all_eq_true, Bool.or_eq_true] at h
    obtain ⟨i1, i2, i3⟩ := pairs_spec h.2
    refine ⟨fun p hp => ?_, .cons (fun q hq => (h.1.2 q hq).1) i2, .cons (fun q hq => (h.1.2 q hq).2) i3⟩
    rcases List.mem_cons.1 hp with rfl | hp
    · exact h.1.1
    · exact i1 p hp

theorem top_spec : ∀ {l : List CI} {done : List Nat} {L : List (CI × Nat)} {S : Nat → Prop}, L.map (·.1) = l → topOK done l = true → (∀ j, S j ↔ j ∈ done) → Top S L ∧ L.Pairwise (fun p q => p.1.idx ≠ q.1.idx) ∧ ∀ p ∈ L, p.1.idx ∉ done
  | [], done, L, S, hl, _, _ => by
    have : L = [] := by simpa using hl
    subst this
    exact ⟨trivial, .nil, fun p hp => (by cases hp)⟩
  | c :: l, done, [], S, hl, _, _ => by simp at hl
  | c :: l, done, p :: L, S, hl, h, hS => by
    simp only [List.map_cons, List.cons.injEq] at hl
    obtain ⟨rfl, hl⟩ := hl
    simp only [topOK, Bool.and_eq_true, List.all_eq_true, Bool.not_eq_true', List.contains_iff_mem] at h
    obtain ⟨⟨h1, h2⟩, h3⟩ := h
    have h2' : p.1.idx ∉ done := by simpa using h2
    obtain ⟨i1, i2, i3⟩ := top_spec (S := fun j => S j ∨ j = p.1.idx) hl h3 (fun j => by simp [hS j, or_comm])
    refine ⟨⟨fun j hj => (hS j).2 (by simpa using h1 j hj), fun hq => h2' ((hS _).1 hq), i1⟩, .cons (fun q hq e => ?_) i2, fun q hq => ?_⟩
    · exact i3 q hq (by rw [← e]; simp)
    · rcases List.mem_cons.1 hq with rfl | hq
      · exact h2'
      · exact fun e => i3 q hq (by simp [e])

theorem all_fill : ∀ (L : List (CI × Nat)) (B : List CI), (fillRe B L).all (okOper n) = true → ∀ p ∈ L, okOper n p.1.o = true
  | [], _, _, p, hp => by cases hp
  | (c, m) :: L, B, h, p, hp => by
    simp only [fillRe, List.all_cons, Bool.and_eq_true] at h
    rcases List.mem_cons.1 hp with rfl | hp
    · exact h.1
    · exact all_fill L _ h.2 p hp

/-- A REGION THAT DRAWS ITS ORDER: one order stands for all. -/
theorem region_draw (hm : P.follows .mixedOrders = true) {id : Nat} {ops : Array Oper} {rl : List ROper} (hr : rDraw P ops = some rl) (hok : rl.all (okOper n) = true) {F : Fz} {w : World} {H : Heap} {τ : Tmps} {a : Act} {Q : Tmps → Heap → Prop}
    (hR : Rel P F w H) (hT : TR F w n τ a.tmps) (hM : Mk base w H a.defers) (h : opsW P (M P) rl τ H Q) :
    (Code.region id ops true).wpIn (FO ro) 0 P (CP P n base F w H fun x τ' H' => x = .n ∧ Q τ' H') a w := by
  simp only [rDraw, Option.bind_eq_bind, Option.bind_eq_some_iff] at hr
  obtain ⟨cs, hcs, hr⟩ := hr
  split at hr
  · rename_i hcond
    cases hr
    obtain ⟨hlen, hall, htop, hpairs⟩ := hcond
    generalize hl : orderN ops.size 0 cs = l at *
    have hci : ∀ c ∈ l, mkCI P ops c.idx = some c := by
      intro c hc
      have hc' : c ∈ cs := order_mem _ _ _ c (by rw [hl]; exact hc)
      obtain ⟨hlen', hget⟩ := mapM_some hcs
      obtain ⟨k, hk, rfl⟩ := List.mem_iff_getElem.1 hc'
      have hk' : k < (List.range ops.size).length := by omega
      have := hget k hk' hk
      rw [List.getElem_range] at this
      rw [(mkCI_spec this).1]
      exact this
    obtain ⟨a1, a2⟩ := ancs_spec (ops := ops) l [] (fun c hc => by
      have := mkCI_spec (hci c hc)
      rw [this.2.1]) (fun k x hx => by simp at hx)
    obtain ⟨p1, p2, p3⟩ := pairs_spec hpairs
    have hsize : (Array.replicate ops.size false).size = ops.size := by simp
    have hno : ∀ j, ¬ (Array.replicate ops.size false).getD j false = true := by
      intro j
      simp only [Array.getD_eq_getD_getElem?, Array.getElem?_replicate]
      split <;> simp
    obtain ⟨t1, t2, _⟩ := top_spec (S := fun j => (Array.replicate ops.size false).getD j false = true) a1 htop (fun j => by simp only [List.not_mem_nil, iff_false]; exact hno j)
    have hmemL : ∀ p ∈ ancs [] l, p.1 ∈ l := fun p hp => by rw [← a1]; exact List.mem_map.2 ⟨p, hp, rfl⟩
    have hw1 : ({ w with drawn := w.drawn + 1 } : World).heap = w.heap := rfl
    obtain ⟨hR1, hS1⟩ := hR.same hw1
    refine wpIn_region_any hm (any_in ops.size (ancs [] l) _ F _ H τ a _ (by have := congrArg List.length a1; simpa [hlen] using this) hsize ?_ (fun j hj => absurd hj (hno j)) hR1 (hT.mono hS1.sub hS1.keep) (hM.step hS1) h (fun e a' w' hc => hc.pre hS1))
    exact {
      ci := fun p hp => hci p.1 (hmemL p hp)
      ok := all_fill _ _ hok
      out := fun p hp => hno _
      all := fun i hi _ => by
        have := List.all_eq_true.1 hall i (by simpa using hi)
        obtain ⟨c, hc, hci'⟩ := List.any_eq_true.1 this
        rw [← a1] at hc
        obtain ⟨p, hp, rfl⟩ := List.mem_map.1 hc
        exact ⟨p, hp, by simpa using hci'⟩
      anc := a2
      self := p1
      ssa := p2
      pair := p3
      dist := t2
      top := t1 }
  · cases hr

end Go.Fsl
