/- A part of our logic over the resolved code, or of a proof in it. -/
import Derived.Test.YtdajenjajmofiaaGreatDoorFslDraw0
set_option linter.unusedSimpArgs false
set_option linter.unusedVariables false
namespace Go.Fsl
variable {P : Program} {C : CallSem}

theorem src_just (H : Heap) (sz : Nat) (d : D) (b : Nat) (hb : ∀ c o n m, d = .v (.slice (some ⟨c, o, none⟩) n m) → c = b) : srcCells (justH b (H b)) sz d = srcCells H sz d := by
  cases d with
  | v x =>
    cases x with
    | slice A n m =>
      cases A with
      | none => rfl
      | some A =>
        obtain ⟨c, o, s⟩ := A
        cases s with
        | none =>
          have := hb c o n m rfl
          subst this
          simp [srcCells, justH]
        | some s => rfl
    | _ => rfl
  | _ => rfl

theorem load_spec {o : ROp} (ho : o.cls = .pure ∨ o.cls = .load) (τ : Tmps) (H : Heap) (K : D → Heap → Prop) :
    opW P C o τ H K ↔ ∃ d, loadV o τ (H (loadB o τ)) = some d ∧ K d H := by
  rcases ho with ho | ho
  · have := pure_spec (P := P) (C := C) ho τ H K
    rw [this]
    cases o <;> simp only [ROp.cls, reduceCtorEq] at ho <;> rfl
  · cases o <;> simp only [ROp.cls, reduceCtorEq] at ho
    case load g n a =>
      simp only [opW, loadV, loadB]
      generalize a.ev τ = d
      repeat' split
      all_goals first
        | (simp_all; done)
        | grind
    case lookup kd zero ok m k =>
      simp only [opW, loadV, loadB]
      generalize m.ev τ = d
      repeat' split
      all_goals first
        | (simp_all; done)
        | grind
    case mlen x =>
      simp only [opW, loadV, loadB]
      generalize x.ev τ = d
      repeat' split
      all_goals first
        | (simp_all; done)
        | grind
    case cvbs x =>
      have hj : ∀ d, d = x.ev τ → srcCells (justH (loadB (.cvbs x) τ) (H (loadB (.cvbs x) τ))) 1 d = srcCells H 1 d := by
        rintro d rfl
        exact src_just H 1 _ _ (fun c o n m hd => by simp [loadB, hd])
      simp only [opW, loadV, isStr_iff]
      rw [hj _ rfl]
      generalize x.ev τ = d
      repeat' split
      all_goals first
        | (simp_all; done)
        | grind

theorem loadV_mono {o : ROp} (ho : o.cls = .pure ∨ o.cls = .load) {τ : Tmps} {d : D} (h : loadV o τ none = some d) (oo : Option O) : loadV o τ oo = some d := by
  rcases ho with ho | ho
  · cases o <;> simp only [ROp.cls, reduceCtorEq] at ho <;> exact h
  · cases o <;> simp only [ROp.cls, reduceCtorEq] at ho
    case load g n a =>
      revert h
      simp only [loadV]
      repeat' split
      all_goals first
        | exact id
        | simp_all
    case lookup kd zero ok m k =>
      revert h
      simp only [loadV]
      repeat' split
      all_goals first
        | exact id
        | simp_all
    case mlen x =>
      revert h
      simp only [loadV]
      repeat' split
      all_goals first
        | exact id
        | simp_all
    case cvbs x =>
      have hj : ∀ d, d = x.ev τ → ∀ r, srcCells (justH (loadB (.cvbs x) τ) none) 1 d = some r → srcCells (justH (loadB (.cvbs x) τ) oo) 1 d = some r := by
        rintro d rfl r
        generalize x.ev τ = e
        cases e with
        | v v =>
          cases v with
          | slice A n m =>
            cases A with
            | none => exact id
            | some A =>
              obtain ⟨c, o, s⟩ := A
              cases s with
              | none => simp [srcCells, justH]
              | some s => exact id
          | _ => exact id
        | _ => exact id
      revert h
      simp only [loadV]
      have hj' := hj _ rfl
      generalize x.ev τ = e at *
      generalize srcCells (justH (loadB (.cvbs x) τ) none) 1 e = s1 at *
      cases s1 with
      | none => (repeat' split) <;> simp_all
      | some r => rw [hj' r rfl]; exact id

theorem loadV_pure {o : ROp} (ho : o.cls = .pure) (τ : Tmps) (oo oo' : Option O) : loadV o τ oo = loadV o τ oo' := by
  cases o <;> simp only [ROp.cls, reduceCtorEq] at ho <;> rfl

/-! ### Allocations -/
def allocV (o : ROp) (τ : Tmps) : Option (Nat × (Nat → Nat → D) × (Nat → O)) :=
  match o with
  | .alloc cs t => some (0, fun b _ => .ptr b 0, fun _ => .cells cs 0 0 (some t))
  | .box x => match (x.ev τ).cells with
    | some cs => some (0, fun b _ => .ptr b 0, fun _ => .cells cs 0 0 none)
    | none => none
  | .bslice sz zs n parts => match buildCells τ (List.replicate n zs).flatten parts with
    | some cs => if zs.length = sz then some (0, fun b _ => .v (.slice (some ⟨b, 0, none⟩) n n), fun _ => .cells cs 0 (n * sz) none) else none
    | none => none
  | .mkslice sz bytes zero l c => match intD (l.ev τ), intD (c.ev τ) with
    | some l, some c => if 0 ≤ l ∧ l ≤ c ∧ c * bytes ≤ 2 ^ 46 ∧ c ≤ 2 ^ 46 ∧ zero.length = sz then
        some (0, fun b _ => .v (.slice (some ⟨b, 0, none⟩) l.toNat c.toNat), fun _ => .cells (List.replicate l.toNat zero).flatten 0 (c.toNat * sz) none) else none
    | _, _ => none
  | .mkmap => some (0, fun b _ => .v (.map (some b)), fun _ => .map [] 0)
  | .srange x => match x.ev τ with
    | .v (.string s) => some (0, fun b _ => .ptr b 0, fun _ => .siter s 0)
    | _ => none
  | .cvsb x => match x.ev τ with
    | .v (.string s) => some (s.size, fun b c => .v (.slice (some ⟨b, 0, none⟩) s.size c), fun c => .cells (s.data.toList.map byteD) 0 c none)
    | _ => none
  | _ => none

theorem alloc_spec {o : ROp} (ho : o.cls = .alloc) (τ : Tmps) (H : Heap) (K : D → Heap → Prop) :
    opW P C o τ H K ↔ ∃ lo fd ob, allocV o τ = some (lo, fd, ob) ∧ ∀ b c, H b = none → lo ≤ c → K (fd b c) (H.ins b (ob c)) := by
  have key : ∀ {fd : Nat → D} {ob : O}, (∀ b, H b = none → K (fd b) (H.ins b ob)) ↔ ∀ b (c : Nat), H b = none → 0 ≤ c → K (fd b) (H.ins b ob) :=
    fun {fd ob} => ⟨fun h b _ hb _ => h b hb, fun h b hb => h b 0 hb (Nat.le_refl _)⟩
  have some3 : ∀ {lo : Nat} {fd : Nat → Nat → D} {ob : Nat → O}, (∃ lo' fd' ob', some (lo, fd, ob) = some (lo', fd', ob') ∧ ∀ b c, H b = none → lo' ≤ c → K (fd' b c) (H.ins b (ob' c))) ↔ ∀ b c, H b = none → lo ≤ c → K (fd b c) (H.ins b (ob c)) :=
    fun {lo fd ob} => ⟨fun ⟨_, _, _, h, k⟩ => by cases h; exact k, fun h => ⟨_, _, _, rfl, h⟩⟩
  have none3 : ¬ (∃ lo' fd' ob', (none : Option (Nat × (Nat → Nat → D) × (Nat → O))) = some (lo', fd', ob') ∧ ∀ b c, H b = none → lo' ≤ c → K (fd' b c) (H.ins b (ob' c))) := fun ⟨_, _, _, h, _⟩ => by cases h
  cases o <;> simp only [ROp.cls, reduceCtorEq] at ho
  case alloc cs => simp only [opW, allocV]; rw [some3]; exact key
  case box x =>
    simp only [opW, allocV]
    cases (x.ev τ).cells with
    | some cs => simp only; rw [some3]; exact key
    | none => exact ⟨fun h => h.elim, fun h => none3 h⟩
  case bslice sz zs n parts =>
    simp only [opW, allocV]
    cases buildCells τ (List.replicate n zs).flatten parts with
    | some cs =>
      simp only
      split
      · rename_i hz; rw [some3, ← key]; exact ⟨fun h => h.2, fun h => ⟨hz, h⟩⟩
      · rename_i hz; exact ⟨fun h => absurd h.1 hz, fun h => (none3 h).elim⟩
    | none => exact ⟨fun h => h.elim, fun h => none3 h⟩
  case mkslice sz bytes zero l c =>
    simp only [opW, allocV]
    cases intD (l.ev τ) with
    | none => exact ⟨fun h => h.elim, fun h => none3 h⟩
    | some l =>
      cases intD (c.ev τ) with
      | none => exact ⟨fun h => h.elim, fun h => none3 h⟩
      | some c =>
        simp only
        split
        · rename_i hz; rw [some3, ← key]; exact ⟨fun h => h.2.2.2.2.2, fun h => ⟨hz.1, hz.2.1, hz.2.2.1, hz.2.2.2.1, hz.2.2.2.2, h⟩⟩
        · rename_i hz; exact ⟨fun h => absurd ⟨h.1, h.2.1, h.2.2.1, h.2.2.2.1, h.2.2.2.2.1⟩ hz, fun h => (none3 h).elim⟩
  case mkmap => simp only [opW, allocV]; rw [some3]; exact key
  case srange x =>
    simp only [opW, allocV]
    generalize x.ev τ = d
    cases d with
    | v v => cases v with
      | string s => simp only; rw [some3]; exact key
      | _ => exact ⟨fun h => h.elim, fun h => none3 h⟩
    | _ => exact ⟨fun h => h.elim, fun h => none3 h⟩
  case cvsb x =>
    simp only [opW, allocV]
    generalize x.ev τ = d
    cases d with
    | v v => cases v with
      | string s => simp only; rw [some3]
      | _ => exact ⟨fun h => h.elim, fun h => none3 h⟩
    | _ => exact ⟨fun h => h.elim, fun h => none3 h⟩

/-! ### What stands aside -/
def Fr (b : Nat) (ob : O) (K : D → Heap → Prop) (d : D) (H'' : Heap) : Prop := ∃ H', H'' = H'.ins b ob ∧ H' b = none ∧ K d H'

theorem src_frame {H : Heap} {b : Nat} {ob : O} (hb : H b = none) {sz : Nat} {d : D} {r : Nat × List D} (h : srcCells H sz d = some r) : srcCells (H.ins b ob) sz d = some r := by
  revert h
  cases d with
  | v x =>
    cases x with
    | slice A n m =>
      cases A with
      | none => exact id
      | some A =>
        obtain ⟨c, o, s⟩ := A
        cases s with
        | none =>
          simp only [srcCells]
          by_cases hc : c = b
          · subst hc; simp [hb]
          · rw [Heap.ins_other _ _ hc]; exact id
        | some s => exact id
    | _ => exact id
  | _ => exact id

theorem ghost_frame {ds ds' : List D} {H H1 : Heap} {b : Nat} {ob : O} (hb : H b = none) (h : Ghost P ds H ds' H1) : Ghost P ds (H.ins b ob) ds' (H1.ins b ob) := by
  refine ⟨fun c hc => ?_, fun F w vs hR hv => ?_⟩
  · by_cases e : c = b
    · subst e; simp at hc
    · rw [Heap.ins_other _ _ e] at hc ⊢; exact h.1 c hc
  · obtain ⟨F', s, hR', hv'⟩ := h.2 F w vs (hR.sub (HSub.ins ob hb)) hv
    obtain ⟨q1, q2⟩ := hR.framed hb s hR'
    exact ⟨F', s.framed hb (hR.lt (Heap.ins_same _ _ _)), q2, hv'⟩

theorem op_frame (hg : Good C) {o : ROp} (ho : o.cls = .eff) {τ : Tmps} {H : Heap} {K : D → Heap → Prop} {b : Nat} {ob : O} (hb : H b = none) (h : opW P C o τ H K) :
    opW P C o τ (H.ins b ob) (Fr b ob K) := by
  have up : ∀ {c : Nat} {x : O} {d : D}, H c = some x → ∀ y, K d (H.ins c y) → Fr b ob K d ((H.ins b ob).ins c y) := by
    intro c x d hc y hk
    have hne : c ≠ b := by rintro rfl; rw [hb] at hc; cases hc
    exact ⟨H.ins c y, Heap.ins_comm H ob y (Ne.symm hne), by rw [Heap.ins_other _ _ (Ne.symm hne)]; exact hb, hk⟩
  have same : ∀ {d : D}, K d H → Fr b ob K d (H.ins b ob) := fun hk => ⟨H, rfl, hb, hk⟩
  have at' : ∀ {c : Nat} {x : O}, H c = some x → (H.ins b ob) c = some x := by
    intro c x hc
    have hne : c ≠ b := by rintro rfl; rw [hb] at hc; cases hc
    rw [Heap.ins_other _ _ hne]; exact hc
  have free : ∀ {c : Nat}, (H.ins b ob) c = none → H c = none ∧ c ≠ b := by
    intro c hc
    have hne : c ≠ b := by rintro rfl; simp at hc
    rw [Heap.ins_other _ _ hne] at hc; exact ⟨hc, hne⟩
  have new : ∀ {c : Nat} {d : D}, (H.ins b ob) c = none → ∀ y, K d (H.ins c y) → Fr b ob K d ((H.ins b ob).ins c y) := by
    intro c d hc y hk
    obtain ⟨_, hne⟩ := free hc
    exact ⟨H.ins c y, Heap.ins_comm H ob y (Ne.symm hne), by rw [Heap.ins_other _ _ (Ne.symm hne)]; exact hb, hk⟩
  have call : ∀ {c : Cal} {ds : List D} {H1 : Heap}, H1 b = none → C c ds H1 K → C c ds (H1.ins b ob) (Fr b ob K) := by
    intro c ds H1 h1 hc
    exact hg.mono _ _ _ _ _ (hg.frame _ _ _ _ b ob hc h1) fun r H' ⟨H'', h2, h3, h4⟩ => ⟨H'', h3, h2, h4⟩
  cases o <;> simp only [ROp.cls, reduceCtorEq] at ho
  case store n a x =>
    simp only [opW] at h ⊢
    split at h
    · split at h
      · rename_i cs frz room ty hc
        rw [at' hc]
        split at h
        · rename_i ds hds
          simp only [hds]
          exact ⟨h.1, h.2.1, h.2.2.1, h.2.2.2.1, up hc _ h.2.2.2.2⟩
        · exact h.elim
      · exact h.elim
    · exact h.elim
  case append sz bytes z e a x =>
    simp only [opW] at h ⊢
    split at h
    · rename_i k ys hs
      rw [src_frame hb hs]
      obtain ⟨h1, h2, h⟩ := h
      refine ⟨h1, h2, ?_⟩
      revert h
      split
      · rintro ⟨p, q⟩
        exact ⟨fun e => same (p e), fun e => ⟨(q e).1, fun b' c hb' hc => new hb' _ ((q e).2 b' c (free hb').1 hc)⟩⟩
      · rename_i c off n m hd
        split
        · rename_i cs frz room ty hc
          rw [at' hc]
          rintro ⟨p1, p2, p3, p0, pA, p⟩
          refine ⟨p1, p2, p3, fun hr h0 => same (p0 hr h0), fun hr h0 => ⟨(pA hr h0).1, up hc _ (pA hr h0).2⟩, fun hgt b' c' hb' hc' => ?_⟩
          exact new hb' _ (p hgt b' c' (free hb').1 hc')
        · exact fun h => h.elim
      · exact fun h => h.elim
    · exact h.elim
  case cvt x =>
    simp only [opW] at h ⊢
    split at h
    · split at h
      · rename_i cs frz room ty hc
        rw [at' hc]
        exact ⟨h.1, same h.2⟩
      · exact h.elim
    · exact h.elim
  case cvu n u x =>
    simp only [opW] at h ⊢
    split at h
    · split at h
      · rename_i cs frz room ty hc
        rw [at' hc]
        exact ⟨h.1, h.2.1, h.2.2.1, same h.2.2.2⟩
      · exact h.elim
    · exact h.elim
  case ust u p n =>
    simp only [opW] at h ⊢
    split at h
    · split at h
      · rename_i h0
        rw [if_pos h0]
        split at h
        · exact same h
        · exact h.elim
      · rename_i h0
        rw [if_neg h0]
        refine ⟨h.1, h.2.1, ?_⟩
        have h := h.2.2
        split at h
        · rename_i c hx
          split at h
          · rename_i cs frz room ty hc
            rw [at' hc]
            obtain ⟨h1, h2, h2', l, h3, h⟩ := h
            refine ⟨h1, h2, h2', l, h3, ?_⟩
            have hne : c ≠ b := by rintro rfl; rw [hb] at hc; cases hc
            refine ⟨H.era c, ?_, by simp [Heap.era, hb], h⟩
            funext y
            simp only [Heap.era, Heap.ins]
            by_cases e1 : y = c
            · subst e1; simp [hne]
            · simp [e1]
          · exact h.elim
        · exact h.elim
    · exact h.elim
  case mapupd kd m k x =>
    simp only [opW] at h ⊢
    refine ⟨h.1, ?_⟩
    have h := h.2
    split at h
    · split at h
      · rename_i es clock hr
        rw [at' hr]
        split at h
        · rename_i i d hf
          simp only [hf]
          exact up hr _ h
        · rename_i hf
          simp only [hf]
          exact up hr _ h
        · exact h.elim
      · exact h.elim
    · exact h.elim
  case mrange x =>
    simp only [opW] at h ⊢
    split at h
    · split at h
      · rename_i es clock hr
        rw [at' hr]
        exact fun it hit => new hit _ (h it (free hit).1)
      · exact h.elim
    · exact h.elim
  case next str it =>
    cases str with
    | true =>
      simp only [opW] at h ⊢
      split at h
      · split at h
        · rename_i s pos hr
          rw [at' hr]
          split at h
          · rename_i hlt
            simp only [hlt, if_true]
            exact up hr _ h
          · rename_i hlt
            simp only [hlt, if_false]
            exact same h
        · exact h.elim
      · exact h.elim
    | false =>
      simp only [opW] at h ⊢
      split at h
      · split at h
        · rename_i m since seen stepped hr
          rw [at' hr]
          split at h
          · rename_i es clock hm
            simp only [at' hm]
            exact ⟨h.1, h.2.1, fun e he hs => up hr _ (h.2.2.1 e he hs), fun hall => same (h.2.2.2 hall)⟩
          · exact h.elim
        · exact h.elim
      · exact h.elim
  case entry it =>
    simp only [opW] at h ⊢
    split at h
    · split at h
      · rename_i m since seen stepped hr
        rw [at' hr]
        split at h
        · rename_i es clock k hm hk
          simp only [at' hm, hk]
          refine ⟨h.1, ?_⟩
          have h := h.2
          split at h
          · exact same h
          · exact h.elim
        · exact h.elim
      · exact h.elim
    · exact h.elim
  case dead => exact h.elim
  case call c xs =>
    cases c with
    | fn f =>
      obtain ⟨ds, H1, hgh, hc⟩ := h
      exact ⟨ds, H1.ins b ob, ghost_frame hb hgh, call (hgh.1 b hb) hc⟩
    | val x =>
      simp only [opW] at h ⊢
      split at h
      · obtain ⟨ds, H1, hgh, hc⟩ := h
        exact ⟨ds, H1.ins b ob, ghost_frame hb hgh, call (hgh.1 b hb) hc⟩
      · exact ⟨h.1, h.2.1, call hb h.2.2⟩
      · exact h.elim

end Go.Fsl
