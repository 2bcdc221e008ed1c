/- A part of our logic over the resolved code, or of a proof in it. -/
import Derived.Test.YtdajenjajmofiaaGreatDoorFslSound8
set_option linter.unusedSimpArgs false
set_option linter.unusedVariables false
namespace Go.Fsl
variable {P : Program} {F : Fz} {w : World} {H : Heap} {n : Nat} {τ : Tmps} {a : Act} {K : D → Heap → Prop} {C : CallSem} {o : Oper}

theorem VRs.of_agg {xs : List D} {v : Value} (h : VR F w (.agg xs) v) : ∃ u : Array Value, v = .agg u ∧ VRs F w xs u.toList := by
  cases h with
  | agg u hl hr => exact ⟨u.toArray, rfl, by simpa using hl, fun i h h' => by simpa using hr i h (by simpa using h')⟩

theorem s_eqa (hR : Rel P F w H) (hT : TR F w n τ a.tmps) {neg : Bool} {t t' : TypeId} {ks : List BK} {x y : Operand} {rx ry : RO} (ho : o.op = .binOp (if neg then .neq else .eql) t x y t')
    (hf : flatN P 20 t = some ks) (hag : aggT P t = some true) (hgd : P.eqGuardType P.depth t = false) (h1 : rO x = some rx) (h2 : rO y = some ry) (k1 : okO n rx = true) (k2 : okO n ry = true)
    (h : opW P C (.eqa neg ks rx ry) τ H K) : Does P F w H a o K := by
  have e1 := ev_vr hT h1 k1
  have e2 := ev_vr hT h2 k2
  simp only [opW] at h
  split at h
  · rename_i xs ys hx hy
    rw [hx] at e1
    rw [hy] at e2
    obtain ⟨u, hu, hu'⟩ := VRs.of_agg e1
    obtain ⟨v, hv, hv'⟩ := VRs.of_agg e2
    split at h
    · rename_i r hr
      refine Does.pure hR ?_ (.v _) h
      have he := equal_key (w := w) hf hag (cellsEq_raw hr hu' hv')
      cases neg with
      | false =>
        simp only [Bool.false_eq_true, if_false] at ho ⊢
        exact exec_bin ho hu hv (run_eqGuard_agg w _ _ _ _ _ _ hgd) (by rw [run_eql_struct, he]; simp)
      | true =>
        simp only [if_true] at ho ⊢
        exact exec_bin ho hu hv (run_eqGuard_agg w _ _ _ _ _ _ hgd) (by rw [run_neq_struct, he]; simp)
    · exact h.elim
  · exact h.elim

/-! ### keys -/
def KeyT (P : Program) (t : TypeId) : KK → Prop
  | .one .i => ∃ k, P.underlying t = some (.int k)
  | .one .s => P.underlying t = some .string
  | .one .b => P.underlying t = some .bool
  | .flat ks => flatN P 20 t = some ks ∧ ∃ fs, P.underlying t = some (.struct fs)

theorem KeyT.agg {t : TypeId} {ks : List BK} (h : KeyT P t (.flat ks)) : aggT P t = some true := by
  obtain ⟨_, fs, hu⟩ := h
  simp [aggT, hu]

def chkFields (b : Bool) (d : Nat) (cs : Array Value) : List Field → Sem Unit
  | [] => pure ()
  | f :: fs => do
    if f.name ≠ "_" then Instr.checkKey b d f.type (← part f.type cs f.offset)
    chkFields b d cs fs

theorem run_check_struct {b : Bool} {d : Nat} {t : TypeId} {fs : Array Field} (hu : P.underlying t = some (.struct fs)) (cs : Array Value) (w : World) :
    (Instr.checkKey b (d + 1) t (.agg cs)).run P w = (chkFields b d cs fs.toList).run P w := by
  simp only [Instr.checkKey, Sem.run_bind, run_underlying hu, Result.andThen_ok]
  rw [← Array.forIn_toList]
  generalize fs.toList = l
  clear hu
  induction l generalizing w with
  | nil => simp [chkFields]
  | cons f l ih =>
    simp only [List.forIn_cons, chkFields, Sem.run_bind, Sem.run_ite]
    split
    · generalize (part f.type cs f.offset).run P w = r1
      cases r1 with
      | ok a w1 =>
        simp only [Result.andThen_ok]
        generalize (Instr.checkKey b d f.type a).run P w1 = r2
        cases r2 with
        | ok _ w2 =>
          simp only [Result.andThen_ok, Sem.run_pure]
          exact ih w2
        | halt x w2 => simp [Result.andThen]
      | halt x w1 => simp [Result.andThen]
    · simp only [Sem.run_pure, Result.andThen_ok]
      exact ih w

theorem chkFields_flat {d e : Nat} {b : Bool} (ih : ∀ (t : TypeId) (k : List BK) (g : Bool), flatN P d t = some k → aggT P t = some g → ∀ (as : List Value),
    as.length = k.length → (Instr.checkKey b e t (valOf g as)).run P w = .ok () w) (xs : List Value) :
    ∀ (fs : List Field) (acc : Nat) (k : List BK), acc + k.length = xs.length → flatFs (flatN P d) fs acc = some k →
    (chkFields b e xs.toArray fs).run P w = .ok () w
  | [], acc, k, _, h => by simp [chkFields]
  | f :: fs, acc, k, ha, h => by
    simp only [flatFs] at h
    split at h
    · cases h
    · rename_i hname
      have hn1 : f.name ≠ "_" := fun e => hname (.inl e)
      have hn2 : f.offset = acc := Classical.byContradiction fun e => hname (.inr e)
      cases hk : flatN P d f.type with
      | none => rw [hk] at h; cases h
      | some kf =>
        rw [hk] at h
        simp only [Option.map_eq_some_iff] at h
        obtain ⟨krest, hrest, rfl⟩ := h
        obtain ⟨g, hg, hs, h1⟩ := flatN_info hk
        simp only [List.length_append] at ha
        simp only [chkFields, if_pos hn1, Sem.run_bind, run_part hg hs (show f.offset + kf.length ≤ xs.length by omega) h1, Result.andThen_ok]
        rw [ih f.type kf g hk hg _ (by simp; omega)]
        simp only [Result.andThen_ok]
        exact chkFields_flat ih xs fs (acc + kf.length) krest (by omega) hrest

theorem check_flat {b : Bool} : ∀ (d : Nat) (t : TypeId) (k : List BK) (g : Bool) (e : Nat), d ≤ e → flatN P d t = some k → aggT P t = some g → ∀ (as : List Value),
    as.length = k.length → (Instr.checkKey b e t (valOf g as)).run P w = .ok () w
  | 0, t, k, g, e, _, h, _, _, _ => by simp [flatN] at h
  | d + 1, t, k, g, 0, he, _, _, _, _ => absurd he (by omega)
  | d + 1, t, k, g, e + 1, he, h, hg, as, hl => by
    simp only [flatN] at h
    split at h
    · rename_i hu
      simp [Instr.checkKey, run_underlying hu]
    · rename_i kk hu
      simp [Instr.checkKey, run_underlying hu]
    · rename_i hu
      simp [Instr.checkKey, run_underlying hu]
    · rename_i fs hu
      split at h
      · cases h
      · split at h
        · rename_i kk hf
          split at h
          · cases h
            have : g = true := by simp [aggT, hu] at hg; exact hg
            subst this
            simp only [valOf, if_true]
            rw [run_check_struct hu]
            exact chkFields_flat (fun t k g h1 h2 => check_flat d t k g e (by omega) h1 h2) as fs.toList 0 k (by omega) hf
          · cases h
        · cases h
    · cases h

theorem areKeys_length : ∀ {ks : List BK} {ds : List D}, areKeys ks ds = true → ds.length = ks.length
  | [], [], _ => rfl
  | k :: ks, d :: ds, h => by
    simp only [areKeys, Bool.and_eq_true] at h
    simp [areKeys_length h.2]
  | [], _ :: _, h => by simp [areKeys] at h
  | _ :: _, [], h => by simp [areKeys] at h

theorem run_checkKey {b : Bool} {t : TypeId} {kd : KK} (ht : KeyT P t kd) {d : D} {v : Value} (hd : keyOk kd d = true) (hv : VR F w d v) :
    (Instr.checkKey b 10000 t v).run P w = .ok () w := by
  cases kd with
  | one k =>
    have : ∃ ds, P.underlying t = some ds ∧ (∀ ms, ds ≠ .interface ms) ∧ (∀ n e, ds ≠ .array n e) ∧ ∀ fs, ds ≠ .struct fs := by
      cases k with
      | i => obtain ⟨k, hk⟩ := ht; exact ⟨_, hk, by simp, by simp, by simp⟩
      | s => exact ⟨_, ht, by simp, by simp, by simp⟩
      | b => exact ⟨_, ht, by simp, by simp, by simp⟩
    obtain ⟨ds, hu, h1, h2, h3⟩ := this
    obtain ⟨m, hm⟩ : ∃ m, 10000 = m + 1 := ⟨9999, rfl⟩
    rw [hm]
    simp only [Instr.checkKey, Sem.run_bind, run_underlying hu, Result.andThen_ok]
    split <;> first | exact absurd rfl (h1 _) | exact absurd rfl (h2 _ _) | exact absurd rfl (h3 _) | skip
    rfl
  | flat ks =>
    cases d with
    | agg cs =>
      obtain ⟨u, rfl, hu⟩ := VRs.of_agg hv
      have hl := areKeys_length (ks := ks) (ds := cs) hd
      have := check_flat (b := b) (w := w) 20 t ks true 10000 (by omega) ht.1 ht.agg u.toList (by rw [hu.1, hl])
      simpa only [valOf_agg] using this
    | _ => simp [keyOk] at hd

theorem find_spec {t : TypeId} {kd : KK} (ht : KeyT P t kd) {kD : D} {kv : Value} (hkv : VR F w kD kv) :
    ∀ (es : List (Nat × D × D)) (ents : List MapEntry) (i : Nat) (r : Option (Nat × D)), ents.length = es.length →
      (∀ j (h : j < ents.length) (h' : j < es.length), VR F w (es[j].2.1) (ents[j].key)) → findE kd kD es i = some r →
      ∃ r', (match kd with
          | .one _ => ∀ ds, P.underlying t = some ds → Instr.findNow ds kv ents i = some r'
          | .flat _ => (Instr.findAsking t kv ents i).run P w = .ok r' w) ∧
        ((r = none ∧ r' = none) ∨ ∃ j, ∃ h : j < ents.length, ∃ h' : j < es.length, r = some (i + j, es[j].2.2) ∧ r' = some (i + j, ents[j].val) ∧ keyEq kd kD es[j].2.1 = some true)
  | [], [], i, r, _, _, h => by
    simp only [findE] at h
    cases h
    refine ⟨none, ?_, .inl ⟨rfl, rfl⟩⟩
    cases kd with
    | one k => exact fun ds _ => rfl
    | flat ks => simp [Instr.findAsking]
  | [], _ :: _, _, _, hl, _, _ => by simp at hl
  | _ :: _, [], _, _, hl, _, _ => by simp at hl
  | e :: es, m :: ents, i, r, hl, hk, h => by
    simp only [findE] at h
    cases hq : keyEq kd kD e.2.1 with
    | none => rw [hq] at h; cases h
    | some b =>
      rw [hq] at h
      have h0 : VR F w e.2.1 m.key := hk 0 (by simp) (by simp)
      have hstep : match kd with
          | .one _ => ∀ ds, P.underlying t = some ds → Instr.sameNow ds kv m.key = some b
          | .flat _ => (Op.equal t kv m.key).run P w = .ok b w := by
        cases kd with
        | one k =>
          intro ds hds
          have hr := cellEq_raw hq hkv h0
          cases k with
          | i =>
            obtain ⟨k0, hk0⟩ := ht
            rw [hk0] at hds
            cases hds
            revert hr
            generalize m.key = y
            intro hr
            cases kv <;> cases y <;> simp [rawEq] at hr
            obtain ⟨rfl, hr2⟩ := hr
            simp [Instr.sameNow, hr2]
          | s =>
            have ht' : P.underlying t = some .string := ht
            rw [ht'] at hds
            cases hds
            revert hr
            generalize m.key = y
            intro hr
            cases kv <;> cases y <;> simp [rawEq] at hr
            simp [Instr.sameNow, hr]
          | b =>
            have ht' : P.underlying t = some .bool := ht
            rw [ht'] at hds
            cases hds
            revert hr
            generalize m.key = y
            intro hr
            cases kv <;> cases y <;> simp [rawEq] at hr
            simp [Instr.sameNow, hr]
        | flat ks =>
          show (Op.equal t kv m.key).run P w = .ok b w
          clear h
          revert hq h0
          generalize e.2.1 = ed
          intro h0 hq
          revert hq
          cases kD with
          | agg xs =>
            cases ed with
            | agg ys =>
              intro hq
              simp only [keyEq] at hq
              obtain ⟨u, hu, hu'⟩ := VRs.of_agg hkv
              obtain ⟨v, hv, hv'⟩ := VRs.of_agg h0
              rw [hu, hv]
              exact equal_key ht.1 ht.agg (cellsEq_raw hq hu' hv')
            | _ => intro hq; simp [keyEq] at hq
          | _ => intro hq; simp [keyEq] at hq
      cases b with
      | true =>
        simp only at h
        cases h
        refine ⟨some (i, m.val), ?_, .inr ⟨0, by simp, by simp, rfl, rfl, hq⟩⟩
        cases kd with
        | one k => intro ds hds; simp [Instr.findNow, hstep ds hds]
        | flat ks =>
          simp only at hstep
          simp [Instr.findAsking, hstep]
      | false =>
        simp only at h
        obtain ⟨r', h1, h2⟩ := find_spec ht hkv es ents (i + 1) r (by simpa using hl) (fun j p q => hk (j + 1) (by simpa using p) (by simpa using q)) h
        refine ⟨r', ?_, ?_⟩
        · cases kd with
          | one k => intro ds hds; simp only [Instr.findNow, hstep ds hds]; exact h1 ds hds
          | flat ks =>
            simp only at hstep h1
            simp [Instr.findAsking, hstep, h1]
        · rcases h2 with h2 | ⟨j, p, q, e1, e2, e3⟩
          · exact .inl h2
          · refine .inr ⟨j + 1, by simpa using p, by simpa using q, ?_, ?_, ?_⟩
            · rw [e1]; simp; omega
            · rw [e2]; simp; omega
            · simpa using e3

theorem run_findKey {t : TypeId} {kd : KK} (ht : KeyT P t kd) {kD : D} {kv : Value} (hkv : VR F w kD kv) {es : List (Nat × D × D)} {ents : List MapEntry} {r : Option (Nat × D)} (hl : ents.length = es.length)
    (hk : ∀ j (h : j < ents.length) (h' : j < es.length), VR F w (es[j].2.1) (ents[j].key)) (h : findE kd kD es 0 = some r) :
      ∃ r', (Instr.findKey t kv ents).run P w = .ok r' w ∧
        ((r = none ∧ r' = none) ∨ ∃ j, ∃ h : j < ents.length, ∃ h' : j < es.length, r = some (j, es[j].2.2) ∧ r' = some (j, ents[j].val) ∧ keyEq kd kD es[j].2.1 = some true) := by
  obtain ⟨r', h1, h2⟩ := find_spec ht hkv es ents 0 r hl hk h
  refine ⟨r', ?_, by simpa using h2⟩
  cases kd with
  | one k =>
    have : ∃ ds, P.underlying t = some ds := by
      cases k with
      | i => obtain ⟨k, hk⟩ := ht; exact ⟨_, hk⟩
      | s => exact ⟨_, ht⟩
      | b => exact ⟨_, ht⟩
    obtain ⟨ds, hds⟩ := this
    simp only [Instr.findKey, Sem.run_bind, run_underlying hds, Result.andThen_ok, h1 ds hds]
    rfl
  | flat ks =>
    obtain ⟨hf, fs, hu⟩ := ht
    simp only [Instr.findKey, Sem.run_bind, run_underlying hu, Result.andThen_ok]
    cases ents with
    | nil =>
      simp only at h1
      have : r' = none := by simpa [Instr.findAsking] using h1.symm
      subst this
      rfl
    | cons e ents =>
      simp only [Instr.findNow, Instr.sameNow]
      exact h1

end Go.Fsl
