/- A part of our logic over the resolved code, or of a proof in it. -/
import Derived.Test.YtdajenjajmofiaaGreatDoorFslSound9
set_option linter.unusedSimpArgs false
set_option linter.unusedVariables false
namespace Go.Fsl
variable {P : Program} {F : Fz} {w : World} {H : Heap} {n : Nat} {τ : Tmps} {a : Act} {K : D → Heap → Prop} {C : CallSem} {o : Oper}

theorem zeroD_run {t : TypeId} {z : D} (h : zeroD P t = some z) (w : World) : ∃ v, (zeroValue t).run P w = .ok v w ∧ ∀ F w', VR F w' z v := by
  simp only [zeroD] at h
  cases hi : P.info? t with
  | none => rw [hi] at h; cases h
  | some i =>
    rw [hi, Option.bind_some] at h
    cases hz : i.zero with
    | none => rw [hz] at h; cases h
    | some v =>
      rw [hz, Option.bind_some] at h
      exact ⟨v, by simp [zeroValue, typeInfo, hi, hz], fun _ _ => ofV_vr h⟩

theorem VRs.two {d e : D} {x y : Value} (h : VR F w d x) (k : VR F w e y) : VR F w (.tup [d, e]) (.tuple #[x, y]) :=
  VR.tup [x, y] rfl (((VRs.nil F w).cons k |>.cons h).2)

theorem s_lookup (hR : Rel P F w H) (hT : TR F w n τ a.tmps) {t kt et : TypeId} {kd : KK} {z : D} {ok : Bool} {x k : Operand} {rx rk : RO} (ho : o.op = .lookup t x k ok)
    (hu : P.underlying t = some (.map kt et)) (ht : KeyT P kt kd) (hz : zeroD P et = some z) (h1 : rO x = some rx) (h2 : rO k = some rk) (k1 : okO n rx = true) (k2 : okO n rk = true)
    (h : opW P C (.lookup kd z ok rx rk) τ H K) : Does P F w H a o K := by
  have e1 := ev_vr hT h1 k1
  have e2 := ev_vr hT h2 k2
  obtain ⟨zv, hzr, hzv⟩ := zeroD_run hz w
  obtain ⟨hkey, h⟩ := h
  have fin : ∀ {v : Value}, (Instr.lookup t (a.eval x) (a.eval k) ok).run P w = .ok v w → (execOp a.eval o).run P w = .ok (.value v) w := by
    intro v hv
    simp only [execOp, ho]
    exact exec_val hv
  generalize hvx : a.eval x = vx at *
  generalize hvk : a.eval k = vk at *
  split at h
  · rename_i hd
    rw [hd] at e1
    cases e1
    obtain ⟨r', hf, hf'⟩ := run_findKey ht e2 (es := []) (ents := []) (r := none) rfl (fun j h => absurd h (by simp)) rfl
    have : r' = none := by
      rcases hf' with ⟨_, h⟩ | ⟨j, h, _⟩
      · exact h
      · exact absurd h (by simp)
    subst this
    refine Does.pure hR (fin (v := if ok then .tuple #[zv, .bool false] else zv) ?_) ?_ h
    · simp [Instr.lookup, run_underlying hu, run_checkKey ht hkey e2, hf, hzr]
    · cases ok
      · exact hzv _ _
      · exact VRs.two (hzv _ _) (.v _)
  · rename_i r hd
    rw [hd] at e1
    cases e1
    split at h
    · rename_i es clock hr
      obtain ⟨ents, g1, g2, g3⟩ := hR.own r _ hr
      have hg := run_getObj (P := P) g1 (by intros; simp)
      split at h
      · rename_i i d hfe
        obtain ⟨r', hf, hf'⟩ := run_findKey ht e2 g2 (fun j p q => (g3 j p q).2.1) hfe
        rcases hf' with ⟨e, _⟩ | ⟨j, p, q, e, rfl, _⟩
        · cases e
        · cases e
          refine Does.pure hR (fin (v := if ok then .tuple #[ents[i].val, .bool true] else ents[i].val) ?_) ?_ h
          · simp [Instr.lookup, run_underlying hu, hg, run_checkKey ht hkey e2, hf]
          · cases ok
            · exact (g3 i p q).2.2
            · exact VRs.two (g3 i p q).2.2 (.v _)
      · rename_i hfe
        obtain ⟨r', hf, hf'⟩ := run_findKey ht e2 g2 (fun j p q => (g3 j p q).2.1) hfe
        rcases hf' with ⟨_, rfl⟩ | ⟨j, p, q, e, _⟩
        · refine Does.pure hR (fin (v := if ok then .tuple #[zv, .bool false] else zv) ?_) ?_ h
          · simp [Instr.lookup, run_underlying hu, hg, run_checkKey ht hkey e2, hf, hzr]
          · cases ok
            · exact hzv _ _
            · exact VRs.two (hzv _ _) (.v _)
        · cases e
      · exact h.elim
    · exact h.elim
  · exact h.elim

/-! ### an entry is set -/
theorem ba_eq {a b : ByteArray} (h : (a == b) = true) : a = b := by
  rw [beq_toListBytes, ByteArray.toList_eq, ByteArray.toList_eq] at h
  have := eq_of_beq h
  cases a; cases b
  simp only at this
  congr
  exact Array.toList_inj.1 this
theorem ba_beq (a : ByteArray) : (a == a) = true := by
  rw [beq_toListBytes]; simp

theorem raw_bits {k : BK} {x y : Value} (h : rawEq k x y = some true) (m : Nat) : Instr.sameBits m x y = true := by
  cases k <;> cases x <;> cases y <;> simp [rawEq] at h
  all_goals first
    | (obtain ⟨h1, h2⟩ := h; subst h1 h2; cases m <;> simp [Instr.sameBits])
    | (have := ba_eq h; subst this; cases m <;> simp [Instr.sameBits, ba_beq])
    | (subst h; cases m <;> simp [Instr.sameBits])

theorem raw_symm {k : BK} {x y : Value} (h : rawEq k x y = some true) : rawEq k y x = some true := by
  cases k <;> cases x <;> cases y <;> simp [rawEq] at h ⊢
  all_goals first
    | (obtain ⟨h1, h2⟩ := h; subst h1 h2; exact ⟨rfl, rfl⟩)
    | (have := ba_eq h; subst this; exact ba_beq _)
    | exact h.symm

theorem eqVs_bits : ∀ {ks : List BK} {xs ys : List Value}, eqVs ks xs ys = some true → ∀ m, (ys.zip xs).all (fun (x, y) => Instr.sameBits m x y) = true
  | [], [], [], _, _ => rfl
  | k :: ks, x :: xs, y :: ys, h, m => by
    simp only [eqVs] at h
    cases hr : rawEq k x y with
    | none => rw [hr] at h; cases h
    | some b =>
      rw [hr] at h
      cases b with
      | true =>
        simp only [List.zip_cons_cons, List.all_cons, Bool.and_eq_true]
        exact ⟨raw_bits (raw_symm hr) m, eqVs_bits h m⟩
      | false =>
        simp only at h
        cases hq : eqVs ks xs ys with
        | none => rw [hq] at h; cases h
        | some b' => rw [hq] at h; cases h
  | [], _ :: _, _, h, _ => by simp [eqVs] at h
  | [], [], _ :: _, h, _ => by simp [eqVs] at h
  | _ :: _, [], _, h, _ => by simp [eqVs] at h
  | _ :: _, _ :: _, [], h, _ => by simp [eqVs] at h

theorem run_keyThatStays {kd : KK} {d e : D} {x y : Value} (h : keyEq kd d e = some true) (hx : VR F w d x) (hy : VR F w e y) : (Instr.keyThatStays y x).run P w = .ok x w := by
  have hb : Instr.sameBits 10000 y x = true := by
    cases kd with
    | one k => exact raw_bits (raw_symm (cellEq_raw h hx hy)) _
    | flat ks =>
      cases d with
      | agg xs => cases e with
        | agg ys =>
          obtain ⟨u, rfl, hu⟩ := VRs.of_agg hx
          obtain ⟨v, rfl, hv⟩ := VRs.of_agg hy
          have he := cellsEq_raw h hu hv
          have hl := eqVs_length he
          obtain ⟨m, hm⟩ : ∃ m, 10000 = m + 1 := ⟨9999, rfl⟩
          rw [hm]
          simp only [Instr.sameBits, Bool.and_eq_true]
          exact ⟨by simp at hl ⊢; omega, eqVs_bits he m⟩
        | _ => simp [keyEq] at h
      | _ => simp [keyEq] at h
  simp only [Instr.keyThatStays, hb, if_true, Sem.run_pure]

theorem s_mapupd (hR : Rel P F w H) (hT : TR F w n τ a.tmps) {t kt et : TypeId} {kd : KK} {m k x : Operand} {rm rk rx : RO} (ho : o.op = .mapUpdate t m k x ∨ o.op = .insert t m k x)
    (hu : P.underlying t = some (.map kt et)) (ht : KeyT P kt kd) (h1 : rO m = some rm) (h2 : rO k = some rk) (h3 : rO x = some rx) (k1 : okO n rm = true) (k2 : okO n rk = true) (k3 : okO n rx = true)
    (h : opW P C (.mapupd kd rm rk rx) τ H K) : Does P F w H a o K := by
  have e1 := ev_vr hT h1 k1
  have e2 := ev_vr hT h2 k2
  have e3 := ev_vr hT h3 k3
  obtain ⟨hkey, h⟩ := h
  have fin : ∀ {w' : World}, (Instr.mapUpdate t (a.eval m) (a.eval k) (a.eval x)).run P w = .ok () w' → (execOp a.eval o).run P w = .ok .skip w' := by
    intro w' hv
    rcases ho with ho | ho <;> simp only [execOp, ho] <;> (rw [Sem.run_bind, hv]; rfl)
  generalize hvx : a.eval m = vm at *
  generalize hvk : a.eval k = vk at *
  generalize hvv : a.eval x = vx at *
  split at h
  · rename_i r hd
    rw [hd] at e1
    cases e1
    split at h
    · rename_i es clock hr
      obtain ⟨ents, g1, g2, g3⟩ := hR.own r _ hr
      have hg := run_getObj (P := P) g1 (by intros; simp)
      split at h
      · rename_i i d hfe
        obtain ⟨r', hf, hf'⟩ := run_findKey ht e2 g2 (fun j p q => (g3 j p q).2.1) hfe
        rcases hf' with ⟨e, _⟩ | ⟨j, p, q, e, rfl, hkeq⟩
        · cases e
        · cases e
          have hks := run_keyThatStays (P := P) hkeq e2 (g3 i p q).2.1
          let es' := ents.modify i fun e => { e with key := vk, val := vx }
          have hst := run_setObj (P := P) (y := .map es'.toArray clock) g1 (by intros; simp)
          have hturn := hR.turn (y := .map es'.toArray clock) (o' := .map (es.modify i fun e => (e.1, rk.ev τ, rx.ev τ)) clock) hr (by intros; simp) (fun w' hw hk => by
            refine ⟨es', heap_turn g1 hw, by simp [es', g2], fun j hj hj' => ?_⟩
            simp only [es', List.length_modify] at hj hj'
            have g := g3 j hj hj'
            simp only [es', List.getElem_modify]
            split
            · exact ⟨g.1, e2.mono (SubF.refl F) hk, e3.mono (SubF.refl F) hk⟩
            · exact ⟨g.1, g.2.1.mono (SubF.refl F) hk, g.2.2.mono (SubF.refl F) hk⟩)
          refine ⟨.skip, undef, _, _, _, F, fin ?_, .inr ⟨rfl, rfl⟩, hturn.2, hturn.1, VR.undef _ _, h⟩
          simp only [Instr.mapUpdate, Sem.run_bind, run_underlying hu, Result.andThen_ok, hg, run_checkKey ht hkey e2, hf]
          have hget : (((ents.toArray)[i]?).map (·.key)).getD vk = ents[i].key := by simp [p]
          rw [hget, hks]
          simp only [Result.andThen_ok]
          have : (ents.toArray.modify i fun e => { e with key := vk, val := vx }) = es'.toArray := by simp [es']
          rw [this]
          exact hst
      · rename_i hfe
        obtain ⟨r', hf, hf'⟩ := run_findKey ht e2 g2 (fun j p q => (g3 j p q).2.1) hfe
        rcases hf' with ⟨_, rfl⟩ | ⟨j, p, q, e, _⟩
        · let es' := ents ++ [{ key := vk, val := vx, born := clock : MapEntry }]
          have hst := run_setObj (P := P) (y := .map es'.toArray (clock + 1)) g1 (by intros; simp)
          have hturn := hR.turn (y := .map es'.toArray (clock + 1)) (o' := .map (es ++ [(clock, rk.ev τ, rx.ev τ)]) (clock + 1)) hr (by intros; simp) (fun w' hw hk => by
            refine ⟨es', heap_turn g1 hw, by simp [es', g2], fun j hj hj' => ?_⟩
            simp only [es', List.length_append, List.length_singleton] at hj hj'
            by_cases hlt : j < es.length
            · have hlt' : j < ents.length := by omega
              have g := g3 j hlt' hlt
              simp only [es', List.getElem_append_left hlt, List.getElem_append_left hlt']
              exact ⟨g.1, g.2.1.mono (SubF.refl F) hk, g.2.2.mono (SubF.refl F) hk⟩
            · have hj1 : j = es.length := by omega
              subst hj1
              have hj2 : es.length = ents.length := g2.symm
              simp only [es', List.getElem_append_right (Nat.le_refl es.length), List.getElem_append_right (show ents.length ≤ es.length by omega)]
              have : ∀ (i : Nat) (h1 : i < 1) (h2 : i < 1), i = 0 := by omega
              simp only [List.getElem_singleton]
              exact ⟨trivial, e2.mono (SubF.refl F) hk, e3.mono (SubF.refl F) hk⟩)
          refine ⟨.skip, undef, _, _, _, F, fin ?_, .inr ⟨rfl, rfl⟩, hturn.2, hturn.1, VR.undef _ _, h⟩
          simp only [Instr.mapUpdate, Sem.run_bind, run_underlying hu, Result.andThen_ok, hg, run_checkKey ht hkey e2, hf]
          have : (ents.toArray.push { key := vk, val := vx, born := clock : MapEntry }) = es'.toArray := by simp [es']
          rw [this]
          exact hst
        · cases e
      · exact h.elim
    · exact h.elim
  · exact h.elim

/-! ### a map is gone through -/
theorem s_mrange (hR : Rel P F w H) (hT : TR F w n τ a.tmps) {t kt et : TypeId} {x : Operand} {rx : RO} (ho : o.op = .range t x) (hu : P.underlying t = some (.map kt et))
    (h1 : rO x = some rx) (k1 : okO n rx = true) (h : opW P C (.mrange rx) τ H K) : Does P F w H a o K := by
  have e1 := ev_vr hT h1 k1
  simp only [opW] at h
  split at h
  · rename_i m hd
    rw [hd] at e1
    generalize hvx : a.eval x = vx at *
    cases e1
    split at h
    · rename_i es clock hm
      obtain ⟨ents, g1, _⟩ := hR.own m _ hm
      have hg := run_getObj (P := P) g1 (by intros; simp)
      have hp := hR.push (w' := w.alloc (.mapIter (some m) clock #[] clock)) (x := .mapIter (some m) clock #[] clock) rfl (o := .miter m clock [] clock) (heap_alloc_new w _)
      refine ⟨_, .pointer (some ⟨w.heap.size, 0, none⟩), _, _, _, F, ?_, .inl rfl, hp.2, hp.1, .v _, h _ (hR.none_of_ge (Nat.le_refl _))⟩
      simp only [execOp, ho]
      refine exec_val ?_
      simp [Instr.range, run_underlying hu, hvx, hg]
    · exact h.elim
  · exact h.elim

theorem Rel.same {w' : World} (hR : Rel P F w H) (hw : w'.heap = w.heap) (hq : Quiet w w' := by exact ⟨rfl, rfl⟩) : Rel P F w' H ∧ Step F w H F w' H := by
  have hk : KeepF F w w' := fun b i v _ hv => (cell_congr (w := w) (w' := w') (by rw [hw])).trans hv
  refine ⟨⟨fun b o hb => (hR.own b o hb).mono (SubF.refl F) hk (by rw [hw]), fun b i hf => ⟨?_, (hR.fz b i hf).2⟩⟩, ⟨SubF.refl F, hk, by rw [hw]; exact Nat.le_refl _, fun _ _ _ => by rw [hw], fun _ _ h => h, fun _ _ h => .inl h, hq, fun b o _ ho _ => ⟨by rw [hw], .inl ho⟩⟩⟩
  obtain ⟨v, hv⟩ := (hR.fz b i hf).1
  exact ⟨v, hk b i v hf hv⟩

theorem run_mapNext (N : Nat) (hN : 0 < N) (w : World) : ∃ j w', (choose (.mapNext N)).run P w = .ok j w' ∧ j < N ∧ w'.heap = w.heap ∧ Quiet w w' := by
  rw [run_choose_drew]
  by_cases h : N ≤ 1
  · exact ⟨0, w, by simp [Question.forced, h], by omega, rfl, rfl, rfl⟩
  · exact ⟨_, w.drew, by simp [Question.forced, h]; rfl, by simp [Question.cut]; exact Nat.mod_lt _ hN, rfl, rfl, rfl⟩

theorem s_mnext (hR : Rel P F w H) (hT : TR F w n τ a.tmps) {x : Operand} {rx : RO} (ho : o.op = .next x false)
    (h1 : rO x = some rx) (k1 : okO n rx = true) (h : opW P C (.next false rx) τ H K) : Does P F w H a o K := by
  have e1 := ev_vr hT h1 k1
  simp only [opW] at h
  split at h
  · rename_i r hr
    rw [hr] at e1
    generalize hvx : a.eval x = vx at *
    cases e1
    split at h
    · rename_i m since seen stepped hs
      split at h
      · rename_i es clock hm
        obtain ⟨q1, q2, q3, q4⟩ := h
        have ho' : w.heap[r]? = some (.mapIter (some m) since seen.toArray stepped) := hR.own r _ hs
        obtain ⟨ents, g1, g2, g3⟩ := hR.own m _ hm
        have hg := run_getObj (P := P) ho' (by intros; simp)
        have hg' := run_getObj (P := P) g1 (by intros; simp)
        have born : ∀ e ∈ ents, ∃ j, ∃ p : j < ents.length, ∃ q : j < es.length, ents[j] = e ∧ es[j].1 = e.born := by
          intro e he
          obtain ⟨j, p, rfl⟩ := List.mem_iff_getElem.1 he
          exact ⟨j, p, by omega, rfl, (g3 j p (by omega)).1.symm⟩
        let left := ents.filter fun e => !seen.contains e.born
        have hsince : ∀ e ∈ ents, e.born < since := by
          intro e he
          obtain ⟨j, p, q, _, hb⟩ := born e he
          rw [← hb]; exact q2 _ (List.getElem_mem q)
        have hguard : (!seen.toArray.isEmpty && !ents.toArray.isEmpty && ents.toArray.all (fun e => decide (e.born ≥ stepped))) = false := by
          rcases q1 with rfl | rfl | ⟨e, he, hlt⟩
          · simp
          · have : ents = [] := List.eq_nil_of_length_eq_zero (by simpa using g2)
            subst this; simp
          · obtain ⟨j, q, rfl⟩ := List.mem_iff_getElem.1 he
            have p : j < ents.length := by omega
            have hb := (g3 j p q).1
            have : ents.toArray.all (fun e => decide (e.born ≥ stepped)) = false := by
              rw [Bool.eq_false_iff]
              intro hall
              simp only [List.all_toArray, List.all_eq_true, decide_eq_true_eq] at hall
              have := hall _ (List.getElem_mem p)
              omega
            rw [this]; simp
        have hleft : (ents.toArray.filter fun e => !seen.toArray.contains e.born) = left.toArray := by simp [left]
        have hold : left.toArray.filter (fun e => decide (e.born < since)) = left.toArray := by
          have h1 : (left.filter fun e => decide (e.born < since)) = left := List.filter_eq_self.2 fun e he => by simpa using hsince e (List.mem_filter.1 he).1
          rw [← Array.toList_inj]; simpa using h1
        have hnew : left.toArray.filter (fun e => decide (e.born ≥ since)) = #[] := by
          have h1 : (left.filter fun e => decide (e.born ≥ since)) = [] := List.filter_eq_nil_iff.2 fun e he => by
            have := hsince e (List.mem_filter.1 he).1
            simp; omega
          rw [← Array.toList_inj]; simpa using h1
        have hrun : ∀ {s : Sem Value} {v : Value} {w' : World}, Instr.next (a.eval x) false o.type = s → s.run P w = .ok v w' → (execOp a.eval o).run P w = .ok (.value v) w' := by
          rintro s v w' rfl hv
          simp only [execOp, ho]
          exact exec_val hv
        by_cases hl : left = []
        · obtain ⟨j, w', hc, hj, hw, hqw⟩ := run_mapNext (P := P) 1 (by omega) w
          have hj0 : j = 0 := by omega
          subst hj0
          obtain ⟨hR', hS'⟩ := hR.same hw hqw
          refine ⟨_, .tuple #[.bool false], _, w', H, F, ?_, .inl rfl, hS', hR', VR.tup [.bool false] rfl ((VRs.one (.v _)).2), q4 fun e he => ?_⟩
          · refine hrun rfl ?_
            rw [hvx]
            simp only [Instr.next, Sem.run_bind, hg, Result.andThen_ok, hg']
            rw [hguard]
            simp only [Bool.false_eq_true, if_false, Sem.run_pure, Result.andThen_ok]
            rw [hleft, hold, hnew]
            have hw1 : w = w' := by
              rw [run_choose_drew] at hc
              simpa [Question.forced] using hc
            subst hw1
            simp [hl, Question.forced]
          · obtain ⟨j, q, rfl⟩ := List.mem_iff_getElem.1 he
            have p : j < ents.length := by omega
            have := List.filter_eq_nil_iff.1 hl _ (List.getElem_mem p)
            simpa [(g3 j p q).1] using this
        · obtain ⟨j, w', hc, hj, hw, hqw⟩ := run_mapNext (P := P) left.length (List.length_pos_iff.2 hl) w
          obtain ⟨hR', hS'⟩ := hR.same hw hqw
          have hmem := List.getElem_mem hj
          generalize he : left[j] = e at *
          have hin : e ∈ ents := (List.mem_filter.1 hmem).1
          have hns : e.born ∉ seen := by
            have := (List.mem_filter.1 hmem).2
            simpa using this
          obtain ⟨i, p, q, hei, hbi⟩ := born e hin
          have ho2 : w'.heap[r]? = some (.mapIter (some m) since seen.toArray stepped) := by rw [hw]; exact ho'
          have hst := run_setObj (P := P) (y := .mapIter (some m) since (seen.toArray.push e.born) clock) ho2 (by intros; simp)
          have hturn := hR'.turn (y := .mapIter (some m) since (seen.toArray.push e.born) clock) (o' := .miter m since (seen ++ [e.born]) clock) hs (by intros; simp)
            (fun w'' hw'' _ => by
              have := heap_turn ho2 hw''
              simpa [OR] using this)
          have hK := q3 es[i] (List.getElem_mem q) (by rw [hbi]; exact hns)
          rw [hbi] at hK
          have hst2 := hS'.trans hturn.2
          refine ⟨_, .tuple #[.bool true, e.key, e.val], _, _, _, F, ?_, .inl rfl, hst2, hturn.1, ?_, hK⟩
          · refine hrun rfl ?_
            rw [hvx]
            simp only [Instr.next, Sem.run_bind, hg, Result.andThen_ok, hg']
            rw [hguard]
            simp only [Bool.false_eq_true, if_false, Sem.run_pure, Result.andThen_ok]
            rw [hleft, hold, hnew]
            have hle : left.toArray.isEmpty = false := by simpa using hl
            simp only [hle, Bool.false_eq_true, if_false]
            simp only [Array.empty_append, Array.append_empty, List.map_toArray, Sem.run_bind, List.size_toArray, List.length_map, hc, Result.andThen_ok]
            have : (List.map some left).toArray[j]? = some (some e) := by simp [hj, he]
            rw [this]
            simp only [Sem.run_bind, hst, Result.andThen_ok, Sem.run_pure]
          · have g := g3 i p q
            rw [hei] at g
            exact VR.tup [.bool true, e.key, e.val] rfl (((VRs.nil _ _).cons (hst2.vr g.2.2) |>.cons (hst2.vr g.2.1) |>.cons (.v _)).2)
      · exact h.elim
    · exact h.elim
  · exact h.elim

theorem s_mlen (hR : Rel P F w H) (hT : TR F w n τ a.tmps) {ts : Array TypeId} {t kt et : TypeId} {x : Operand} {rx : RO} (ho : o.op = .call { callee := .builtin .len, args := #[x], argTypes := ts })
    (ht : ts[0]? = some t) (hu : P.underlying t = some (.map kt et)) (h1 : rO x = some rx) (k1 : okO n rx = true) (h : opW P C (.mlen rx) τ H K) : Does P F w H a o K := by
  have e1 := ev_vr hT h1 k1
  simp only [opW] at h
  have fin : ∀ {k : Nat}, (Builtin.len_ ts o.type #[a.eval x]).run P w = .ok (goInt k) w → K (.i k) H → Does P F w H a o K := by
    intro k hrun hK
    refine Does.pure hR (exec_builtin ho ?_) (.v _) hK
    simp only [builtin, List.map_toArray, List.map_cons, List.map_nil]
    rw [Sem.run_bind, hrun]
    rfl
  generalize hvx : a.eval x = vx at *
  split at h
  · rename_i hd
    rw [hd] at e1
    cases e1
    refine fin (k := 0) ?_ h
    simp [Builtin.len_, ht, run_underlying hu]
  · rename_i r hd
    rw [hd] at e1
    cases e1
    split at h
    · rename_i es clock hr
      obtain ⟨ents, g1, g2, g3⟩ := hR.own r _ hr
      have hg := run_getObj (P := P) g1 (by intros; simp)
      refine fin (k := es.length) ?_ h
      simp [Builtin.len_, ht, run_underlying hu, hg, g2]
    · exact h.elim
  · exact h.elim

theorem s_entry (hR : Rel P F w H) (hT : TR F w n τ a.tmps) {x : Operand} {rx : RO} (ho : o.op = .entry x)
    (h1 : rO x = some rx) (k1 : okO n rx = true) (h : opW P C (.entry rx) τ H K) : Does P F w H a o K := by
  have e1 := ev_vr hT h1 k1
  simp only [opW] at h
  split at h
  · rename_i r hr
    rw [hr] at e1
    generalize hvx : a.eval x = vx at *
    cases e1
    split at h
    · rename_i m since seen stepped hs
      split at h
      · rename_i es clock k hm hk
        obtain ⟨hcl, h⟩ := h
        have ho' : w.heap[r]? = some (.mapIter (some m) since seen.toArray stepped) := hR.own r _ hs
        obtain ⟨ents, g1, g2, g3⟩ := hR.own m _ hm
        have hg := run_getObj (P := P) ho' (by intros; simp)
        have hg' := run_getObj (P := P) g1 (by intros; simp)
        split at h
        · rename_i e he
          have hfind : ∀ (es : List (Nat × D × D)) (ents : List MapEntry), ents.length = es.length → (∀ i (h : i < ents.length) (h' : i < es.length), ents[i].born = es[i].1 ∧ VR F w (es[i].2.1) (ents[i].key) ∧ VR F w (es[i].2.2) (ents[i].val)) →
              es.find? (·.1 == k) = some e → ∃ m, ents.find? (·.born == k) = some m ∧ VR F w e.2.1 m.key ∧ VR F w e.2.2 m.val := by
            intro es
            induction es with
            | nil => intro ents _ _ hf; simp at hf
            | cons x es ih =>
              intro ents hl hv hf
              cases ents with
              | nil => simp at hl
              | cons y ents =>
                have h0 := hv 0 (by simp) (by simp)
                simp only [List.getElem_cons_zero] at h0
                simp only [List.find?_cons] at hf ⊢
                rw [h0.1]
                cases hb : x.1 == k with
                | true =>
                  rw [hb] at hf
                  simp only [Option.some.injEq] at hf
                  subst hf
                  exact ⟨y, rfl, h0.2⟩
                | false =>
                  rw [hb] at hf
                  exact ih ents (by simpa using hl) (fun i p q => by
                    have := hv (i + 1) (by simpa using p) (by simpa using q)
                    simpa only [List.getElem_cons_succ] using this) hf
          obtain ⟨me, f1, f2, f3⟩ := hfind es ents g2 g3 he
          refine Does.pure hR (v := .tuple #[me.key, me.val]) ?_ (VRs.two f2 f3) h
          simp only [execOp, ho]
          refine exec_val ?_
          have hback : seen.toArray.back? = some k := by simpa using hk
          have hne : (clock != stepped) = false := by simp [hcl]
          simp only [hvx, Instr.entry, Sem.run_bind, hg, Result.andThen_ok, hback, hg', hne, Bool.false_eq_true, if_false, Sem.run_pure]
          simp [f1]
        · exact h.elim
      · exact h.elim
    · exact h.elim
  · exact h.elim
end Go.Fsl
