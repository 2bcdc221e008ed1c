/- A part of our logic over the resolved code, or of a proof in it. -/
import Derived.Test.YtdajenjajmofiaaGreatDoorFslSound6
import Derived.Laws.MakeOwn
set_option linter.unusedSimpArgs false
set_option linter.unusedVariables false
namespace Go.Fsl
variable {P : Program} {F : Fz} {w : World} {H : Heap} {n : Nat} {τ : Tmps} {a : Act} {K : D → Heap → Prop} {C : CallSem} {o : Oper}

theorem s_build_array (hR : Rel P F w H) (hT : TR F w n τ a.tmps) {t e : TypeId} {len s : Nat} {parts : Array (Nat × Operand)} {zs : List D} {rps : List (Nat × Nat × RO)} (ho : o.op = .build t parts)
    (hu : P.underlying t = some (.array len e)) (hs : szT P e = some s) (hz : zeroT P t = some zs) (hr : rBuildParts (fun i => some (i * s, s)) parts.toList = some rps) (hok : okParts n rps = true)
    (h : opW P C (.build zs rps) τ H K) : Does P F w H a o K := by
  simp only [opW] at h
  split at h
  · rename_i cs hcs
    obtain ⟨z, hz1, hz2⟩ := zeroT_run hz w F
    obtain ⟨vs', hf, hv⟩ := fill_spec (a := a) (fun i => some (i * s, s)) hT parts.toList rps zs cs z.cells hr hok (hz2 w) hcs
    refine Does.pure hR (v := .agg vs') ?_ ?_ h
    · simp only [execOp, ho]
      refine exec_val ?_
      rw [Instr.build, Sem.run_bind, hz1]
      simp only [Result.andThen_ok]
      rw [Sem.run_bind, run_underlying hu]
      simp only [Result.andThen_ok]
      rw [Sem.run_bind, run_sizeOf hs]
      simp only [Result.andThen_ok]
      have : Instr.fill (fun i => some (i * s, s)) z.cells (parts.map fun (i, x) => (i, a.eval x)).toList = some vs' := by
        simpa using hf
      rw [this]
      rfl
    · have := VR.agg (F := F) (w := w) (cs := cs) vs'.toList hv.1 hv.2
      simpa using this
  · exact h.elim

theorem rep_cells {zs : List D} {zv : Array Value} {sz : Nat} (hv : VRs F w zs zv.toList) (hz : zs.length = sz) (h0 : 0 < sz) (m N : Nat) (hN : m ≤ N) :
    VRs F w (List.replicate m zs).flatten ((((Array.range (N * sz)).map (zv[· % zv.size]!)).toList).take (m * sz)) := by
  have hzv : zv.size = sz := by have := hv.1; rw [hz] at this; simpa using this
  have hall : ∀ x ∈ List.replicate m zs, x.length = sz := fun x hx => by rw [(List.mem_replicate.1 hx).2, hz]
  have hfl := flatten_length hall
  rw [List.length_replicate] at hfl
  have hle : m * sz ≤ N * sz := Nat.mul_le_mul_right _ hN
  refine ⟨by rw [hfl, List.length_take, Array.length_toList, Array.size_map, Array.size_range]; omega, fun i hi hi' => ?_⟩
  rw [hfl] at hi
  have hq : i / sz < m := (Nat.div_lt_iff_lt_mul h0).2 hi
  have hr : i % sz < sz := Nat.mod_lt _ h0
  have hx : (List.replicate m zs)[i / sz]? = some zs := by simp [hq]
  obtain ⟨h1, h2⟩ := flatten_at hall hx (i % sz) (by omega)
  have e : i / sz * sz + i % sz = i := by rw [Nat.mul_comm]; exact Nat.div_add_mod i sz
  have e1 : (List.replicate m zs).flatten[i]'(by rw [hfl]; exact hi) = zs[i % sz] := by
    rw [← h2]; congr 1; exact e.symm
  rw [e1]
  simp only [List.getElem_take, Array.getElem_toList, Array.getElem_map, Array.getElem_range]
  have hb : i % zv.size < zv.size := by rw [hzv]; exact hr
  rw [getElem!_pos zv _ hb]
  have := hv.2 (i % sz) (by omega) (by simp [hzv]; exact hr)
  simpa [hzv] using this

theorem s_bslice (hR : Rel P F w H) (hT : TR F w n τ a.tmps) {t e : TypeId} {len s : Nat} {parts : Array (Nat × Operand)} {zs : List D} {rps : List (Nat × Nat × RO)} (ho : o.op = .buildSlice t len parts)
    (hu : P.underlying t = some (.slice e)) (hs : szT P e = some s) (hz : zeroT P e = some zs) (hlim : ¬ (len * s > 2 ^ 24)) (hs0 : s ≠ 0)
    (hr : rBuildParts (fun i => some (i * s, s)) parts.toList = some rps) (hok : okParts n rps = true)
    (h : opW P C (.bslice s zs len rps) τ H K) : Does P F w H a o K := by
  simp only [opW] at h
  split at h
  · rename_i cs hcs
    obtain ⟨hzl, hK⟩ := h
    obtain ⟨z, hz1, hz2⟩ := zeroT_run hz w F
    have hlen0 : ∀ zc : Array Value, (len = 0 ∨ zc = z.cells) → VRs F w (List.replicate len zs).flatten ((Array.range (len * s)).map (zc[· % zc.size]!)).toList := by
      rintro zc (rfl | rfl)
      · simp; exact VRs.nil F w
      · have := rep_cells (hz2 w) hzl (Nat.pos_of_ne_zero hs0) len len (Nat.le_refl _)
        rwa [List.take_of_length_le (by simp)] at this
    have fin : ∀ zc : Array Value, (len = 0 ∨ zc = z.cells) → ((len * s = 0 ∧ zc = #[]) ∨ (len * s ≠ 0 ∧ zc = z.cells)) → Does P F w H a o K := by
      intro zc hzc hrunz
      obtain ⟨vs', hf, hv⟩ := fill_spec (a := a) (fun i => some (i * s, s)) hT parts.toList rps _ cs _ hr hok (hlen0 zc hzc) hcs
      have hvl : cs.length = len * s := by
        have h1 : ∀ (rp : List (Nat × Nat × RO)) (c c' : List D), buildCells τ c rp = some c' → c'.length = c.length := by
          intro rp
          induction rp with
          | nil => intro c c' h; simp [buildCells] at h; rw [h]
          | cons p rp ih =>
            intro c c' h
            obtain ⟨off, k, x⟩ := p
            simp only [buildCells] at h
            split at h
            · split at h
              · rw [ih _ _ h, length_setMany]
              · cases h
            · cases h
        rw [h1 _ _ _ hcs]
        have : ∀ x ∈ List.replicate len zs, x.length = s := fun x hx => by rw [(List.mem_replicate.1 hx).2, hzl]
        rw [flatten_length this, List.length_replicate]
      have hn := new_cells hR hv e (len * s) (by rw [hv.1, hvl]; exact Nat.le_refl _)
      refine ⟨_, .slice (some ⟨w.heap.size, 0, none⟩) len len, _, _, _, F, ?_, .inl rfl, hn.2, hn.1, .v _, hK _ (hR.none_of_ge (Nat.le_refl _))⟩
      simp only [execOp, ho]
      refine exec_val ?_
      have hf' : Instr.fill (fun i => some (i * s, s)) ((Array.range (len * s)).map (zc[· % zc.size]!)) (parts.map fun (i, x) => (i, a.eval x)).toList = some vs' := by
        simpa using hf
      rw [Instr.buildSlice, Sem.run_bind, run_underlying hu]
      simp only [Result.andThen_ok]
      rw [Sem.run_bind, run_sizeOf hs]
      simp only [Result.andThen_ok, hlim, if_false]
      rcases hrunz with ⟨hl0, rfl⟩ | ⟨hl0, rfl⟩
      · rw [if_pos hl0, Sem.run_bind]
        simp only [Sem.run_pure, Result.andThen_ok, hf']
        simp [newRow]
      · rw [if_neg hl0, Sem.run_bind, hz1]
        simp only [Result.andThen_ok]
        rw [Sem.run_bind]
        simp only [Sem.run_pure, Result.andThen_ok, hf']
        simp [newRow]
    by_cases hl : len * s = 0
    · have : len = 0 := by
        rcases Nat.mul_eq_zero.1 hl with h | h
        · exact h
        · exact absurd h hs0
      exact fin #[] (.inl this) (.inl ⟨hl, rfl⟩)
    · exact fin z.cells (.inr rfl) (.inr ⟨hl, rfl⟩)
  · exact h.elim

theorem mnxF_run {mx : Bool} : ∀ (ds : List D) (vs : List Value) (x r : Value), VRs F w ds vs → mnxF mx x ds = some r →
    (vs.foldlM (if mx then Builtin.max2 else Builtin.min2) x : Sem Value).run P w = .ok r w
  | [], vs, x, r, hv, h => by
    have : vs = [] := List.eq_nil_of_length_eq_zero hv.1
    subst this
    simp only [mnxF] at h
    cases h
    simp
  | d :: ds, [], x, r, hv, h => by have := hv.1; simp at this
  | d :: ds, v :: vs, x, r, hv, h => by
    have h0 := hv.2 0 (by simp) (by simp)
    simp only [List.getElem_cons_zero] at h0
    have htail : VRs F w ds vs := ⟨by have := hv.1; simpa using this, fun i p q => hv.2 (i + 1) (by simpa using p) (by simpa using q)⟩
    cases h0 with
    | v =>
      simp only [mnxF] at h
      cases hc : mnxV mx x v with
      | none => rw [hc] at h; cases h
      | some c =>
        rw [hc, Option.bind_some] at h
        have ih := mnxF_run ds vs c r htail h
        rw [List.foldlM_cons, Sem.run_bind]
        have hstep : ((if mx then Builtin.max2 else Builtin.min2) x v).run P w = .ok c w := by
          cases x <;> cases v <;> first | (simp [mnxV] at hc; done) | skip
          cases mx <;> simp only [mnxV, if_true, Bool.false_eq_true, if_false] at hc ⊢ <;> (cases hc; rfl)
        rw [hstep]
        exact ih
    | _ => simp [mnxF] at h

theorem s_mnx (hR : Rel P F w H) (hT : TR F w n τ a.tmps) {mx : Bool} {ts : Array TypeId} {xs : Array Operand} {rs : List RO}
    (ho : o.op = .call { callee := .builtin (if mx then .max else .min), args := xs, argTypes := ts }) (h1 : rOs xs.toList = some rs) (k1 : okOs n rs = true)
    (h : opW P C (.mnx mx rs) τ H K) : Does P F w H a o K := by
  have e1 := evs_vr hT h1 k1
  simp only [opW] at h
  split at h
  · rename_i x rest hx
    rw [hx] at e1
    split at h
    · rename_i r hr
      refine Does.pure hR (exec_builtin ho ?_) (.v r) h
      have hl : (xs.map a.eval).toList = xs.toList.map a.eval := by simp
      generalize hvs : xs.toList.map a.eval = vs at *
      cases vs with
      | nil => have := e1.1; simp at this
      | cons v vs =>
        have h0 := e1.2 0 (by simp) (by simp)
        simp only [List.getElem_cons_zero] at h0
        have htail : VRs F w rest vs := ⟨by have := e1.1; simpa using this, fun i p q => e1.2 (i + 1) (by simpa using p) (by simpa using q)⟩
        have hv : v = x := by cases h0; rfl
        subst hv
        have hrun := mnxF_run (P := P) rest vs v r htail hr
        cases mx
        · simp only [Bool.false_eq_true, if_false, builtin]
          refine exec_val ?_
          simp only [Builtin.min_, hl]
          exact hrun
        · simp only [if_true, builtin]
          refine exec_val ?_
          simp only [Builtin.max_, hl]
          exact hrun
    · exact h.elim
  · exact h.elim

theorem s_mkslice (hR : Rel P F w H) (hT : TR F w n τ a.tmps) {t e : TypeId} {s bytes : Nat} {zs : List D} {l c : Operand} {rl rc : RO} (ho : o.op = .makeSlice t l c)
    (hu : P.underlying t = some (.slice e)) (hs : szT P e = some s) (hby : bytesT P e = some bytes) (hz : zeroT P e = some zs) (hs0 : s ≠ 0) (h1 : rO l = some rl) (h2 : rO c = some rc) (k1 : okO n rl = true) (k2 : okO n rc = true)
    (h : opW P C (.mkslice s bytes zs rl rc) τ H K) : Does P F w H a o K := by
  have e1 := ev_vr hT h1 k1
  have e2 := ev_vr hT h2 k2
  simp only [opW] at h
  split at h
  · rename_i i j hi hj
    obtain ⟨q0, q1, q2, q3, q4, hK⟩ := h
    obtain ⟨kl, hl⟩ := e1.intD hi
    obtain ⟨kc, hc⟩ := e2.intD hj
    obtain ⟨z, hz1, hz2⟩ := zeroT_run hz w F
    obtain ⟨info, hinfo, hbi⟩ : ∃ info, P.info? e = some info ∧ info.bytes = bytes := by
      simp only [bytesT, Option.map_eq_some_iff] at hby; exact hby
    subst hbi
    obtain ⟨z', hz', hzi⟩ : ∃ z', info.zero = some z' ∧ z'.cells.toList.mapM leafV = some zs := by
      simp only [zeroT, hinfo, Option.bind_some] at hz
      cases hzz : info.zero with
      | none => rw [hzz] at hz; cases hz
      | some z => rw [hzz] at hz; exact ⟨z, rfl, hz⟩
    have hsz : info.size = s := by simp only [szT, hinfo, Option.map_some] at hs; exact Option.some.inj hs
    have hzl : z'.cells.size = s := by have := (mapM_some hzi).1; rw [q4] at this; simpa using this
    have hrun := run_make (P := P) w t e info z' hu hinfo hz' kl kc i j q0 q1 (by rw [Int.mul_comm]; omega) (by omega)
    have hv0 : VRs F w zs z'.cells.toList := ⟨(mapM_some hzi).1, fun i a b => leafV_vr ((mapM_some hzi).2 i b a)⟩
    have hrep := rep_cells hv0 q4 (Nat.pos_of_ne_zero hs0) i.toNat j.toNat (by omega)
    have hmc : madeCells z'.cells (j.toNat * info.size) = (Array.range (j.toNat * s)).map (z'.cells[· % z'.cells.size]!) := by rw [hsz]; rfl
    have hall : ∀ x ∈ List.replicate i.toNat zs, x.length = s := fun x hx => by rw [(List.mem_replicate.1 hx).2, q4]
    have hlen : (List.replicate i.toNat zs).flatten.length = i.toNat * s := by rw [flatten_length hall, List.length_replicate]
    have hle : i.toNat * s ≤ j.toNat * s := Nat.mul_le_mul_right _ (by omega)
    have hk : KeepF F w (w.alloc (.cells (madeCells z'.cells (j.toNat * info.size)) e)) := by
      intro b i x _ hx
      have hlt := World.block_lt_of_cell? w _ hx
      rw [cell_congr (heap_alloc_old w _ hlt)]; exact hx
    have hp := hR.push (w' := w.alloc (.cells (madeCells z'.cells (j.toNat * info.size)) e)) rfl (o := .cells (List.replicate i.toNat zs).flatten 0 (j.toNat * s) none)
      ⟨_, TyIn.any e, 0, 0, heap_alloc_new w _, by rw [hmc, hlen]; simp; exact hle, by rw [hmc]; simp, fun _ _ _ => by omega,
        fun q => ((((Array.range (j.toNat * s)).map (z'.cells[· % z'.cells.size]!)).toList.take (i.toNat * s))[q]?).getD undef, fun q hq => by
          have hq' : q < i.toNat * s := by rw [hlen] at hq; exact hq
          have hq2 : q < ((((Array.range (j.toNat * s)).map (z'.cells[· % z'.cells.size]!)).toList.take (i.toNat * s))).length := by rw [hrep.1]; exact hq
          simp only [List.getElem?_eq_getElem hq2, Option.getD_some]
          refine ⟨?_, (hrep.2 q hq hq2).mono (SubF.refl F) hk⟩
          rw [hmc, List.getElem_take, Array.getElem_toList, Array.getElem?_eq_getElem]⟩
    refine ⟨_, _, _, _, _, F, ?_, .inl rfl, hp.2, hp.1, .v _, hK _ (hR.none_of_ge (Nat.le_refl _))⟩
    simp only [execOp, ho]
    exact exec_val (by rw [hl, hc]; exact hrun)
  · exact h.elim

end Go.Fsl
