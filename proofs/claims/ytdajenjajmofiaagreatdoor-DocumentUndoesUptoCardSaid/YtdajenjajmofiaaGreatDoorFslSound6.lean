/- A part of our logic over the resolved code, or of a proof in it. -/
import Derived.Test.YtdajenjajmofiaaGreatDoorFslSound5
import Derived.Laws.BytesArg
import Derived.Laws.IdiomStrings
set_option linter.unusedSimpArgs false
set_option linter.unusedVariables false
namespace Go.Fsl
variable {P : Program} {F : Fz} {w : World} {H : Heap} {n : Nat} {τ : Tmps} {a : Act} {K : D → Heap → Prop} {C : CallSem} {o : Oper}

/-! ### strings and bytes -/
theorem byteOf_val {d : D} {v : Value} {b : UInt8} (h : byteOf d = some b) (hv : VR F w d v) : ∃ k : Int, v = .int .u8 k ∧ b = UInt8.ofNat k.toNat := by
  cases hv with
  | v => cases v with
    | int k i => cases k <;> first | (simp [byteOf] at h; done) | (simp only [byteOf] at h; cases h; exact ⟨_, rfl, rfl⟩)
    | _ => simp [byteOf] at h
  | _ => simp [byteOf] at h

theorem bytes_ints : ∀ {cs : List D} {vs : List Value} {l : List UInt8}, bytesOf cs = some l → VRs F w cs vs → ∃ ks : List Int, vs = ks.map (Value.int .u8) ∧ l = ks.map fun k => UInt8.ofNat k.toNat
  | [], vs, l, h, hv => by
    have : vs = [] := List.eq_nil_of_length_eq_zero hv.1
    subst this
    simp [bytesOf] at h
    subst h
    exact ⟨[], rfl, rfl⟩
  | c :: cs, [], l, h, hv => by have := hv.1; simp at this
  | c :: cs, v :: vs, l, h, hv => by
    simp only [bytesOf, List.mapM_cons] at h
    cases hb : byteOf c with
    | none => rw [hb] at h; cases h
    | some b =>
      rw [hb] at h
      cases hr : cs.mapM byteOf with
      | none => rw [hr] at h; cases h
      | some bs =>
        rw [hr] at h
        cases h
        obtain ⟨k, h1, h2⟩ := byteOf_val hb (hv.2 0 (by simp) (by simp))
        have htail : VRs F w cs vs := ⟨by have := hv.1; simpa using this, fun i a b => hv.2 (i + 1) (by simpa using a) (by simpa using b)⟩
        obtain ⟨ks, h3, h4⟩ := bytes_ints (cs := cs) hr htail
        simp only [List.getElem_cons_zero] at h1
        exact ⟨k :: ks, by rw [h1, h3]; rfl, by rw [h2, h4]; rfl⟩

theorem s_cvbs (hR : Rel P F w H) (hT : TR F w n τ a.tmps) {s t e : TypeId} {x : Operand} {rx : RO} (ho : o.op = .convert s t x)
    (hs : P.underlying s = some (.slice e)) (he : P.underlying e = some (.int .u8)) (ht : P.underlying t = some .string) (h1 : rO x = some rx) (k1 : okO n rx = true)
    (h : opW P C (.cvbs rx) τ H K) : Does P F w H a o K := by
  have e1 := ev_vr hT h1 k1
  simp only [opW] at h
  obtain ⟨hns, h⟩ := h
  split at h
  · rename_i k cs hsrc
    split at h
    · rename_i l hl
      obtain ⟨hlen, hone, hK⟩ := h
      obtain ⟨news, hS, hv⟩ := src_sound (tx := s) hR e1 hsrc (by omega) hone (.inl ⟨e, hs⟩)
      obtain ⟨ks, hks, hlk⟩ := bytes_ints hl hv
      generalize hvx : a.eval x = vx at *
      have hcells := hS.cells
      have hnl : news.length = k := by rw [hv.1]; omega
      obtain ⟨A, len, c, rfl⟩ : ∃ A len c, vx = .slice A len c := by
        generalize rx.ev τ = d at *
        cases e1 with
        | nil _ A c => exact ⟨_, _, _, rfl⟩
        | fz u _ _ _ _ _ => exact ⟨_, _, _, rfl⟩
        | v =>
          cases vx with
          | slice A l c => exact ⟨_, _, _, rfl⟩
          | string s' => exact absurd rfl (hns s')
          | _ => simp [srcCells] at hsrc
        | _ => simp [srcCells] at hsrc
      have hlen' : len = k := by
        have := hS.len w
        simp [Builtin.lenOf] at this
        exact this
      subst hlen'
      refine Does.pure hR ?_ (.v _) hK
      simp only [execOp, ho]
      refine exec_val ?_
      rw [hvx, run_convert_bytes_string w s t e A len c hs he ht]
      cases A with
      | none =>
        simp only [Builtin.firstCells] at hcells
        have hn0 : news = [] := by
          have := hcells
          simp at this
          exact this
        have : ks = [] := by rw [hn0] at hks; simpa using hks.symm
        subst this
        rw [hlk]
        simp [Conv.bytesToString]
        rfl
      | some A =>
        simp only [Builtin.firstCells, Nat.mul_one] at hcells
        rw [hks] at hcells
        rw [run_bytesToString w _ len c ks hcells, foldl_push_bytes, hlk]
        simp [ByteArray.empty, ByteArray.emptyWithCapacity]
        rfl
    · exact h.elim
  · exact h.elim

theorem s_cvsb (hR : Rel P F w H) (hT : TR F w n τ a.tmps) {s t e : TypeId} {x : Operand} {rx : RO} (ho : o.op = .convert s t x)
    (hs : P.underlying s = some .string) (he : P.underlying e = some (.int .u8)) (ht : P.underlying t = some (.slice e)) (h1 : rO x = some rx) (k1 : okO n rx = true)
    (h : opW P C (.cvsb rx) τ H K) : Does P F w H a o K := by
  have e1 := ev_vr hT h1 k1
  simp only [opW] at h
  split at h
  · rename_i z hz
    rw [hz] at e1
    generalize hvx : a.eval x = vx at *
    cases e1
    have hrun := run_bytes_of_string (P := P) w s t e z hs ht he
    have hge := grownCap_ge w z.size 0 e
    generalize hC : grownCap w z.size 0 e = c at *
    have hzs : z.data.size = z.size := rfl
    have hsize : (bytesRow z c).size = c := by
      simp only [bytesRow, Array.size_append, Array.size_map, Array.size_replicate, hzs]
      omega
    have hp := hR.push (w' := w.drew.alloc (.cells (bytesRow z c) e ((bytesRow z c).size, (bytesRow z c).size + 1))) rfl (o := .cells (z.data.toList.map byteD) 0 c none)
      ⟨bytesRow z c, TyIn.any e, _, _, heap_alloc_new w.drew _, by rw [hsize, List.length_map, Array.length_toList, hzs]; exact hge, by omega, fun i _ hi => by omega,
        fun i => ((z.data.toList.map fun b => Value.int .u8 b.toNat)[i]?).getD undef, fun i hi => by
          have hi' : i < z.data.size := by simpa using hi
          refine ⟨?_, ?_⟩
          · simp only [bytesRow]
            rw [Array.getElem?_append_left (by simpa using hi')]
            simp [Array.getElem?_eq_getElem hi']
          · simp only [List.getElem_map, List.getElem?_map, Array.getElem?_toList, hi', Array.getElem?_eq_getElem, Option.map_some, Option.getD_some, Array.getElem_toList]
            exact .v _⟩
    refine ⟨_, _, _, _, _, F, ?_, .inl rfl, hp.2, hp.1, .v _, h _ c (hR.none_of_ge (Nat.le_refl _)) hge⟩
    simp only [execOp, ho]
    exact exec_val (by rw [hvx]; exact hrun)
  · exact h.elim

/-! ### structs, literals -/
theorem length_fillCells : ∀ (us : List Value) (cs : Array Value) (off j0 : Nat), ((us.zipIdx j0).foldl (fun cs (c, j) => cs.setIfInBounds (off + j) c) cs) = arrMany cs (off + j0) us
  | [], _, _, _ => rfl
  | u :: us, cs, off, j0 => by
    rw [List.zipIdx_cons, List.foldl_cons, arrMany, length_fillCells us]
    rfl

theorem fill_spec (place : Nat → Option (Nat × Nat)) {F : Fz} {w : World} (hT : TR F w n τ a.tmps) : ∀ (parts : List (Nat × Operand)) (rps : List (Nat × Nat × RO)) (cs cs' : List D) (vs : Array Value),
    rBuildParts place parts = some rps → okParts n rps = true → VRs F w cs vs.toList → buildCells τ cs rps = some cs' →
    ∃ vs', Instr.fill place vs (parts.map fun p => (p.1, a.eval p.2)) = some vs' ∧ VRs F w cs' vs'.toList
  | [], rps, cs, cs', vs, hr, _, hv, hb => by
    simp [rBuildParts] at hr
    subst hr
    simp only [buildCells] at hb
    cases hb
    exact ⟨vs, rfl, hv⟩
  | (i, x) :: parts, rps, cs, cs', vs, hr, hok, hv, hb => by
    simp only [rBuildParts, List.mapM_cons] at hr
    cases hp : place i with
    | none => rw [hp] at hr; cases hr
    | some pl =>
      obtain ⟨off, s⟩ := pl
      rw [hp] at hr
      cases hx : rO x with
      | none => simp [hx] at hr
      | some rx =>
        cases hrest : rBuildParts place parts with
        | none =>
          simp only [rBuildParts] at hrest
          simp [hx, hrest] at hr
        | some rest =>
          have hrest' := hrest
          simp only [rBuildParts] at hrest
          simp [hx, hrest] at hr
          subst hr
          simp only [okParts, List.all_cons, Bool.and_eq_true] at hok
          simp only [buildCells] at hb
          cases hc : (rx.ev τ).cells with
          | none => rw [hc] at hb; cases hb
          | some ds =>
            rw [hc] at hb
            simp only at hb
            split at hb
            · rename_i hcond
              obtain ⟨h1, h2, h3⟩ := hcond
              have e1 := ev_vr hT hx hok.1
              obtain ⟨hvs, _⟩ := e1.cells hc h3
              have hvl : (a.eval x).cells.size = s := by have := hvs.1; simp at this; omega
              have hlen : vs.size = cs.length := by have := hv.1; simpa using this
              simp only [List.map_cons, Instr.fill, hp]
              rw [if_neg (by simp [hvl]; omega)]
              have hfold : ((a.eval x).cells.zipIdx.foldl (fun cs (c, j) => cs.setIfInBounds (off + j) c) vs) = arrMany vs off (a.eval x).cells.toList := by
                have := length_fillCells (a.eval x).cells.toList vs off 0
                rw [Nat.add_zero] at this
                rw [← this, ← Array.foldl_toList, Array.toList_zipIdx]
              rw [hfold]
              refine fill_spec place hT parts rest (setMany cs off ds) cs' (arrMany vs off (a.eval x).cells.toList) hrest' hok.2 ?_ hb
              have hl1 := length_setMany ds cs off
              have hl2 := size_arrMany (a.eval x).cells.toList vs off
              refine ⟨by rw [Array.length_toList, hl2, hl1, hlen], fun j hj hj' => ?_⟩
              have q1 := getElem?_setMany ds cs off j (by omega)
              have q2 := getElem?_arrMany (a.eval x).cells.toList vs off j (by simp [hvl]; omega)
              rw [List.getElem?_eq_getElem hj] at q1
              rw [← Array.getElem?_toList, List.getElem?_eq_getElem hj'] at q2
              have hlv : (a.eval x).cells.toList.length = ds.length := hvs.1
              by_cases hin : off ≤ j ∧ j < off + ds.length
              · rw [if_pos hin] at q1
                rw [if_pos (by omega)] at q2
                have i1 : j - off < ds.length := by omega
                have i2 : j - off < (a.eval x).cells.toList.length := by omega
                rw [List.getElem?_eq_getElem i1] at q1
                rw [List.getElem?_eq_getElem i2] at q2
                rw [Option.some.inj q1, Option.some.inj q2]
                exact hvs.2 _ i1 i2
              · rw [if_neg hin] at q1
                rw [if_neg (by omega)] at q2
                rw [hl1] at hj
                have i2 : j < vs.toList.length := by simp; omega
                rw [List.getElem?_eq_getElem hj] at q1
                rw [← Array.getElem?_toList, List.getElem?_eq_getElem i2] at q2
                rw [Option.some.inj q1, Option.some.inj q2]
                exact hv.2 _ hj i2
            · cases hb

theorem mapM_run_places {fs : List Field} {ps : List (Nat × Nat)} (h : fs.mapM (fun f => (szT P f.type).map fun s => (f.offset, s)) = some ps) (w : World) :
    (fs.mapM (fun f => do pure (f.offset, ← sizeOf f.type)) : Sem (List (Nat × Nat))).run P w = .ok ps w := by
  induction fs generalizing ps with
  | nil => simp at h; subst h; simp
  | cons f fs ih =>
    rw [List.mapM_cons] at h
    cases hs : szT P f.type with
    | none => simp [hs] at h
    | some s =>
      cases hr : fs.mapM (fun f => (szT P f.type).map fun s => (f.offset, s)) with
      | none => simp [hs, hr] at h
      | some rest =>
        simp [hs, hr] at h
        subst h
        rw [List.mapM_cons, Sem.run_bind, Sem.run_bind, run_sizeOf hs]
        simp only [Result.andThen_ok, Sem.run_pure]
        rw [Sem.run_bind, ih hr]
        rfl

theorem s_build_struct (hR : Rel P F w H) (hT : TR F w n τ a.tmps) {t : TypeId} {fs : Array Field} {parts : Array (Nat × Operand)} {ps : List (Nat × Nat)} {zs : List D} {rps : List (Nat × Nat × RO)} (ho : o.op = .build t parts)
    (hu : P.underlying t = some (.struct fs)) (hps : rPlaces P fs = some ps) (hz : zeroT P t = some zs) (hr : rBuildParts (ps[·]?) parts.toList = some rps) (hok : okParts n rps = true)
    (h : opW P C (.build zs rps) τ H K) : Does P F w H a o K := by
  simp only [opW] at h
  split at h
  · rename_i cs hcs
    obtain ⟨z, hz1, hz2⟩ := zeroT_run hz w F
    obtain ⟨vs', hf, hv⟩ := fill_spec (a := a) (ps[·]?) hT parts.toList rps zs cs z.cells hr hok (hz2 w) hcs
    refine Does.pure hR (v := .agg vs') ?_ ?_ h
    · simp only [execOp, ho]
      refine exec_val ?_
      rw [Instr.build, Sem.run_bind, hz1]
      simp only [Result.andThen_ok]
      rw [Sem.run_bind, run_underlying hu]
      simp only [Result.andThen_ok]
      have hm := mapM_run_places (P := P) (fs := fs.toList) hps w
      have hpl : (fs.mapM (fun f => do pure (f.offset, ← sizeOf f.type)) : Sem (Array (Nat × Nat))).run P w = .ok ps.toArray w := by
        rw [Array.mapM_eq_mapM_toList, Sem.run_map]
        rw [hm]
        rfl
      rw [Sem.run_bind, hpl]
      simp only [Result.andThen_ok]
      have : Instr.fill (fun i => ps.toArray[i]?) z.cells (parts.map fun (i, x) => (i, a.eval x)).toList = some vs' := by
        simpa using hf
      rw [this]
      rfl
    · have := VR.agg (F := F) (w := w) (cs := cs) vs'.toList hv.1 hv.2
      simpa using this
  · exact h.elim

end Go.Fsl
