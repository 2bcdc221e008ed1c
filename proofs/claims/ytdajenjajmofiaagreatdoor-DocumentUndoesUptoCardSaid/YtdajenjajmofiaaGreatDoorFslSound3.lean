/- A part of our logic over the resolved code, or of a proof in it. -/
import Derived.Test.YtdajenjajmofiaaGreatDoorFslSound2
set_option linter.unusedSimpArgs false
set_option linter.unusedVariables false
namespace Go.Fsl
variable {P : Program} {F : Fz} {w : World} {H : Heap} {n : Nat} {τ : Tmps} {a : Act} {K : D → Heap → Prop} {C : CallSem} {o : Oper}

/-- An operation that is carried out at once. -/
def Does (P : Program) (F : Fz) (w : World) (H : Heap) (a : Act) (o : Oper) (K : D → Heap → Prop) : Prop :=
  ∃ nx v d w' H' F', (execOp a.eval o).run P w = .ok nx w' ∧ (nx = .value v ∨ (nx = .skip ∧ v = undef)) ∧
    Step F w H F' w' H' ∧ Rel P F' w' H' ∧ VR F' w' d v ∧ K d H'

theorem Does.pure (hR : Rel P F w H) {v : Value} {d : D} (hrun : (execOp a.eval o).run P w = .ok (.value v) w) (hd : VR F w d v) (hK : K d H) : Does P F w H a o K :=
  ⟨_, v, d, w, H, F, hrun, .inl rfl, Step.refl F w H, hR, hd, hK⟩

theorem s_mov (hR : Rel P F w H) (hT : TR F w n τ a.tmps) {x : Operand} {rx : RO} (ho : o.op = .move x ∨ o.op = .assign x) (hr : rO x = some rx) (hok : okO n rx = true)
    (h : opW P C (.mov rx) τ H K) : Does P F w H a o K := by
  refine Does.pure hR ?_ (ev_vr hT hr hok) h
  rcases ho with ho | ho <;> simp [execOp, ho]

theorem s_pick (hR : Rel P F w H) (hT : TR F w n τ a.tmps) {c x y : Operand} {rc rx ry : RO} (ho : o.op = .pick c x y) (h1 : rO c = some rc) (h2 : rO x = some rx) (h3 : rO y = some ry)
    (k1 : okO n rc = true) (k2 : okO n rx = true) (k3 : okO n ry = true) (h : opW P C (.pick rc rx ry) τ H K) : Does P F w H a o K := by
  have e1 := ev_vr hT h1 k1
  have e2 := ev_vr hT h2 k2
  have e3 := ev_vr hT h3 k3
  simp only [opW] at h
  split at h
  · rename_i t heq
    rw [heq] at e1
    generalize hv : a.eval c = v at *
    cases e1
    refine Does.pure hR (v := if t then a.eval x else a.eval y) ?_ ?_ h
    · simp only [execOp, ho, hv, asBool]
      cases t <;> simp
    · cases t <;> simp [e2, e3]
  · exact h.elim

theorem zeroT_run {t : TypeId} {cs : List D} (h : zeroT P t = some cs) (w : World) (F : Fz) :
    ∃ z, (zeroValue t).run P w = .ok z w ∧ (∀ w', VRs F w' cs z.cells.toList) := by
  simp only [zeroT] at h
  cases hi : P.info? t with
  | none => rw [hi] at h; cases h
  | some i =>
    rw [hi, Option.bind_some] at h
    cases hz : i.zero with
    | none => rw [hz] at h; cases h
    | some z =>
      rw [hz, Option.bind_some] at h
      obtain ⟨h1, h2⟩ := mapM_some h
      exact ⟨z, by simp [zeroValue, typeInfo, hi, hz], fun w' => ⟨h1, fun i a b => leafV_vr (h2 i b a)⟩⟩

/-- A new row of cells. -/
theorem new_cells (hR : Rel P F w H) {cs : List D} {vs : List Value} (hv : VRs F w cs vs) (e : TypeId) (room : Nat) (hroom : room ≤ vs.length) (ty : Option TypeId := none) (hty : ∀ t, ty = some t → e = t := by intro _ h; cases h) :
    Rel P F (w.alloc (.cells vs.toArray e)) (H.ins w.heap.size (.cells cs 0 room ty)) ∧ Step F w H F (w.alloc (.cells vs.toArray e)) (H.ins w.heap.size (.cells cs 0 room ty)) := by
  have hk : KeepF F w (w.alloc (.cells vs.toArray e)) := by
    intro b i x _ hx
    have hlt := World.block_lt_of_cell? w _ hx
    rw [cell_congr (heap_alloc_old w _ hlt)]; exact hx
  refine hR.push rfl ⟨vs.toArray, ⟨e, hty⟩, 0, 0, heap_alloc_new w _, by simp [hv.1], by simpa using hroom, fun i _ _ => by omega, fun i => (vs[i]?).getD undef, fun i hi => ?_⟩
  have hi' : i < vs.length := by rw [hv.1]; exact hi
  refine ⟨by simp [List.getElem?_eq_getElem hi'], ?_⟩
  simpa [List.getElem?_eq_getElem hi'] using (hv.2 i hi hi').mono (SubF.refl F) hk

theorem s_alloc (hR : Rel P F w H) {t : TypeId} {cs : List D} (ho : o.op = .alloc t) (hz : zeroT P t = some cs) (h : opW P C (.alloc cs t) τ H K) : Does P F w H a o K := by
  obtain ⟨z, hz1, hz2⟩ := zeroT_run hz w F
  have hn := new_cells hR (hz2 w) t 0 (Nat.zero_le _) (some t) (fun _ h => Option.some.inj h)
  refine ⟨_, .pointer (some ⟨w.heap.size, 0, none⟩), _, _, _, F, ?_, .inl rfl, hn.2, hn.1, .v _, h _ (hR.none_of_ge (Nat.le_refl _))⟩
  simp only [execOp, ho, Instr.alloc]
  rw [Sem.run_bind, Sem.run_bind, hz1]
  simp [newVar, newRow]

theorem s_box (hR : Rel P F w H) (hT : TR F w n τ a.tmps) {t : TypeId} {x : Operand} {rx : RO} (ho : o.op = .box t x) (hr : rO x = some rx) (hok : okO n rx = true)
    (h : opW P C (.box rx) τ H K) : Does P F w H a o K := by
  have e1 := ev_vr hT hr hok
  simp only [opW] at h
  split at h
  · rename_i cs hc
    have hv : VRs F w cs (a.eval x).cells.toList := by
      generalize rx.ev τ = d at *
      generalize a.eval x = v at *
      cases e1 with
      | agg u hl hr =>
        simp only [D.cells] at hc
        cases hc
        exact ⟨by simp [Value.cells, hl], fun i h h' => by simpa [Value.cells] using hr i h (by rw [hl]; exact h)⟩
      | tup u hl hr => simp [D.cells] at hc
      | v =>
        simp only [D.cells] at hc
        split at hc
        · rename_i ho
          cases hc
          have e : v.cells = #[v] := by cases v <;> first | rfl | (simp [oneV] at ho)
          rw [e]
          exact VRs.one (.v v)
        · cases hc
      | nil sz A c => simp only [D.cells] at hc; cases hc; exact VRs.one (.nil sz A c)
      | fz u a a' b c e => simp only [D.cells] at hc; cases hc; exact VRs.one (.fz u a a' b c e)
      | fpt u a b c => simp only [D.cells] at hc; cases hc; exact VRs.one (.fpt u a b c)
      | fn u a b => simp only [D.cells] at hc; cases hc; exact VRs.one (.fn u a b)
    have hn := new_cells hR hv t 0 (Nat.zero_le _)
    refine ⟨_, .pointer (some ⟨w.heap.size, 0, none⟩), _, _, _, F, ?_, .inl rfl, hn.2, hn.1, .v _, h _ (hR.none_of_ge (Nat.le_refl _))⟩
    simp [execOp, ho, Instr.box, newVar, newRow]
  · exact h.elim

theorem run_fieldPlace {f : Field} {b o : Nat} (hs : (szT P f.type).getD 0 ≠ 0) (w : World) : (fieldPlace ⟨b, o, none⟩ f).run P w = .ok ⟨b, o + f.offset, none⟩ w := by
  cases hz : szT P f.type with
  | none => rw [hz] at hs; exact absurd rfl hs
  | some k =>
    rw [hz] at hs
    simp only [Option.getD_some] at hs
    simp only [fieldPlace]
    rw [Sem.run_bind, run_sizeOf hz w]
    simp [hs, Addr.add_mid]

theorem s_load (hR : Rel P F w H) (hT : TR F w n τ a.tmps) {t : TypeId} {g : Bool} {k : Nat} {x : Operand} {rx : RO} (ho : o.op = .load t x) (hg : aggT P t = some g) (hk : szT P t = some k)
    (hr : rO x = some rx) (hok : okO n rx = true) (h : opW P C (.load g k rx) τ H K) : Does P F w H a o K := by
  have e1 := ev_vr hT hr hok
  have fin : ∀ {b off : Nat} {v : Value} {d : D}, a.eval x = .pointer (some ⟨b, off, none⟩) → (loadVar t ⟨b, off, none⟩).run P w = .ok v w → VR F w d v → K d H → Does P F w H a o K := by
    intro b off v d hx hrun hd hK
    refine Does.pure hR (v := v) ?_ hd hK
    simp [execOp, ho, Instr.loadAt, Instr.sureAddr, hx, hrun]
  simp only [opW] at h
  split at h
  · rename_i b off heq
    rw [heq] at e1
    generalize hv : a.eval x = v at *
    cases e1
    split at h
    · rename_i cs frz room ty hb
      split at h
      · rename_i d hd
        obtain ⟨u, hu⟩ := hR.cellsAt hb
        obtain ⟨v, hrun, hvr⟩ := load_at (o := 0) (b := b) u (fun i hi => by rw [Nat.zero_add]; exact hu i hi) hg hk hd
        rw [Nat.zero_add] at hrun
        exact fin rfl hrun hvr h
      · exact h.elim
    · exact h.elim
  · rename_i cs off heq
    rw [heq] at e1
    generalize hv : a.eval x = v at *
    cases e1 with
    | fpt u hF hc hr' =>
      split at h
      · rename_i d hd
        obtain ⟨v, hrun, hvr⟩ := load_at u (fun i hi => ⟨hc i hi, hr' i hi⟩) hg hk hd
        exact fin rfl hrun hvr h
      · exact h.elim
  · exact h.elim

theorem s_store (hR : Rel P F w H) (hT : TR F w n τ a.tmps) {t : TypeId} {k : Nat} {x y : Operand} {rx ry : RO} (ho : o.op = .store t x y) (hk : szT P t = some k)
    (h1 : rO x = some rx) (h2 : rO y = some ry) (k1 : okO n rx = true) (k2 : okO n ry = true) (h : opW P C (.store k rx ry) τ H K) : Does P F w H a o K := by
  have e1 := ev_vr hT h1 k1
  have e2 := ev_vr hT h2 k2
  simp only [opW] at h
  split at h
  · rename_i b off heq
    rw [heq] at e1
    generalize hv : a.eval x = v at *
    cases e1
    split at h
    · rename_i cs frz room ty hb
      split at h
      · rename_i ds hds
        obtain ⟨hl, hf, hle, hone, hK⟩ := h
        obtain ⟨hvs, hv1⟩ := e2.cells hds hone
        obtain ⟨w', hrun, hR', hS⟩ := store_at hR hb hk hl hf hle hvs hv1
        refine ⟨.skip, undef, _, w', _, F, ?_, .inr ⟨rfl, rfl⟩, hS, hR', VR.undef F w', hK⟩
        simp [execOp, ho, Instr.storeAt, Instr.sureAddr, hv, hrun]
      · exact h.elim
    · exact h.elim
  · exact h.elim

theorem s_faddr (hR : Rel P F w H) (hT : TR F w n τ a.tmps) {s : TypeId} {i : Nat} {fs : Array Field} {f : Field} {x : Operand} {rx : RO} (ho : o.op = .fieldAddr s x i)
    (hu : P.underlying s = some (.struct fs)) (hf : fs[i]? = some f) (hs : (szT P f.type).getD 0 ≠ 0) (hr : rO x = some rx) (hok : okO n rx = true)
    (h : opW P C (.faddr f.offset rx) τ H K) : Does P F w H a o K := by
  have e1 := ev_vr hT hr hok
  have fin : ∀ {b off : Nat} {d : D}, a.eval x = .pointer (some ⟨b, off, none⟩) → VR F w d (.pointer (some ⟨b, off + f.offset, none⟩)) → K d H → Does P F w H a o K := by
    intro b off d hx hd hK
    refine Does.pure hR ?_ hd hK
    simp [execOp, ho, Instr.fieldAt, Instr.sureAddr, hx, run_underlying hu, hf, run_fieldPlace hs]
  simp only [opW] at h
  split at h
  · rename_i b off heq
    rw [heq] at e1
    generalize hv : a.eval x = v at *
    cases e1
    exact fin rfl (.v _) h
  · rename_i cs off heq
    rw [heq] at e1
    generalize hv : a.eval x = v at *
    cases e1 with
    | fpt u hF hc hr' =>
      refine fin rfl ?_ h
      rw [Nat.add_assoc]
      exact .fpt u hF hc hr'
  · exact h.elim

theorem s_nilck (hR : Rel P F w H) (hT : TR F w n τ a.tmps) {x : Operand} {rx : RO} (ho : o.op = .nilCheck x) (hr : rO x = some rx) (hok : okO n rx = true)
    (h : opW P C (.nilck rx) τ H K) : Does P F w H a o K := by
  have e1 := ev_vr hT hr hok
  simp only [opW] at h
  split at h
  · rename_i p heq
    rw [heq] at e1
    generalize hv : a.eval x = v at *
    cases e1
    exact Does.pure hR (by simp [execOp, ho, hv]) (.v _) h
  · rename_i cs off heq
    rw [heq] at e1
    generalize hv : a.eval x = v at *
    cases e1 with
    | fpt u hF hc hr' => exact Does.pure hR (by simp [execOp, ho, hv]) (.fpt u hF hc hr') h
  · rename_i f caps heq
    rw [heq] at e1
    generalize hv : a.eval x = v at *
    cases e1 with
    | fn u hl hr' => exact Does.pure hR (by simp [execOp, ho, hv]) (.fn u hl hr') h
  · exact h.elim

theorem flatten_at {sz : Nat} : ∀ {xs : List (List D)} {i : Nat} {cs : List D}, (∀ x ∈ xs, x.length = sz) → xs[i]? = some cs →
    ∀ j (h : j < cs.length), ∃ h' : i * sz + j < xs.flatten.length, xs.flatten[i * sz + j] = cs[j]
  | x :: xs, 0, cs, hs, h, j, hj => by
    simp only [List.getElem?_cons_zero, Option.some.injEq] at h
    subst h
    refine ⟨by simp; omega, ?_⟩
    simp [hj]
  | x :: xs, i + 1, cs, hs, h, j, hj => by
    simp only [List.getElem?_cons_succ] at h
    obtain ⟨h1, h2⟩ := flatten_at (fun y hy => hs y (List.mem_cons_of_mem _ hy)) h j hj
    have hx : x.length = sz := hs x (List.mem_cons_self ..)
    have e : (i + 1) * sz + j = x.length + (i * sz + j) := by rw [hx, Nat.succ_mul]; omega
    refine ⟨by rw [List.flatten_cons, List.length_append]; omega, ?_⟩
    simp only [List.flatten_cons, e]
    rw [List.getElem_append_right (by omega)]
    simpa using h2

theorem fz_at {sz : Nat} {xs : List (List D)} {x : Value} (h : VR F w (.fz sz xs) x) {i : Nat} {cs : List D} (hi : xs[i]? = some cs) :
    ∃ b o len c, x = .slice (some ⟨b, o, none⟩) len c ∧ len = xs.length ∧ i < len ∧ VR F w (.fpt cs 0) (.pointer (some ⟨b, o + i * sz, none⟩)) := by
  cases h with
  | nil A c => simp at hi
  | fz u hsz hcap hF hc hr =>
    rename_i b o c
    obtain ⟨hlt, hxi⟩ := List.getElem?_eq_some_iff.1 hi
    refine ⟨b, o, _, c, rfl, rfl, hlt, ?_⟩
    have key := flatten_at hsz hi
    refine .fpt (o := o + i * sz) (off := 0) (fun j => u (i * sz + j)) (fun j hj => ?_) (fun j hj => ?_) (fun j hj => ?_)
    · obtain ⟨h1, _⟩ := key j hj
      rw [Nat.add_assoc]; exact hF _ h1
    · obtain ⟨h1, _⟩ := key j hj
      rw [Nat.add_assoc]; exact hc _ h1
    · obtain ⟨h1, h2⟩ := key j hj
      rw [← h2]; exact hr _ h1

theorem s_iaddr (hR : Rel P F w H) (hT : TR F w n τ a.tmps) {t e : TypeId} {sz : Nat} {x i : Operand} {rx ri : RO} (ho : o.op = .indexAddr t x i)
    (hu : P.underlying t = some (.slice e)) (hsz : szT P e = some sz) (h1 : rO x = some rx) (h2 : rO i = some ri) (k1 : okO n rx = true) (k2 : okO n ri = true)
    (h : opW P C (.iaddr sz rx ri) τ H K) : Does P F w H a o K := by
  have e1 := ev_vr hT h1 k1
  have e2 := ev_vr hT h2 k2
  have fin : ∀ {b off len c : Nat} {k : IntKind} {j : Int} {d : D}, a.eval x = .slice (some ⟨b, off, none⟩) len c → a.eval i = .int k j → 0 ≤ j → j < len →
      VR F w d (.pointer (some ⟨b, off + j.toNat * sz, none⟩)) → K d H → Does P F w H a o K := by
    intro b off len c k j d hx hi h0 hlt hd hK
    refine Does.pure hR ?_ hd hK
    have : (0 ≤ j ∧ j < (len : Int)) := ⟨h0, hlt⟩
    simp [execOp, ho, Instr.indexAt, hx, hi, asIntOf, run_underlying hu, this, run_sizeOf hsz, Addr.add_mid]
  simp only [opW] at h
  split at h
  · rename_i j hj
    obtain ⟨k, hi⟩ := e2.intD hj
    split at h
    · rename_i sz' xs heq
      rw [heq] at e1
      split at h
      · rename_i cs hcs
        split at hcs
        · rename_i h0
          obtain ⟨rfl, hK⟩ := h
          obtain ⟨b, o', len, c, hx, hlen, hlt, hd⟩ := fz_at e1 hcs
          exact fin hx hi h0 (by omega) hd hK
        · cases hcs
      · exact h.elim
    · rename_i b off len c heq
      rw [heq] at e1
      generalize hv : a.eval x = v at *
      cases e1
      obtain ⟨h0, hlt, hK⟩ := h
      exact fin rfl hi h0 hlt (.v _) hK
    · exact h.elim
  · exact h.elim

theorem s_aiaddr (hR : Rel P F w H) (hT : TR F w n τ a.tmps) {t e : TypeId} {len sz : Nat} {x i : Operand} {rx ri : RO} (ho : o.op = .indexAddr t x i)
    (hu : P.underlying t = some (.array len e)) (hsz : szT P e = some sz) (h1 : rO x = some rx) (h2 : rO i = some ri) (k1 : okO n rx = true) (k2 : okO n ri = true)
    (h : opW P C (.aiaddr len sz rx ri) τ H K) : Does P F w H a o K := by
  have e1 := ev_vr hT h1 k1
  have e2 := ev_vr hT h2 k2
  have fin : ∀ {b off : Nat} {k : IntKind} {j : Int} {d : D}, a.eval x = .pointer (some ⟨b, off, none⟩) → a.eval i = .int k j → 0 ≤ j → j < len →
      VR F w d (.pointer (some ⟨b, off + j.toNat * sz, none⟩)) → K d H → Does P F w H a o K := by
    intro b off k j d hx hi h0 hlt hd hK
    refine Does.pure hR ?_ hd hK
    have : (0 ≤ j ∧ j < (len : Int)) := ⟨h0, hlt⟩
    simp [execOp, ho, Instr.indexAt, hx, hi, asIntOf, run_underlying hu, this, run_sizeOf hsz, Addr.add_mid, Instr.sureAddr]
  simp only [opW] at h
  split at h
  · rename_i j hj
    obtain ⟨k, hi⟩ := e2.intD hj
    split at h
    · rename_i b off heq
      rw [heq] at e1
      generalize hv : a.eval x = v at *
      cases e1
      obtain ⟨h0, hlt, hK⟩ := h
      exact fin rfl hi h0 hlt (.v _) hK
    · rename_i cs off heq
      rw [heq] at e1
      generalize hv : a.eval x = v at *
      cases e1 with
      | fpt u hF hc hr' =>
        obtain ⟨h0, hlt, hK⟩ := h
        refine fin rfl hi h0 hlt ?_ hK
        rw [Nat.add_assoc]
        exact .fpt u hF hc hr'
    · exact h.elim
  · exact h.elim

end Go.Fsl
