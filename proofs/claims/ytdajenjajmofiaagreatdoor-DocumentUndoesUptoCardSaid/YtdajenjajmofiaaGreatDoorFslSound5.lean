/- A part of our logic over the resolved code, or of a proof in it. -/
import Derived.Test.YtdajenjajmofiaaGreatDoorFslSound4
set_option linter.unusedSimpArgs false
set_option linter.unusedVariables false
namespace Go.Fsl
variable {P : Program} {F : Fz} {w : World} {H : Heap} {n : Nat} {τ : Tmps} {a : Act} {K : D → Heap → Prop} {C : CallSem} {o : Oper}

theorem exec_val {s : Sem Value} {v : Value} {w' : World} (h : s.run P w = .ok v w') : (do pure (Next.value (← s)) : Sem Next).run P w = .ok (.value v) w' := by
  rw [Sem.run_bind, h]; rfl

theorem s_append (hR : Rel P F w H) (hT : TR F w n τ a.tmps) {ts : Array TypeId} {t tx e : TypeId} {sz bytes : Nat} {zero : List D} {x y : Operand} {rx ry : RO}
    (ho : o.op = .call { callee := .builtin .append, args := #[x, y], argTypes := ts }) (ht0 : ts = #[t, tx]) (ht : P.underlying t = some (.slice e))
    (hk : (∃ e', P.underlying tx = some (.slice e')) ∨ P.underlying tx = some .string) (hsz : szT P e = some sz) (hby : bytesT P e = some bytes) (hz : zeroT P e = some zero)
    (hzl : zero.length = sz) (hs0 : 0 < sz) (hb0 : 0 < bytes) (hb1 : bytes ≤ 65536) (h1 : rO x = some rx) (h2 : rO y = some ry) (k1 : okO n rx = true) (k2 : okO n ry = true)
    (h : opW P C (.append sz bytes zero e rx ry) τ H K) : Does P F w H a o K := by
  subst ht0
  have e1 := ev_vr hT h1 k1
  have e2 := ev_vr hT h2 k2
  simp only [opW] at h
  split at h
  · rename_i k ys hsrc
    obtain ⟨hl, hone, h⟩ := h
    obtain ⟨g1, g2, g3⟩ := append_sound (ty := o.type) hR ht hsz hby hz hzl hs0 hb0 hb1 hk e2 hsrc hl hone
    have fin : ∀ {v : Value} {w' : World}, (Builtin.append_ #[t, tx] o.type #[a.eval x, a.eval y]).run P w = .ok v w' → (execOp a.eval o).run P w = .ok (.value v) w' := by
      intro v w' hrun
      refine exec_builtin ho ?_
      simp only [builtin, List.map_toArray, List.map_cons, List.map_nil]
      rw [Sem.run_bind, hrun]; rfl
    generalize hvx : a.eval x = vx at *
    split at h
    · rename_i hd
      rw [hd] at e1
      cases e1
      by_cases hk0 : k = 0
      · exact ⟨_, _, _, w, H, F, fin (g2 hk0), .inl rfl, Step.refl F w H, hR, .v _, h.1 hk0⟩
      · obtain ⟨hkb, hK⟩ := h.2 (by omega)
        obtain ⟨b, c, w', hrun, hb, hc, hR', hS⟩ := g1 (by omega) hkb
        exact ⟨_, _, _, w', _, F, fin hrun, .inl rfl, hS, hR', .v _, hK b c hb hc⟩
    · rename_i b off m c hd
      rw [hd] at e1
      cases e1
      split at h
      · rename_i cs frz room ty hb
        obtain ⟨q1, q2, q3, h0, hA, hB⟩ := h
        obtain ⟨f0, fA, fB⟩ := g3 b off m c cs frz room ty hb q1 q2 q3
        by_cases hroom : m + k ≤ c
        · by_cases hk0 : k = 0
          · exact ⟨_, _, _, w, H, F, fin (f0 hroom hk0), .inl rfl, Step.refl F w H, hR, .v _, h0 hroom hk0⟩
          · obtain ⟨q4, hA⟩ := hA hroom (by omega)
            obtain ⟨w', hrun, hR', hS⟩ := fA hroom (by omega) q4
            exact ⟨_, _, _, w', _, F, fin hrun, .inl rfl, hS, hR', .v _, hA⟩
        · obtain ⟨b', c', w', hrun, hb', hc', hR', hS⟩ := fB (by omega)
          exact ⟨_, _, _, w', _, F, fin hrun, .inl rfl, hS, hR', .v _, hB (by omega) b' c' hb' hc'⟩
      · exact h.elim
    · exact h.elim
  · exact h.elim

theorem s_mkmap (hR : Rel P F w H) {t : TypeId} (ho : o.op = .makeMap t none) (h : opW P C .mkmap τ H K) : Does P F w H a o K := by
  have hp := hR.push (w' := w.alloc (.map #[] 0)) (x := .map #[] 0) rfl (o := .map [] 0) ⟨[], heap_alloc_new w _, rfl, fun i h => absurd h (by simp)⟩
  refine ⟨_, .map (some w.heap.size), _, _, _, F, ?_, .inl rfl, hp.2, hp.1, .v _, h _ (hR.none_of_ge (Nat.le_refl _))⟩
  simp only [execOp, ho]
  refine exec_val ?_
  simp [Instr.makeMap]

theorem s_mkfn (hR : Rel P F w H) (hT : TR F w n τ a.tmps) {f : FuncId} {first caps : Array Operand} {rs : List RO} (ho : o.op = .makeFunc (.func f) first caps) (hf : first.isEmpty = true)
    (h1 : rOs caps.toList = some rs) (k1 : okOs n rs = true) (h : opW P C (.mkfn f rs) τ H K) : Does P F w H a o K := by
  have e1 := evs_vr hT h1 k1
  simp only [Array.isEmpty_iff] at hf
  subst hf
  refine Does.pure hR (v := .func (.func f) #[] (caps.map a.eval)) ?_ ?_ h
  · simp only [execOp, ho]
    exact exec_val (by simp [Instr.makeFunc])
  · have := VR.fn (F := F) (w := w) (f := f) (cs := rs.map (·.ev τ)) (caps.toList.map a.eval) e1.1 (fun i h h' => e1.2 i h h')
    have e : (caps.toList.map a.eval).toArray = caps.map a.eval := by simp [← Array.toList_map]
    rw [e] at this
    exact this

theorem s_iface (hR : Rel P F w H) (hT : TR F w n τ a.tmps) {t : TypeId} {x : Operand} {rx : RO} (ho : o.op = .makeInterface t x) {d : TypeDesc} (hu : P.underlying t = some d)
    (hd : ∀ ms, d ≠ .interface ms) (h1 : rO x = some rx) (k1 : okO n rx = true) (h : opW P C (.iface t rx) τ H K) : Does P F w H a o K := by
  have e1 := ev_vr hT h1 k1
  simp only [opW] at h
  split at h
  · rename_i v hv
    rw [hv] at e1
    generalize hvx : a.eval x = vx at *
    cases e1
    refine Does.pure hR ?_ (.v _) h
    simp only [execOp, ho]
    refine exec_val ?_
    rw [Instr.makeInterface, Sem.run_bind, run_underlying hu]
    cases d <;> first | (exact absurd rfl (hd _)) | (simp [hvx])
  · exact h.elim

theorem s_srange (hR : Rel P F w H) (hT : TR F w n τ a.tmps) {t : TypeId} {x : Operand} {rx : RO} (ho : o.op = .range t x) (hu : P.underlying t = some .string)
    (h1 : rO x = some rx) (k1 : okO n rx = true) (h : opW P C (.srange rx) τ H K) : Does P F w H a o K := by
  have e1 := ev_vr hT h1 k1
  simp only [opW] at h
  split at h
  · rename_i s hs
    rw [hs] at e1
    generalize hvx : a.eval x = vx at *
    cases e1
    have hp := hR.push (w' := w.alloc (.stringIter s 0)) (x := .stringIter s 0) rfl (o := .siter s 0) (heap_alloc_new w _)
    refine ⟨_, .pointer (some ⟨w.heap.size, 0, none⟩), _, _, _, F, ?_, .inl rfl, hp.2, hp.1, .v _, h _ (hR.none_of_ge (Nat.le_refl _))⟩
    simp only [execOp, ho]
    exact exec_val (by simp [Instr.range, run_underlying hu, hvx])
  · exact h.elim

theorem run_getObj {r : Nat} {x : Obj} (h : w.heap[r]? = some x) (hn : ∀ c e f, x ≠ .cells c e f) : (getObj r).run P w = .ok x w := by
  cases x <;> first | (exact absurd rfl (hn _ _ _)) | (simp only [getObj, Sem.run, h])
theorem run_setObj {r : Nat} {x y : Obj} (h : w.heap[r]? = some x) (hn : ∀ c e f, x ≠ .cells c e f) : (setObj r y).run P w = .ok () { w with heap := w.heap.setIfInBounds r y } := by
  cases x <;> first | (exact absurd rfl (hn _ _ _)) | (simp only [setObj, Sem.run, h])

/-- An object that is no row of cells is turned. -/
theorem Rel.turn (hR : Rel P F w H) {b : Nat} {o o' : O} {y : Obj} (hb : H b = some o) (hno : ∀ cs frz room ty, o ≠ .cells cs frz room ty)
    (ho : ∀ w', w'.heap = w.heap.setIfInBounds b y → KeepF F w w' → OR P F w' b o') :
    Rel P F { w with heap := w.heap.setIfInBounds b y } (H.ins b o') ∧ Step F w H F { w with heap := w.heap.setIfInBounds b y } (H.ins b o') := by
  have hnF : ∀ i, ¬ F b i := fun i hf => by
    obtain ⟨cs, frz, room, ty, e, _⟩ := (hR.fz b i hf).2 o hb
    exact hno _ _ _ _ e
  have hoth : ∀ c, c ≠ b → (w.heap.setIfInBounds b y)[c]? = w.heap[c]? := fun c hc => Array.getElem?_setIfInBounds_ne (Ne.symm hc)
  have hk : KeepF F w { w with heap := w.heap.setIfInBounds b y } := by
    intro c i v hf hv
    have hc : c ≠ b := by rintro rfl; exact hnF i hf
    rw [cell_congr (hoth c hc)]; exact hv
  exact hR.upd hb (by simp) hoth (fun i v hf _ => absurd hf (hnF i)) (ho _ rfl hk) (fun i hf => absurd hf (hnF i)) (by rintro ⟨_, _, _, _, e1, _⟩; exact hno _ _ _ _ e1)

theorem heap_turn {b : Nat} {x y : Obj} {w' : World} (h : w.heap[b]? = some x) (hw : w'.heap = w.heap.setIfInBounds b y) : w'.heap[b]? = some y := by
  have hlt := (Array.getElem?_eq_some_iff.1 h).1
  rw [hw, Array.getElem?_setIfInBounds_self_of_lt hlt]

theorem s_snext (hR : Rel P F w H) (hT : TR F w n τ a.tmps) {x : Operand} {rx : RO} (ho : o.op = .next x true)
    (h1 : rO x = some rx) (k1 : okO n rx = true) (h : opW P C (.next true rx) τ H K) : Does P F w H a o K := by
  have e1 := ev_vr hT h1 k1
  simp only [opW] at h
  split at h
  · rename_i r hr
    rw [hr] at e1
    generalize hvx : a.eval x = vx at *
    cases e1
    split at h
    · rename_i s pos hs
      have ho' : w.heap[r]? = some (.stringIter s pos) := hR.own r _ hs
      have hg := run_getObj (P := P) ho' (by intros; simp)
      split at h
      · rename_i hlt
        have hst := run_setObj (P := P) (y := .stringIter s (pos + (Utf8.decode s pos).2)) ho' (by intros; simp)
        have ht := hR.turn (y := .stringIter s (pos + (Utf8.decode s pos).2)) (o' := .siter s (pos + (Utf8.decode s pos).2)) hs (by intros; simp) (fun w' hw _ => heap_turn ho' hw)
        refine ⟨_, .tuple #[.bool true, goInt pos, .int .i32 (Utf8.decode s pos).1], _, _, _, F, ?_, .inl rfl, ht.2, ht.1, ?_, h⟩
        · simp only [execOp, ho]
          refine exec_val ?_
          simp only [hvx, Instr.next]
          rw [Sem.run_bind, hg]
          simp only [Result.andThen_ok, hlt, if_true]
          rw [Sem.run_bind, hst]
          rfl
        · exact VR.tup [.bool true, goInt pos, .int .i32 (Utf8.decode s pos).1] rfl (((VRs.nil _ _).cons (.v _) |>.cons (.v _) |>.cons (.v _)).2)
      · rename_i hlt
        refine Does.pure hR (v := .tuple #[.bool false]) ?_ ?_ h
        · simp only [execOp, ho]
          refine exec_val ?_
          simp only [hvx, Instr.next]
          rw [Sem.run_bind, hg]
          simp only [Result.andThen_ok, hlt, if_false]
          rfl
        · exact VR.tup [.bool false] rfl ((VRs.one (.v _)).2)
    · exact h.elim
  · exact h.elim

/-! ### slices of slices, strings -/
theorem run_sliceBound {k : IntKind} {i : Int} {y : Nat} {code : BoundsCode} (h0 : 0 ≤ i) (h1 : i ≤ y) : (Instr.sliceBound (.int k i) y code).run P w = .ok i.toNat w := by
  simp [Instr.sliceBound, asIntOf, h0, h1]

theorem run_sliceBounds {isS : Bool} {len cap : Nat} {lo hi mx : Option Value} {l h m : Int}
    (hm : (mx = none ∧ m = cap) ∨ (∃ k, mx = some (.int k m))) (hh : (hi = none ∧ mx = none ∧ h = len) ∨ (∃ k, hi = some (.int k h))) (hl : (lo = none ∧ l = 0) ∨ (∃ k, lo = some (.int k l)))
    (a0 : 0 ≤ l) (a1 : l ≤ h) (a2 : h ≤ m) (a3 : m ≤ cap) : (Instr.sliceBounds isS len cap lo hi mx).run P w = .ok (l.toNat, h.toNat, m.toNat) w := by
  rcases hm with ⟨rfl, rfl⟩ | ⟨km, rfl⟩ <;> rcases hh with ⟨rfl, hmn, rfl⟩ | ⟨kh, rfl⟩ <;> rcases hl with ⟨rfl, rfl⟩ | ⟨kl, rfl⟩ <;>
    first
    | (cases hmn; done)
    | (simp (disch := omega) only [Instr.sliceBounds, Sem.run_bind, Sem.run_pure, Result.andThen_ok, run_sliceBound, Int.toNat_natCast, Int.toNat_zero])

theorem optInt_spec (hT : TR F w n τ a.tmps) {x : Option Operand} {rx : Option RO} {dflt : Nat} {i : Int} (hr : rOpt x = some rx) (hok : okOpt n rx = true) (h : optInt τ dflt rx = some i) :
    (x.map a.eval = none ∧ i = dflt) ∨ (∃ k, x.map a.eval = some (.int k i)) := by
  cases x with
  | none =>
    simp only [rOpt] at hr
    cases hr
    simp only [optInt] at h
    cases h
    exact .inl ⟨rfl, rfl⟩
  | some x =>
    simp only [rOpt, Option.map_eq_some_iff] at hr
    obtain ⟨r, hr, rfl⟩ := hr
    simp only [optInt] at h
    obtain ⟨k, hk⟩ := (ev_vr hT hr hok).intD h
    exact .inr ⟨k, by rw [Option.map_some, hk]⟩

theorem isNone_map {x : Option Operand} {rx : Option RO} (hr : rOpt x = some rx) (h : rx.isNone = true) : x = none := by
  cases x with
  | none => rfl
  | some x =>
    simp only [rOpt, Option.map_eq_some_iff] at hr
    obtain ⟨r, _, rfl⟩ := hr
    cases h

theorem getElem?_flatten_drop {sz : Nat} : ∀ {xs : List (List D)} (l : Nat), (∀ x ∈ xs, x.length = sz) → (xs.drop l).flatten = xs.flatten.drop (l * sz)
  | xs, 0, _ => by simp
  | [], l + 1, _ => by simp
  | x :: xs, l + 1, h => by
    have hx : x.length = sz := h x (List.mem_cons_self ..)
    rw [List.drop_succ_cons, getElem?_flatten_drop l (fun y hy => h y (List.mem_cons_of_mem _ hy)), List.flatten_cons, Nat.succ_mul, ← hx, Nat.add_comm, ← List.drop_drop, List.drop_left]
theorem getElem?_flatten_take {sz : Nat} : ∀ {xs : List (List D)} (l : Nat), (∀ x ∈ xs, x.length = sz) → (xs.take l).flatten = xs.flatten.take (l * sz)
  | xs, 0, _ => by simp
  | [], l + 1, _ => by simp
  | x :: xs, l + 1, h => by
    have hx : x.length = sz := h x (List.mem_cons_self ..)
    rw [List.take_succ_cons, List.flatten_cons, getElem?_flatten_take l (fun y hy => h y (List.mem_cons_of_mem _ hy)), List.flatten_cons, Nat.succ_mul, ← hx, List.take_append, List.take_of_length_le (l := x) (by omega)]
    congr 2
    omega

/-- A piece of a frozen row. -/
theorem fz_slice {sz : Nat} {xs : List (List D)} {A : Option Addr} {len c : Nat} (h : VR F w (.fz sz xs) (.slice A len c)) {l k : Nat} (m : Nat) (hl : l ≤ k) (hk : k ≤ len) (hm : k ≤ m) :
    VR F w (.fz sz ((xs.take k).drop l)) (.slice (if m = l then A else A.map (·.add (l * sz))) (k - l) (m - l)) := by
  by_cases hkl : k = l
  · subst hkl
    have : (xs.take k).drop k = [] := by rw [List.drop_eq_nil_iff]; simp; omega
    rw [this, Nat.sub_self]
    exact .nil sz _ _
  · cases h with
    | nil => omega
    | fz u hsz hcap hF hc hr =>
      rename_i b o
      have hml : m ≠ l := by omega
      have hsz' : ∀ x ∈ (xs.take k).drop l, x.length = sz := fun x hx => hsz x (List.mem_of_mem_take (List.mem_of_mem_drop hx))
      have hflat : ((xs.take k).drop l).flatten = (xs.flatten.take (k * sz)).drop (l * sz) := by
        rw [getElem?_flatten_drop l (fun x hx => hsz x (List.mem_of_mem_take hx)), getElem?_flatten_take k hsz]
      have hlen : ((xs.take k).drop l).length = k - l := by simp; omega
      have key : ∀ i (hi : i < ((xs.take k).drop l).flatten.length), ∃ h' : l * sz + i < xs.flatten.length, ((xs.take k).drop l).flatten[i] = xs.flatten[l * sz + i] := by
        intro i hi
        have h2 : i < ((xs.flatten.take (k * sz)).drop (l * sz)).length := by rw [← hflat]; exact hi
        have h3 : l * sz + i < xs.flatten.length := by simp only [List.length_drop, List.length_take] at h2; omega
        refine ⟨h3, ?_⟩
        simp only [hflat, List.getElem_drop, List.getElem_take]
      rw [if_neg hml]
      have hv := VR.fz (F := F) (w := w) (sz := sz) (xs := (xs.take k).drop l) (b := b) (o := o + l * sz) (c := m - l) (fun i => u (l * sz + i)) hsz' (by rw [hlen]; omega)
        (fun i hi => by rw [Nat.add_assoc]; exact hF _ (key i hi).1) (fun i hi => by rw [Nat.add_assoc]; exact hc _ (key i hi).1)
        (fun i hi => by rw [(key i hi).2]; exact hr _ (key i hi).1)
      rw [hlen] at hv
      simpa [Addr.add_mid] using hv

theorem s_slc (hR : Rel P F w H) (hT : TR F w n τ a.tmps) {t e : TypeId} {sz : Nat} {x : Operand} {lo hi mx : Option Operand} {rx : RO} {rl rh rm : Option RO} (ho : o.op = .slice t x lo hi mx)
    {d : TypeDesc} (hu : P.underlying t = some d) (hd : (d = .slice e ∧ szT P e = some sz) ∨ (d = .string ∧ sz = 0)) (h1 : rO x = some rx) (h2 : rOpt lo = some rl) (h3 : rOpt hi = some rh) (h4 : rOpt mx = some rm)
    (k1 : okO n rx = true) (k2 : okOpt n rl = true) (k3 : okOpt n rh = true) (k4 : okOpt n rm = true) (hmh : (mx.isSome && hi.isNone) = false) (h : opW P C (.slc (d matches .string) sz rx rl rh rm) τ H K) : Does P F w H a o K := by
  have e1 := ev_vr hT h1 k1
  have arr : ∀ {v : Value}, (Instr.slice t (a.eval x) (lo.map a.eval) (hi.map a.eval) (mx.map a.eval)).run P w = .ok v w → (execOp a.eval o).run P w = .ok (.value v) w := by
    intro v hrun
    simp only [execOp, ho]
    refine exec_val ?_
    rw [Instr.sliceAt, Sem.run_bind, run_underlying hu]
    rcases hd with ⟨rfl, _⟩ | ⟨rfl, _⟩ <;> exact hrun
  simp only [opW] at h
  generalize hvx : a.eval x = vx at *
  split at h
  · -- a string
    rename_i s hs
    rw [hs] at e1
    cases e1
    split at h
    · rename_i l k hl hk
      obtain ⟨hstr, hmx, q0, q1, q2, hK⟩ := h
      have hmx' := isNone_map h4 hmx
      subst hmx'
      refine Does.pure hR (arr ?_) (.v _) hK
      rw [Instr.slice, Sem.run_bind, run_underlying hu]
      rcases hd with ⟨rfl, _⟩ | ⟨rfl, _⟩
      · simp at hstr
      · simp only [Result.andThen_ok, Option.map_none, Option.isSome_none, Bool.false_eq_true, if_false]
        rw [Sem.run_bind]
        simp only [Sem.run_pure]
        have hrun := run_sliceBounds (P := P) (w := w) (isS := false) (len := s.size) (cap := s.size) (lo := lo.map a.eval) (hi := hi.map a.eval) (mx := none) (l := l) (h := k) (m := s.size) (.inl ⟨rfl, rfl⟩) (by
          rcases optInt_spec hT h3 k3 hk with ⟨a, b⟩ | h
          · exact .inl ⟨a, rfl, b⟩
          · exact .inr h) (optInt_spec hT h2 k2 hl) q0 q1 q2 (by omega)
        rw [hrun]
        rfl
    · exact h.elim
  · -- frozen
    rename_i sz' xs hs
    rw [hs] at e1
    split at h
    · rename_i l k m hl hk hm
      obtain ⟨hstr, rfl, q0, q1, q2, q3, hK⟩ := h
      have hsz : d = .slice e ∧ szT P e = some sz' := by
        rcases hd with h | ⟨rfl, _⟩
        · exact h
        · simp at hstr
      obtain ⟨rfl, hsz⟩ := hsz
      have hm' := optInt_spec hT h4 k4 hm
      have hk' := optInt_spec hT h3 k3 hk
      have hl' := optInt_spec hT h2 k2 hl
      have go : ∀ {A : Option Addr} {len c : Nat}, vx = .slice A len c → xs.length = len → len ≤ c → VR F w (.fz sz' xs) (.slice A len c) → Does P F w H a o K := by
        rintro A len c rfl hlen hlc hv
        obtain ⟨M, hM, hMk, hMc⟩ : ∃ M : Int, ((mx.map a.eval = none ∧ M = c) ∨ ∃ k, mx.map a.eval = some (.int k M)) ∧ k ≤ M ∧ M ≤ c := by
          rcases hm' with ⟨p, q⟩ | ⟨k0, q⟩
          · exact ⟨c, .inl ⟨p, rfl⟩, by omega, by omega⟩
          · exact ⟨m, .inr ⟨k0, q⟩, by omega, by omega⟩
        have hkk : (hi.map a.eval = none ∧ mx.map a.eval = none ∧ k = len) ∨ ∃ kk, hi.map a.eval = some (.int kk k) := by
          rcases hk' with ⟨p, q⟩ | ⟨k0, q⟩
          · refine .inl ⟨p, ?_, by omega⟩
            have p' : hi = none := Option.map_eq_none_iff.1 p
            subst p'
            cases mx with
            | none => rfl
            | some _ => cases hmh
          · exact .inr ⟨k0, q⟩
        have hrun := run_sliceBounds (P := P) (w := w) (isS := true) (len := len) (cap := c) (l := l) (h := k) (m := M) hM hkk hl' q0 q1 hMk hMc
        have hlk : l.toNat ≤ k.toNat := by omega
        have hkl : k.toNat ≤ len := by omega
        have hkM : k.toNat ≤ M.toNat := by omega
        refine Does.pure hR (arr ?_) (fz_slice hv M.toNat hlk hkl hkM) hK
        rw [Instr.slice, Sem.run_bind, run_underlying hu]
        simp only [Result.andThen_ok]
        rw [Sem.run_bind, hrun]
        simp only [Result.andThen_ok]
        rw [Sem.run_bind, run_sizeOf hsz]
        rfl
      cases e1 with
      | nil _ A c => exact go rfl rfl (Nat.zero_le _) (.nil _ A c)
      | fz u hsz hcap hF hc hr' => exact go rfl rfl hcap (.fz u hsz hcap hF hc hr')
    · exact h.elim
  · -- a row of one's own
    rename_i b off len c hs
    rw [hs] at e1
    cases e1
    split at h
    · rename_i l k m hl hk hm
      obtain ⟨hstr, q0, q1, q2, q3, hK⟩ := h
      have hsz : d = .slice e ∧ szT P e = some sz := by
        rcases hd with h | ⟨rfl, _⟩
        · exact h
        · simp at hstr
      obtain ⟨rfl, hsz⟩ := hsz
      have hkk : (hi.map a.eval = none ∧ mx.map a.eval = none ∧ k = len) ∨ ∃ kk, hi.map a.eval = some (.int kk k) := by
        rcases optInt_spec hT h3 k3 hk with ⟨p, q⟩ | ⟨k0, q⟩
        · refine .inl ⟨p, ?_, by omega⟩
          have p' : hi = none := Option.map_eq_none_iff.1 p
          subst p'
          cases mx with
          | none => rfl
          | some _ => cases hmh
        · exact .inr ⟨k0, q⟩
      have hrun := run_sliceBounds (P := P) (w := w) (isS := true) (len := len) (cap := c) (l := l) (h := k) (m := m) (optInt_spec hT h4 k4 hm) hkk (optInt_spec hT h2 k2 hl) q0 q1 q2 q3
      refine Does.pure hR (arr ?_) (.v _) hK
      rw [Instr.slice, Sem.run_bind, run_underlying hu]
      simp only [Result.andThen_ok]
      rw [Sem.run_bind, hrun]
      simp only [Result.andThen_ok]
      rw [Sem.run_bind, run_sizeOf hsz]
      have hml : (m.toNat = l.toNat) = (m = l) := by apply propext; constructor <;> intro h <;> omega
      simp only [Result.andThen_ok, hml, Sem.run_pure]
      split <;> simp [Addr.add_mid]
    · exact h.elim
  · rename_i hs
    rw [hs] at e1
    cases e1
    split at h
    · rename_i l k m hl hk hm
      obtain ⟨hstr, rfl, rfl, rfl, hK⟩ := h
      have hsz : d = .slice e ∧ szT P e = some sz := by
        rcases hd with h | ⟨rfl, _⟩
        · exact h
        · simp at hstr
      obtain ⟨rfl, hsz⟩ := hsz
      have hkk : (hi.map a.eval = none ∧ mx.map a.eval = none ∧ (0 : Int) = (0 : Nat)) ∨ ∃ kk, hi.map a.eval = some (.int kk 0) := by
        rcases optInt_spec hT h3 k3 hk with ⟨p, q⟩ | ⟨k0, q⟩
        · refine .inl ⟨p, ?_, rfl⟩
          have p' : hi = none := Option.map_eq_none_iff.1 p
          subst p'
          cases mx with
          | none => rfl
          | some _ => cases hmh
        · exact .inr ⟨k0, q⟩
      have hrun := run_sliceBounds (P := P) (w := w) (isS := true) (len := 0) (cap := 0) (l := 0) (h := 0) (m := 0) (optInt_spec hT h4 k4 hm) hkk (optInt_spec hT h2 k2 hl) (by omega) (by omega) (by omega) (by omega)
      refine Does.pure hR (arr ?_) (.v _) hK
      rw [Instr.slice, Sem.run_bind, run_underlying hu]
      simp only [Result.andThen_ok]
      rw [Sem.run_bind, hrun]
      simp only [Result.andThen_ok]
      rw [Sem.run_bind, run_sizeOf hsz]
      rfl
    · exact h.elim
  · exact h.elim

end Go.Fsl
