/- A part of our logic over the resolved code, or of a proof in it. -/
import Derived.Test.YtdajenjajmofiaaGreatDoorFslResolve
set_option linter.unusedSimpArgs false
set_option linter.unusedVariables false
namespace Go.Fsl

def HSub (H1 H : Heap) : Prop := ∀ b o, H1 b = some o → H b = some o
theorem HSub.refl (H : Heap) : HSub H H := fun _ _ h => h
theorem HSub.trans {A B C : Heap} (h : HSub A B) (k : HSub B C) : HSub A C := fun b o e => k b o (h b o e)

def TyIn (ty : Option TypeId) : Type := { e : TypeId // ∀ t, ty = some t → e = t }
def TyIn.any (e : TypeId) : TyIn none := ⟨e, fun _ h => nomatch h⟩
def TyIn.at (e : TypeId) : TyIn (some e) := ⟨e, fun _ h => Option.some.inj h⟩
/-- An object and the block it stands for. -/
def OR (P : Program) (F : Fz) (w : World) (b : Nat) : O → Prop
  | .cells cs frz room ty => ∃ (arr : Array Value) (e : TyIn ty) (lo hi : Nat), w.heap[b]? = some (.cells arr e.1 (lo, hi)) ∧ cs.length ≤ arr.size ∧ room ≤ arr.size ∧
      (∀ i, frz ≤ i → i < arr.size → ¬ (lo ≤ i ∧ i < hi)) ∧
      ∃ u : Nat → Value, ∀ i (h : i < cs.length), arr[i]? = some (u i) ∧ VR F w (cs[i]) (u i)
  | .map es clock => ∃ ents : List MapEntry, w.heap[b]? = some (.map ents.toArray clock) ∧ ents.length = es.length ∧
      ∀ i (h : i < ents.length) (h' : i < es.length), ents[i].born = es[i].1 ∧ VR F w (es[i].2.1) (ents[i].key) ∧ VR F w (es[i].2.2) (ents[i].val)
  | .siter s pos => w.heap[b]? = some (.stringIter s pos)
  | .miter m since seen stepped => w.heap[b]? = some (.mapIter (some m) since seen.toArray stepped)
  | .loop st pend τ n ps asg body => ∃ r : Loop, w.heap[b]? = some (.loop r) ∧ r.state = st ∧ r.pending = pend.bind X.code ∧ r.params = ps.toArray ∧
      rCode P r.assign = some asg ∧ rCode P r.body = some body ∧ r.tmps.size = n ∧ okCode n asg = true ∧ okCode n body = true ∧ (∀ p ∈ ps, p < n) ∧ ∀ t, t < n → VR F w (τ t) (r.tmps.getD t undef)

structure Rel (P : Program) (F : Fz) (w : World) (H : Heap) : Prop where
  own : ∀ b o, H b = some o → OR P F w b o
  fz : ∀ b i, F b i → (∃ v, w.cell? ⟨b, i, none⟩ = some v) ∧ ∀ o, H b = some o → ∃ cs frz room ty, o = .cells cs frz room ty ∧ i < frz

theorem OR.lt {P : Program} {F : Fz} {w : World} {b : Nat} {o : O} (h : OR P F w b o) : b < w.heap.size := by
  have : ∃ x, w.heap[b]? = some x := by
    cases o with
    | cells cs frz room ty => obtain ⟨arr, e, lo, hi, h, _⟩ := h; exact ⟨_, h⟩
    | map es clock => obtain ⟨ents, h, _⟩ := h; exact ⟨_, h⟩
    | siter s pos => exact ⟨_, h⟩
    | miter m since seen stepped => exact ⟨_, h⟩
    | loop st pend τ n ps asg body => obtain ⟨r, h, _⟩ := h; exact ⟨_, h⟩
  obtain ⟨x, hx⟩ := this
  exact (Array.getElem?_eq_some_iff.1 hx).1

theorem Rel.lt {P : Program} {F : Fz} {w : World} {H : Heap} (h : Rel P F w H) {b : Nat} {o : O} (hb : H b = some o) : b < w.heap.size := (h.own b o hb).lt
theorem Rel.none_of_ge {P : Program} {F : Fz} {w : World} {H : Heap} (h : Rel P F w H) {b : Nat} (hb : w.heap.size ≤ b) : H b = none := by
  cases hc : H b with
  | none => rfl
  | some o => exact absurd (h.lt hc) (by omega)

/-- The cells of F keep their values. -/
def KeepF (F : Fz) (w w' : World) : Prop := ∀ b i v, F b i → w.cell? ⟨b, i, none⟩ = some v → w'.cell? ⟨b, i, none⟩ = some v
def SubF (F F' : Fz) : Prop := ∀ b i, F b i → F' b i

theorem SubF.refl (F : Fz) : SubF F F := fun _ _ h => h
theorem SubF.trans {A B C : Fz} (h : SubF A B) (k : SubF B C) : SubF A C := fun b i e => k b i (h b i e)
theorem KeepF.refl (F : Fz) (w : World) : KeepF F w w := fun _ _ _ _ h => h
theorem KeepF.trans {F F' : Fz} {a b c : World} (h : KeepF F a b) (hs : SubF F F') (k : KeepF F' b c) : KeepF F a c :=
  fun _ _ _ hf hv => k _ _ _ (hs _ _ hf) (h _ _ _ hf hv)

/-- Nothing was told to the outside. -/
def Quiet (w w' : World) : Prop := w'.os = w.os ∧ w'.output = w.output

/-- A row that is only read. -/
def Ro (o : O) : Prop := ∃ cs frz room ty, o = .cells cs frz room ty ∧ cs.length < frz
/-- From (F, w, H) on to (F', w', H'): what is not owned stays. -/
structure Step (F : Fz) (w : World) (H : Heap) (F' : Fz) (w' : World) (H' : Heap) : Prop where
  sub : SubF F F'
  keep : KeepF F w w'
  size : w.heap.size ≤ w'.heap.size
  rest : ∀ b, b < w.heap.size → H b = none → w'.heap[b]? = w.heap[b]?
  dom : ∀ b, b < w.heap.size → H b = none → H' b = none
  newF : ∀ b i, F' b i → F b i ∨ w.heap.size ≤ b ∨ H b ≠ none
  quiet : Quiet w w'
  ro : ∀ b o, b < w.heap.size → H b = some o → Ro o → w'.heap[b]? = w.heap[b]? ∧ (H' b = some o ∨ H' b = none)

theorem Step.refl (F : Fz) (w : World) (H : Heap) : Step F w H F w H :=
  ⟨SubF.refl F, KeepF.refl F w, Nat.le_refl _, fun _ _ _ => rfl, fun _ _ h => h, fun _ _ h => .inl h, ⟨rfl, rfl⟩, fun _ _ _ h _ => ⟨rfl, .inl h⟩⟩

theorem Step.trans {F F1 F2 : Fz} {w w1 w2 : World} {H H1 H2 : Heap} (a : Step F w H F1 w1 H1) (b : Step F1 w1 H1 F2 w2 H2) : Step F w H F2 w2 H2 where
  sub := a.sub.trans b.sub
  keep := a.keep.trans a.sub b.keep
  size := Nat.le_trans a.size b.size
  rest := fun c hc hn => by
    rw [b.rest c (Nat.lt_of_lt_of_le hc a.size) (a.dom c hc hn), a.rest c hc hn]
  dom := fun c hc hn => b.dom c (Nat.lt_of_lt_of_le hc a.size) (a.dom c hc hn)
  quiet := ⟨b.quiet.1.trans a.quiet.1, b.quiet.2.trans a.quiet.2⟩
  ro := fun c o hc ho hr => by
    obtain ⟨e1, e2 | e2⟩ := a.ro c o hc ho hr
    · obtain ⟨e3, e4⟩ := b.ro c o (Nat.lt_of_lt_of_le hc a.size) e2 hr
      exact ⟨e3.trans e1, e4⟩
    · exact ⟨(b.rest c (Nat.lt_of_lt_of_le hc a.size) e2).trans e1, .inr (b.dom c (Nat.lt_of_lt_of_le hc a.size) e2)⟩
  newF := fun c i h => by
    rcases b.newF c i h with h | h | h
    · exact a.newF c i h
    · exact .inr (.inl (Nat.le_trans a.size h))
    · by_cases hc : c < w.heap.size
      · right; right
        intro hn
        exact h (a.dom c hc hn)
      · exact .inr (.inl (by omega))

theorem Step.vr {F F' : Fz} {w w' : World} {H H' : Heap} (s : Step F w H F' w' H') {d : D} {v : Value} (h : VR F w d v) : VR F' w' d v := h.mono s.sub s.keep

theorem OR.mono {P : Program} {F F' : Fz} {w w' : World} {b : Nat} {o : O} (hF : SubF F F') (hk : KeepF F w w') (hb : w'.heap[b]? = w.heap[b]?) (h : OR P F w b o) : OR P F' w' b o := by
  cases o with
  | cells cs frz room ty =>
    obtain ⟨arr, e, lo, hi, h1, h2, h2', h3, u, h4⟩ := h
    exact ⟨arr, e, lo, hi, hb.trans h1, h2, h2', h3, u, fun i hi => ⟨(h4 i hi).1, (h4 i hi).2.mono hF hk⟩⟩
  | map es clock =>
    obtain ⟨ents, h1, h2, h5⟩ := h
    exact ⟨ents, hb.trans h1, h2, fun i h h' => ⟨(h5 i h h').1, (h5 i h h').2.1.mono hF hk, (h5 i h h').2.2.mono hF hk⟩⟩
  | siter s pos => exact hb.trans h
  | miter m since seen stepped => exact hb.trans h
  | loop st pend τ n ps asg body =>
    obtain ⟨r, h1, h2, h3, h4, h5, h6, h7, h9, h10, h11, h8⟩ := h
    exact ⟨r, hb.trans h1, h2, h3, h4, h5, h6, h7, h9, h10, h11, fun t ht => (h8 t ht).mono hF hk⟩

theorem Rel.sub {P : Program} {F : Fz} {w : World} {H H1 : Heap} (h : Rel P F w H) (s : HSub H1 H) : Rel P F w H1 :=
  ⟨fun b o hb => h.own b o (s b o hb), fun b i hf => ⟨(h.fz b i hf).1, fun o hb => (h.fz b i hf).2 o (s b o hb)⟩⟩

theorem HSub.ins {H : Heap} {b : Nat} (o : O) (h : H b = none) : HSub H (H.ins b o) := by
  intro c p hc
  have : c ≠ b := by rintro rfl; rw [h] at hc; cases hc
  rw [Heap.ins_other _ _ this]; exact hc

/-- What is framed off lives on. -/
theorem Rel.framed {P : Program} {F F' : Fz} {w w' : World} {H H' : Heap} {b : Nat} {o : O} (h : Rel P F w (H.ins b o)) (hb : H b = none)
    (s : Step F w H F' w' H') (h' : Rel P F' w' H') : H' b = none ∧ Rel P F' w' (H'.ins b o) := by
  have hlt : b < w.heap.size := h.lt (Heap.ins_same H b o)
  have hn := s.dom b hlt hb
  refine ⟨hn, ⟨fun c p hc => ?_, fun c i hf => ⟨(h'.fz c i hf).1, fun p hc => ?_⟩⟩⟩
  · by_cases e : c = b
    · subst e
      obtain rfl : o = p := by simpa using hc
      exact (h.own c o (Heap.ins_same H c o)).mono s.sub s.keep (s.rest c hlt hb)
    · rw [Heap.ins_other _ _ e] at hc
      exact h'.own c p hc
  · by_cases e : c = b
    · subst e
      obtain rfl : o = p := by simpa using hc
      rcases s.newF c i hf with h1 | h1 | h1
      · exact (h.fz c i h1).2 o (Heap.ins_same H c o)
      · omega
      · exact absurd hb h1
    · rw [Heap.ins_other _ _ e] at hc
      exact (h'.fz c i hf).2 p hc

theorem Step.framed {F F' : Fz} {w w' : World} {H H' : Heap} {b : Nat} {o : O} (hb : H b = none) (hlt : b < w.heap.size) (s : Step F w H F' w' H') :
    Step F w (H.ins b o) F' w' (H'.ins b o) where
  quiet := s.quiet
  ro := fun c p hc hp hr => by
    by_cases e : c = b
    · subst e
      exact ⟨s.rest c hlt hb, .inl (by rw [← hp]; simp)⟩
    · rw [Heap.ins_other _ _ e] at hp ⊢
      exact s.ro c p hc hp hr
  sub := s.sub
  keep := s.keep
  size := s.size
  rest := fun c hc hn => by
    by_cases e : c = b
    · subst e; simp at hn
    · rw [Heap.ins_other _ _ e] at hn; exact s.rest c hc hn
  dom := fun c hc hn => by
    by_cases e : c = b
    · subst e; simp at hn
    · rw [Heap.ins_other _ _ e] at hn ⊢; exact s.dom c hc hn
  newF := fun c i hf => by
    rcases s.newF c i hf with h | h | h
    · exact .inl h
    · exact .inr (.inl h)
    · right; right
      by_cases e : c = b
      · subst e; simp
      · rw [Heap.ins_other _ _ e]; exact h

end Go.Fsl
