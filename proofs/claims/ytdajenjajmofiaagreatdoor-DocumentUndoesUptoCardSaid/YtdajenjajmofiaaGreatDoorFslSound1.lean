/- A part of our logic over the resolved code, or of a proof in it. -/
import Derived.Test.YtdajenjajmofiaaGreatDoorFslSound0
import Derived.Deep.MidRow
set_option linter.unusedSimpArgs false
set_option linter.unusedVariables false
namespace Go.Fsl
variable {P : Program} {F : Fz} {w w' : World} {H : Heap}

theorem cell_congr {b i : Nat} (h : w'.heap[b]? = w.heap[b]?) : w'.cell? ⟨b, i, none⟩ = w.cell? ⟨b, i, none⟩ := by
  simp only [World.cell?, h]
theorem frozen_congr {b i : Nat} (h : w'.heap[b]? = w.heap[b]?) : w'.frozen? ⟨b, i, none⟩ = w.frozen? ⟨b, i, none⟩ := by
  simp only [World.frozen?, h]
theorem cell_of {b i : Nat} {arr : Array Value} {e : TypeId} {fr : Nat × Nat} (h : w.heap[b]? = some (.cells arr e fr)) : w.cell? ⟨b, i, none⟩ = arr[i]? := by
  simp [World.cell?, h]
theorem frozen_of {b i lo hi : Nat} {arr : Array Value} {e : TypeId} (h : w.heap[b]? = some (.cells arr e (lo, hi))) : w.frozen? ⟨b, i, none⟩ = (decide (lo ≤ i) && decide (i < hi)) := by
  simp [World.frozen?, h]

/-- A new block. -/
theorem Rel.push (hR : Rel P F w H) {x : Obj} (hw : w'.heap = w.heap.push x) {o : O} (ho : OR P F w' w.heap.size o) (hq : Quiet w w' := by exact ⟨rfl, rfl⟩) :
    Rel P F w' (H.ins w.heap.size o) ∧ Step F w H F w' (H.ins w.heap.size o) := by
  have hold : ∀ b, b < w.heap.size → w'.heap[b]? = w.heap[b]? := fun b hb => by rw [hw, Array.getElem?_push_lt hb, Array.getElem?_eq_getElem hb]
  have hk : KeepF F w w' := by
    intro b i v hf hv
    have hlt := World.block_lt_of_cell? w _ hv
    rw [cell_congr (hold b hlt)]; exact hv
  have hn := hR.none_of_ge (Nat.le_refl w.heap.size)
  refine ⟨⟨fun b p hb => ?_, fun b i hf => ⟨?_, fun p hb => ?_⟩⟩, ⟨SubF.refl F, hk, by rw [hw]; simp, fun b hb _ => hold b hb, fun b hb hnb => ?_, fun b i hf => .inl hf, hq, fun b p hlt hp _ => ⟨hold b hlt, .inl (by rw [Heap.ins_other _ _ (by omega)]; exact hp)⟩⟩⟩
  · by_cases e : b = w.heap.size
    · subst e
      obtain rfl : o = p := by simpa using hb
      exact ho
    · rw [Heap.ins_other _ _ e] at hb
      exact (hR.own b p hb).mono (SubF.refl F) hk (hold b (hR.lt hb))
  · obtain ⟨v, hv⟩ := (hR.fz b i hf).1
    exact ⟨v, hk b i v hf hv⟩
  · by_cases e : b = w.heap.size
    · subst e
      obtain ⟨v, hv⟩ := (hR.fz w.heap.size i hf).1
      exact absurd (World.block_lt_of_cell? w _ hv) (Nat.lt_irrefl _)
    · rw [Heap.ins_other _ _ e] at hb
      exact (hR.fz b i hf).2 p hb
  · rw [Heap.ins_other _ _ (by omega)]; exact hnb

/-- An owned block is written. -/
theorem Rel.upd (hR : Rel P F w H) {b : Nat} {o o' : O} (hb : H b = some o) (hsz : w'.heap.size = w.heap.size)
    (hoth : ∀ c, c ≠ b → w'.heap[c]? = w.heap[c]?) (hkeep : ∀ i v, F b i → w.cell? ⟨b, i, none⟩ = some v → w'.cell? ⟨b, i, none⟩ = some v)
    (ho : OR P F w' b o') (hfz : ∀ i, F b i → ∃ cs frz room ty, o' = .cells cs frz room ty ∧ i < frz) (hro : ¬ Ro o) (hq : Quiet w w' := by exact ⟨rfl, rfl⟩) :
    Rel P F w' (H.ins b o') ∧ Step F w H F w' (H.ins b o') := by
  have hk : KeepF F w w' := by
    intro c i v hf hv
    by_cases e : c = b
    · subst e; exact hkeep i v hf hv
    · rw [cell_congr (hoth c e)]; exact hv
  refine ⟨⟨fun c p hc => ?_, fun c i hf => ⟨?_, fun p hc => ?_⟩⟩, ⟨SubF.refl F, hk, by omega, fun c hc hnc => hoth c ?_, fun c hc hnc => ?_, fun c i hf => .inl hf, hq, fun c p hlt hp hr => ?_⟩⟩
  rotate_right
  · have e : c ≠ b := by rintro rfl; rw [hb] at hp; cases hp; exact hro hr
    exact ⟨hoth c e, .inl (by rw [Heap.ins_other _ _ e]; exact hp)⟩
  · by_cases e : c = b
    · subst e
      obtain rfl : o' = p := by simpa using hc
      exact ho
    · rw [Heap.ins_other _ _ e] at hc
      exact (hR.own c p hc).mono (SubF.refl F) hk (hoth c e)
  · obtain ⟨v, hv⟩ := (hR.fz c i hf).1
    exact ⟨v, hk c i v hf hv⟩
  · by_cases e : c = b
    · subst e
      obtain rfl : o' = p := by simpa using hc
      exact hfz i hf
    · rw [Heap.ins_other _ _ e] at hc
      exact (hR.fz c i hf).2 p hc
  · rintro rfl; rw [hb] at hnc; cases hnc
  · have e : c ≠ b := by rintro rfl; rw [hb] at hnc; cases hnc
    rw [Heap.ins_other _ _ e]; exact hnc

theorem HSub.era (H : Heap) (b : Nat) : HSub (H.era b) H := by
  intro c o h
  simp only [Heap.era] at h
  split at h
  · cases h
  · exact h
theorem Step.subH (F : Fz) (w : World) {H H1 : Heap} (h : HSub H1 H) : Step F w H F w H1 :=
  ⟨SubF.refl F, KeepF.refl F w, Nat.le_refl _, fun _ _ _ => rfl, (fun b _ hn => by
    cases e : H1 b with
    | none => rfl
    | some o => rw [h b o e] at hn; cases hn), fun _ _ h => Or.inl h, ⟨rfl, rfl⟩, fun b o _ ho _ => ⟨rfl, by
    cases e : H1 b with
    | none => exact .inr rfl
    | some p => rw [h b p e] at ho; exact .inl ho⟩⟩

/-- What an owned row of cells reads as. -/
theorem Rel.cellsAt (hR : Rel P F w H) {b : Nat} {cs : List D} {frz room : Nat} {ty : Option TypeId} (hb : H b = some (.cells cs frz room ty)) :
    ∃ u : Nat → Value, ∀ i (h : i < cs.length), w.cell? ⟨b, i, none⟩ = some (u i) ∧ VR F w (cs[i]) (u i) := by
  obtain ⟨arr, e, lo, hi, h1, h2, h3, h4, u, h5⟩ := hR.own b _ hb
  exact ⟨u, fun i h => ⟨by rw [cell_of h1]; exact (h5 i h).1, (h5 i h).2⟩⟩

theorem run_sizeOf {t : TypeId} {n : Nat} (h : szT P t = some n) (w : World) : (sizeOf t).run P w = .ok n w := by
  simp only [szT, Option.map_eq_some_iff] at h
  obtain ⟨i, hi, rfl⟩ := h
  simp [sizeOf, typeInfo, hi]
theorem run_isAgg {t : TypeId} {g : Bool} (h : aggT P t = some g) (w : World) : (isAgg t).run P w = .ok g w := by
  simp only [aggT] at h
  cases hu : P.underlying t with
  | none => rw [hu] at h; cases h
  | some d =>
    rw [hu] at h
    unfold isAgg
    rw [Sem.run_bind, run_underlying hu w]
    cases d <;> simp_all

/-- A load, of owned cells or of frozen ones. -/
theorem load_at {b o off n : Nat} {t : TypeId} {g : Bool} {cs : List D} {d : D} (u : Nat → Value)
    (hc : ∀ i (h : i < cs.length), w.cell? ⟨b, o + i, none⟩ = some (u i) ∧ VR F w (cs[i]) (u i)) (hg : aggT P t = some g) (hn : szT P t = some n)
    (hd : rd g n off cs = some d) : ∃ v, (loadVar t ⟨b, o + off, none⟩).run P w = .ok v w ∧ VR F w d v := by
  cases g with
  | false =>
    simp only [rd, Bool.false_eq_true, if_false] at hd
    obtain ⟨hlt, rfl⟩ := List.getElem?_eq_some_iff.1 hd
    refine ⟨u off, ?_, (hc off hlt).2⟩
    rw [loadVar, Sem.run_bind, run_isAgg hg w]
    simp only [Result.andThen_ok, Bool.false_eq_true, if_false]
    simp [load, Sem.run, (hc off hlt).1]
  | true =>
    simp only [rd, if_true] at hd
    split at hd
    · rename_i hle
      cases hd
      let vs := (List.range n).map fun j => u (off + j)
      have hvl : vs.length = n := by simp [vs]
      have hrange : w.rangeAt b (o + off) vs := by
        intro j v hv
        obtain ⟨hj, rfl⟩ := List.getElem?_eq_some_iff.1 hv
        have hj' : j < n := by rw [hvl] at hj; exact hj
        have := (hc (off + j) (by omega)).1
        simp only [vs, List.getElem_map, List.getElem_range]
        rw [Nat.add_assoc]
        exact this
      obtain ⟨dsc, hu, hrow⟩ : ∃ dsc, P.underlying t = some dsc ∧ dsc.isRow = true := by
        simp only [aggT] at hg
        cases hu : P.underlying t with
        | none => rw [hu] at hg; cases hg
        | some dsc => rw [hu] at hg; exact ⟨dsc, rfl, by cases dsc <;> simp_all [TypeDesc.isRow]⟩
      refine ⟨_, run_loadVar_mid w b (o + off) t vs dsc hrange hu hrow (by rw [hvl]; exact hn), ?_⟩
      refine .agg vs (by simp [hvl]; omega) (fun i hi hi' => ?_)
      have hi2 : i < n := by rw [hvl] at hi'; exact hi'
      simp only [List.getElem_take, List.getElem_drop, vs, List.getElem_map, List.getElem_range]
      exact (hc (off + i) (by omega)).2
    · cases hd

theorem quiet_setCells (b : Nat) : ∀ (vs : List Value) (o : Nat) (w : World), Quiet w (w.setCells b o vs)
  | [], _, w => ⟨rfl, rfl⟩
  | v :: vs, o, w => by
    have h := quiet_setCells b vs (o + 1) (w.setCell ⟨b, o, none⟩ v)
    exact ⟨h.1, h.2⟩

/-! ### a store -/
theorem length_setMany : ∀ (ds cs : List D) (o : Nat), (setMany cs o ds).length = cs.length
  | [], _, _ => rfl
  | d :: ds, cs, o => by rw [setMany, length_setMany ds, List.length_set]
theorem getElem?_setMany : ∀ (ds cs : List D) (o i : Nat), o + ds.length ≤ cs.length →
    (setMany cs o ds)[i]? = if o ≤ i ∧ i < o + ds.length then ds[i - o]? else cs[i]?
  | [], cs, o, i, _ => by
    rw [setMany, if_neg]
    simp only [List.length_nil]; omega
  | d :: ds, cs, o, i, h => by
    have hl : o + 1 + ds.length ≤ (cs.set o d).length := by simp at h ⊢; omega
    rw [setMany, getElem?_setMany ds _ _ _ hl]
    simp only [List.length_cons] at h ⊢
    clear hl
    by_cases h1 : i = o
    · subst h1
      rw [if_neg (by omega), if_pos (by omega), List.getElem?_set_self (by omega), Nat.sub_self]
      rfl
    · by_cases h2 : o ≤ i ∧ i < o + (ds.length + 1)
      · rw [if_pos (by omega), if_pos h2]
        obtain ⟨k, rfl⟩ : ∃ k, i = o + 1 + k := ⟨i - (o + 1), by omega⟩
        have e1 : o + 1 + k - (o + 1) = k := by omega
        have e2 : o + 1 + k - o = k + 1 := by omega
        rw [e1, e2]
        simp
      · rw [if_neg (by omega), if_neg h2, List.getElem?_set_ne (Ne.symm h1)]

def arrMany (arr : Array Value) : Nat → List Value → Array Value
  | _, [] => arr
  | o, v :: vs => arrMany (arr.setIfInBounds o v) (o + 1) vs
theorem size_arrMany : ∀ (vs : List Value) (arr : Array Value) (o : Nat), (arrMany arr o vs).size = arr.size
  | [], _, _ => rfl
  | v :: vs, arr, o => by rw [arrMany, size_arrMany vs, Array.size_setIfInBounds]
theorem getElem?_arrMany : ∀ (vs : List Value) (arr : Array Value) (o i : Nat), o + vs.length ≤ arr.size →
    (arrMany arr o vs)[i]? = if o ≤ i ∧ i < o + vs.length then vs[i - o]? else arr[i]?
  | [], arr, o, i, _ => by
    rw [arrMany, if_neg]
    simp only [List.length_nil]; omega
  | v :: vs, arr, o, i, h => by
    have hl : o + 1 + vs.length ≤ (arr.setIfInBounds o v).size := by simp at h ⊢; omega
    rw [arrMany, getElem?_arrMany vs _ _ _ hl]
    simp only [List.length_cons] at h ⊢
    clear hl
    by_cases h1 : i = o
    · subst h1
      rw [if_neg (by omega), if_pos (by omega), Array.getElem?_setIfInBounds_self_of_lt (by omega), Nat.sub_self]
      rfl
    · by_cases h2 : o ≤ i ∧ i < o + (vs.length + 1)
      · rw [if_pos (by omega), if_pos h2]
        obtain ⟨k, rfl⟩ : ∃ k, i = o + 1 + k := ⟨i - (o + 1), by omega⟩
        have e1 : o + 1 + k - (o + 1) = k := by omega
        have e2 : o + 1 + k - o = k + 1 := by omega
        rw [e1, e2]
        simp
      · rw [if_neg (by omega), if_neg h2, Array.getElem?_setIfInBounds_ne (Ne.symm h1)]

theorem heap_setCell {b o : Nat} {v : Value} {arr : Array Value} {e : TypeId} {fr : Nat × Nat} (h : w.heap[b]? = some (.cells arr e fr)) :
    (w.setCell ⟨b, o, none⟩ v).heap[b]? = some (.cells (arr.setIfInBounds o v) e fr) := by
  simp only [World.setCell, Array.getElem?_modify, if_true, h, Option.map_some]
  rfl
theorem heap_setCells {b : Nat} {e : TypeId} {fr : Nat × Nat} : ∀ (vs : List Value) (o : Nat) (w : World) (arr : Array Value), w.heap[b]? = some (.cells arr e fr) →
    (w.setCells b o vs).heap[b]? = some (.cells (arrMany arr o vs) e fr)
  | [], _, _, _, h => h
  | v :: vs, o, w, arr, h => by rw [World.setCells, arrMany]; exact heap_setCells vs (o + 1) _ _ (heap_setCell h)
theorem size_setCells (b : Nat) : ∀ (vs : List Value) (o : Nat) (w : World), (w.setCells b o vs).heap.size = w.heap.size
  | [], _, _ => rfl
  | v :: vs, o, w => by rw [World.setCells, size_setCells b vs]; simp
theorem heap_setCells_ne (b : Nat) {c : Nat} (hc : c ≠ b) : ∀ (vs : List Value) (o : Nat) (w : World), (w.setCells b o vs).heap[c]? = w.heap[c]?
  | [], _, _ => rfl
  | v :: vs, o, w => by
    rw [World.setCells, heap_setCells_ne b hc vs]
    simp only [World.setCell, Array.getElem?_modify, if_neg (Ne.symm hc)]

theorem store_at (hR : Rel P F w H) {b off n : Nat} {t : TypeId} {cs ds : List D} {frz room : Nat} {ty : Option TypeId} {v : Value} (hb : H b = some (.cells cs frz room ty))
    (hn : szT P t = some n) (hl : ds.length = n) (hf : frz ≤ off) (hle : off + n ≤ cs.length) (hv : VRs F w ds v.cells.toList) (h1 : ∀ u ∈ v.cells.toList, u.oneCell' = true) :
    ∃ w', (storeVar t ⟨b, off, none⟩ v).run P w = .ok () w' ∧ Rel P F w' (H.ins b (.cells (setMany cs off ds) frz room ty)) ∧ Step F w H F w' (H.ins b (.cells (setMany cs off ds) frz room ty)) := by
  obtain ⟨arr, e, lo, hi, g1, g2, g3, g4, u, g5⟩ := hR.own b _ hb
  have hvl : v.cells.toList.length = n := by rw [hv.1, hl]
  have hrun : (storeVar t ⟨b, off, none⟩ v).run P w = .ok () (w.setCells b off v.cells.toList) := by
    have hs := run_storeCells_cells (P := P) b off v.cells.toList 0 w
      (fun j hj => by rw [cell_of g1]; simp; omega)
      (fun j hj => by
        rw [frozen_of g1]
        have := g4 (off + 0 + j) (by omega) (by omega)
        simp; omega) h1
    have hsz : v.cells.size = n := by simpa using hvl
    rw [storeVar, Sem.run_bind, run_sizeOf hn w]
    simp only [Result.andThen_ok, hsz, ne_eq, not_true, if_false]
    exact hs
  have hheap := heap_setCells v.cells.toList off w arr g1
  have hsize := size_arrMany v.cells.toList arr off
  refine ⟨_, hrun, hR.upd hb (size_setCells b _ _ _) (fun c hc => heap_setCells_ne b hc _ _ _) (fun i x hfi hx => ?_) ?_ (fun i hfi => ?_) (by rintro ⟨_, _, _, _, e1, e2⟩; cases e1; omega) (quiet_setCells _ _ _ _)⟩
  · obtain ⟨cs', frz', room', ty', e1, e2⟩ := (hR.fz b i hfi).2 _ hb
    cases e1
    rw [cell_of hheap, getElem?_arrMany _ _ _ _ (by omega), if_neg (by omega), ← cell_of g1]
    exact hx
  · have hk : KeepF F w (w.setCells b off v.cells.toList) := by
      intro c i x hfi hx
      by_cases ec : c = b
      · subst ec
        obtain ⟨cs', frz', room', ty', e1, e2⟩ := (hR.fz c i hfi).2 _ hb
        cases e1
        rw [cell_of hheap, getElem?_arrMany _ _ _ _ (by omega), if_neg (by omega), ← cell_of g1]
        exact hx
      · rw [cell_congr (heap_setCells_ne b ec _ _ _)]; exact hx
    refine ⟨_, e, lo, hi, hheap, by rw [length_setMany, hsize]; exact g2, by rw [hsize]; exact g3, fun i => by rw [hsize]; exact g4 i,
      fun i => if off ≤ i ∧ i < off + n then (v.cells.toList[i - off]?).getD Go.undef else u i, fun i hi' => ?_⟩
    rw [length_setMany] at hi'
    rw [getElem?_arrMany _ _ _ _ (by omega), hvl]
    have hset := getElem?_setMany ds cs off i (by omega)
    rw [List.getElem?_eq_getElem (by rw [length_setMany]; exact hi'), hl] at hset
    by_cases hin : off ≤ i ∧ i < off + n
    · simp only [if_pos hin] at hset ⊢
      have hj : i - off < n := by omega
      have hj1 : i - off < v.cells.toList.length := by omega
      have hj2 : i - off < ds.length := by omega
      rw [List.getElem?_eq_getElem hj1]
      rw [List.getElem?_eq_getElem hj2] at hset
      refine ⟨by simp, ?_⟩
      have := (hv.2 (i - off) hj2 hj1).mono (SubF.refl F) hk
      have e2 : (setMany cs off ds)[i]'(by rw [length_setMany]; exact hi') = ds[i - off] := by simpa using hset
      rw [e2]; simpa using this
    · simp only [if_neg hin] at hset ⊢
      rw [List.getElem?_eq_getElem hi'] at hset
      have e2 : (setMany cs off ds)[i]'(by rw [length_setMany]; exact hi') = cs[i] := by simpa using hset
      rw [e2]
      exact ⟨(g5 i hi').1, (g5 i hi').2.mono (SubF.refl F) hk⟩
  · obtain ⟨cs', frz', room', ty', e1, e2⟩ := (hR.fz b i hfi).2 _ hb
    cases e1
    exact ⟨_, _, _, _, rfl, e2⟩

end Go.Fsl
