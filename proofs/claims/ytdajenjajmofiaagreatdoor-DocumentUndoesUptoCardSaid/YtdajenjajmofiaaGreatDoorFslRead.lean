/- A part of our logic over the resolved code, or of a proof in it. -/
import Derived.Test.YtdajenjajmofiaaGreatDoorFslFreeze
import Derived.ProofKit
import Derived.OpenShut
import Derived.Deep.DeepHandedRow
import Derived.Deep.Slices
import Derived.Lib.LaidTab
import Derived.WideKeyArgs
set_option linter.unusedSimpArgs false
set_option linter.unusedVariables false
namespace Go.Fsl
variable {P : Program} {H : Type} {enc : TypeId × Value → H} {W W' : World} {sp : Nat → Bool} {held : Bool}

theorem flat_get {α : Type} {k : Nat} : ∀ {rows : List (List α)} (_ : ∀ r ∈ rows, r.length = k) (i r : Nat), r < k → rows.flatten[i * k + r]? = (rows[i]?).bind (·[r]?)
  | [], _, i, r, _ => by simp
  | x :: rows, h, 0, r, hr => by
    have hx := h x (List.mem_cons_self ..)
    simp [List.getElem?_append_left (show r < x.length by omega)]
  | x :: rows, h, i + 1, r, hr => by
    have hx := h x (List.mem_cons_self ..)
    rw [List.flatten_cons, List.getElem?_append_right (by rw [Nat.succ_mul]; omega)]
    have : (i + 1) * k + r - x.length = i * k + r := by rw [Nat.succ_mul]; omega
    rw [this, flat_get (fun y hy => h y (List.mem_cons_of_mem _ hy)) i r hr]
    simp
theorem flat_len {α : Type} {k : Nat} : ∀ {rows : List (List α)} (_ : ∀ r ∈ rows, r.length = k), rows.flatten.length = rows.length * k
  | [], _ => by simp
  | x :: rows, h => by
    rw [List.flatten_cons, List.length_append, flat_len (fun y hy => h y (List.mem_cons_of_mem _ hy)), h x (List.mem_cons_self ..), List.length_cons, Nat.succ_mul]; omega

/-- A slice of an argument, as a tree of its elements' cells. -/
theorem open_rowsVR {t e : TypeId} {k fuel : Nat} {cs : List Value} {x : DataW H × List MemPlace} (ht : P.underlying t = some (.slice e)) (hk : P.cellsOf e = k) (hk0 : 0 < k) (h : DataW.trod enc P W 0 sp held fuel t cs = some x) :
    (cs = [.slice none 0 0] ∧ x.1 = .nil) ∨ ∃ (v : Value) (n : Nat) (rows : List (List Value)) (ds sps : List (DataW H)), cs = [v] ∧ x.1 = .slice ds sps ∧ rows.length = ds.length ∧
      (∀ i (h : i < rows.length) (h' : i < ds.length), rows[i].length = k ∧ ∃ p, DataW.trod enc P W 0 sp held n e rows[i] = some (ds[i], p)) ∧ VR (allF W) W (.fz k (rows.map fun r => r.map D.v)) v := by
  rcases Deep.open_slice ht h with h0 | ⟨a, len, cap, m, n, Dd, Pl, rfl, hb, hl, hm, hmm, rfl, hx⟩
  · exact .inl ⟨h0.1, by rw [h0.2]⟩
  right
  have hlm : len ≤ m := by rw [hmm]; split <;> omega
  obtain ⟨R, hR⟩ := Deep.choose_lt (α := List Value) (p := fun i cs' => W.cells? 0 (a.add (i * P.cellsOf e)) (P.cellsOf e) = some cs' ∧ DataW.trod enc P W 0 sp held n e cs' = some (Dd i, Pl i)) (n := len) (fun i hi => hx i (by omega))
  rw [hk] at hR
  have hlen : ∀ i, i < len → (R i).length = k := fun i hi => (World.cells?_some (hR i hi).1).2.1
  have hrows : ∀ r ∈ (List.range len).map R, r.length = k := by
    intro r hr
    obtain ⟨i, hi, rfl⟩ := List.mem_map.1 hr
    exact hlen i (List.mem_range.1 hi)
  refine ⟨_, n, (List.range len).map R, (List.range len).map Dd, _, rfl, rfl, by simp, fun i h1 h2 => ?_, ?_⟩
  · have hi : i < len := by simpa using h1
    simp only [List.getElem_map, List.getElem_range]
    exact ⟨hlen i hi, Pl i, (hR i hi).2⟩
  · by_cases h0 : len = 0
    · subst h0
      exact .nil k _ cap
    · -- the cells, one by one
      have hcell : ∀ i r, i < len → r < k → W.cell? (a.add (i * k + r)) = (R i)[r]? := by
        intro i r hi hr
        have := (World.cells?_some (hR i hi).1).2.2 r hr
        rwa [Deep.add_add] at this
      have hspot : a.spot = none := by
        have h1 := hcell 0 0 (by omega) hk0
        have h2 : (R 0)[0]? ≠ none := by
          have := hlen 0 (by omega)
          rw [List.getElem?_eq_getElem (by omega)]; simp
        simp only [Nat.zero_mul, Nat.add_zero, Addr.add, if_true] at h1
        rw [← h1] at h2
        cases hs : a.spot with
        | none => rfl
        | some s => exfalso; apply h2; unfold World.cell?; simp only [hs, Option.isSome_some, if_true]; split <;> rfl
      obtain ⟨b, o, s⟩ := a
      simp only at hspot
      subst hspot
      have hadd : ∀ j, (⟨b, o, none⟩ : Addr).add j = ⟨b, o + j, none⟩ := by
        intro j
        unfold Addr.add
        by_cases hj : j = 0
        · subst hj; simp
        · simp [hj]
      have hfl : (((List.range len).map R).map fun r => r.map D.v).flatten = ((List.range len).map R).flatten.map D.v := by rw [List.map_flatten]
      have hfll := flat_len hrows
      have hget : ∀ j, j < ((List.range len).map R).flatten.length → W.cell? ⟨b, o + j, none⟩ = ((List.range len).map R).flatten[j]? := by
        intro j hj
        rw [hfll, List.length_map, List.length_range] at hj
        have hi : j / k < len := Nat.div_lt_of_lt_mul (by rw [Nat.mul_comm]; exact hj)
        have hr : j % k < k := Nat.mod_lt _ hk0
        have e : j = j / k * k + j % k := by rw [Nat.mul_comm]; exact (Nat.div_add_mod j k).symm
        have h1 := hcell (j / k) (j % k) hi hr
        rw [hadd, ← e] at h1
        rw [h1]
        conv => rhs; rw [e]
        rw [flat_get hrows _ _ hr]
        simp [hi]
      have hll : len = (((List.range len).map R).map fun r => r.map D.v).length := by simp
      have key : VR (allF W) W (.fz k (((List.range len).map R).map fun r => r.map D.v)) (.slice (some ⟨b, o, none⟩) (((List.range len).map R).map fun r => r.map D.v).length cap) := by
        refine .fz (fun j => (((List.range len).map R).flatten[j]?).getD Go.undef) (fun x hx => ?_) (by rw [← hll]; exact hl) (fun j hj => ?_) (fun j hj => ?_) (fun j hj => ?_)
        · obtain ⟨r, hr, rfl⟩ := List.mem_map.1 hx
          rw [List.length_map]; exact hrows r hr
        · rw [hfl, List.length_map] at hj
          exact ⟨((List.range len).map R).flatten[j], by rw [hget j hj, List.getElem?_eq_getElem hj]⟩
        · rw [hfl, List.length_map] at hj
          rw [hget j hj, List.getElem?_eq_getElem hj]
          rfl
        · have hj' : j < ((List.range len).map R).flatten.length := by rw [hfl, List.length_map] at hj; exact hj
          simp only [hfl, List.getElem_map, List.getElem?_eq_getElem hj', Option.getD_some]
          exact .v _
      rw [← hll] at key
      exact key

/-- What the law leaves. -/
theorem post_i {f : Func} {s : ChangeSpec} {apart fresh handsOn : Bool} {args : Array Value} {v : Value} {ds gs : List (DataW H)} {before : List MemPlace} (hl : laidOutB P = true) (hrec : ∀ t ∈ f.params.toList, P.readableRec t = true ∧ t < P.types.size)
    (hW : DataW.Whole enc P f.params.toList s.vars apart W args.toList ds gs before) (hv : s.vars = []) (hb : ∀ b, b < W.heap.size → W'.heap[b]? = W.heap[b]?) (hk : ∀ may, W.keptBut W' may)
    (hres : ∀ (b : Nat) (sp : Nat → Bool) (hd : Bool), DataW.TrodAll enc P W' b sp hd f.resultTypes.toList (v.resultList f.resultTypes.size) (s.fn H (ds ++ gs)).results [])
    (hargs : (s.fn H (ds ++ gs)).args = ds) (hvars : (s.fn H (ds ++ gs)).vars = []) : s.post enc P f apart fresh handsOn false W args v W' := by
  have hW0 := hW
  obtain ⟨p, q, hA, hV, rfl, hfz, hnd⟩ := hW0
  have hlt := hW.lt
  rw [hv] at hV
  have hstay : ∀ {ts : List TypeId} {vs : List Value} {ds : List (DataW H)} {p : List MemPlace}, (∀ t ∈ ts, P.readableRec t = true ∧ t < P.types.size) → (∀ x ∈ p, x.block < W.heap.size) → DataW.TrodAll enc P W 0 (fun _ => true) true ts vs ds p →
      DataW.TrodAll enc P W' 0 (fun b => decide (b < W.heap.size)) true ts vs ds p := by
    intro ts
    induction ts with
    | nil =>
      intro vs ds p _ _ h
      cases vs <;> cases ds <;> first | exact h | exact h.elim
    | cons t ts ih =>
      intro vs ds p hr hlt h
      cases vs with
      | nil => exact h.elim
      | cons v vs =>
        cases ds with
        | nil => exact h.elim
        | cons d ds =>
          obtain ⟨p1, p2, h1, h2, rfl⟩ := h
          obtain ⟨r1, r2⟩ := hr t (List.mem_cons_self ..)
          refine ⟨p1, p2, ?_, ih (fun t ht => hr t (List.mem_cons_of_mem _ ht)) (fun x hx => hlt x (List.mem_append_right _ hx)) h2, rfl⟩
          refine WideElems.Trod_stays hl r1 r2 h1 (fun x hx => ?_) (fun x hx => by simpa using hlt x (List.mem_append_left _ hx))
          have hxb := hlt x (List.mem_append_left _ hx)
          cases x with
          | cell b o => exact World.cell?_of_block (w := W) (hb b hxb)
          | map b => exact hb b hxb
  refine ⟨ds, gs, p ++ q, [], p, [], hW, hres _ _ _, ?_, ?_, hk _, fun h => by cases h⟩
  · rw [hargs]
    exact hstay hrec (fun x hx => hlt x (List.mem_append_left _ hx)) hA
  · rw [hvars, hv]; rfl
end Go.Fsl
