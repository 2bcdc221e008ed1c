/- A part of our logic over the resolved code, or of a proof in it. -/
import Derived.Test.YtdajenjajmofiaaGreatDoorFslSound7
set_option linter.unusedSimpArgs false
set_option linter.unusedVariables false
namespace Go.Fsl
variable {P : Program} {F : Fz} {w : World} {H : Heap} {n : Nat} {τ : Tmps} {a : Act} {K : D → Heap → Prop} {C : CallSem} {o : Oper}

def eqVs : List BK → List Value → List Value → Option Bool
  | [], [], [] => some true
  | k :: ks, x :: xs, y :: ys => match rawEq k x y with
    | some true => eqVs ks xs ys
    | some false => match eqVs ks xs ys with | some _ => some false | none => none
    | none => none
  | _, _, _ => none

theorem VRs.tail {d : D} {v : Value} {ds : List D} {vs : List Value} (h : VRs F w (d :: ds) (v :: vs)) : VR F w d v ∧ VRs F w ds vs :=
  ⟨h.2 0 (by simp) (by simp), by have := h.1; simpa using this, fun i p q => h.2 (i + 1) (by simpa using p) (by simpa using q)⟩

theorem cellEq_raw {k : BK} {d e : D} {x y : Value} {r : Bool} (h : cellEq k d e = some r) (hx : VR F w d x) (hy : VR F w e y) : rawEq k x y = some r := by
  cases hx with
  | v => cases hy with
    | v => exact h
    | _ => simp [cellEq] at h
  | _ => cases hy <;> simp [cellEq] at h

theorem cellsEq_raw : ∀ {ks : List BK} {ds es : List D} {xs ys : List Value} {r : Bool}, cellsEq ks ds es = some r → VRs F w ds xs → VRs F w es ys → eqVs ks xs ys = some r
  | [], [], [], xs, ys, r, h, hx, hy => by
    have h1 : xs = [] := List.eq_nil_of_length_eq_zero hx.1
    have h2 : ys = [] := List.eq_nil_of_length_eq_zero hy.1
    subst h1 h2
    exact h
  | k :: ks, d :: ds, e :: es, [], _, _, _, hx, _ => by have := hx.1; simp at this
  | k :: ks, d :: ds, e :: es, _ :: _, [], _, _, _, hy => by have := hy.1; simp at this
  | k :: ks, d :: ds, e :: es, x :: xs, y :: ys, r, h, hx, hy => by
    obtain ⟨hx1, hx2⟩ := hx.tail
    obtain ⟨hy1, hy2⟩ := hy.tail
    simp only [cellsEq] at h
    cases hc : cellEq k d e with
    | none => rw [hc] at h; cases h
    | some b =>
      rw [hc] at h
      have hr := cellEq_raw hc hx1 hy1
      simp only [eqVs, hr]
      cases b with
      | true => exact cellsEq_raw h hx2 hy2
      | false =>
        simp only at h ⊢
        cases hrest : cellsEq ks ds es with
        | none => rw [hrest] at h; cases h
        | some b' =>
          rw [hrest] at h
          rw [cellsEq_raw hrest hx2 hy2]
          exact h
  | [], _ :: _, _, _, _, _, h, _, _ => by simp [cellsEq] at h
  | [], [], _ :: _, _, _, _, h, _, _ => by simp [cellsEq] at h
  | _ :: _, [], _, _, _, _, h, _, _ => by simp [cellsEq] at h
  | _ :: _, _ :: _, [], _, _, _, h, _, _ => by simp [cellsEq] at h

theorem eqVs_length : ∀ {ks : List BK} {as bs : List Value} {r : Bool}, eqVs ks as bs = some r → as.length = ks.length ∧ bs.length = ks.length
  | [], [], [], _, _ => ⟨rfl, rfl⟩
  | k :: ks, x :: xs, y :: ys, r, h => by
    simp only [eqVs] at h
    cases hr : rawEq k x y with
    | none => rw [hr] at h; cases h
    | some b =>
      rw [hr] at h
      have : ∃ r', eqVs ks xs ys = some r' := by
        cases b with
        | true => exact ⟨r, h⟩
        | false =>
          simp only at h
          cases hq : eqVs ks xs ys with
          | none => rw [hq] at h; cases h
          | some b' => exact ⟨b', rfl⟩
      obtain ⟨r', hr'⟩ := this
      obtain ⟨h1, h2⟩ := eqVs_length hr'
      exact ⟨by simp [h1], by simp [h2]⟩
  | [], _ :: _, _, _, h => by simp [eqVs] at h
  | [], [], _ :: _, _, h => by simp [eqVs] at h
  | _ :: _, [], _, _, h => by simp [eqVs] at h
  | _ :: _, _ :: _, [], _, h => by simp [eqVs] at h

theorem eqVs_append : ∀ {ks ks' : List BK} {as bs : List Value} {r : Bool}, eqVs (ks ++ ks') as bs = some r →
    ∃ r1 r2, eqVs ks (as.take ks.length) (bs.take ks.length) = some r1 ∧ eqVs ks' (as.drop ks.length) (bs.drop ks.length) = some r2 ∧ r = (r1 && r2)
  | [], ks', as, bs, r, h => ⟨true, r, rfl, by simpa using h, by simp⟩
  | k :: ks, ks', [], bs, r, h => by have := (eqVs_length h).1; simp at this
  | k :: ks, ks', _ :: _, [], r, h => by have := (eqVs_length h).2; simp at this
  | k :: ks, ks', x :: as, y :: bs, r, h => by
    simp only [List.cons_append, eqVs] at h
    simp only [List.length_cons, List.take_succ_cons, List.drop_succ_cons, eqVs]
    cases hr : rawEq k x y with
    | none => rw [hr] at h; cases h
    | some b =>
      rw [hr] at h
      cases b with
      | true => exact eqVs_append h
      | false =>
        simp only at h ⊢
        cases hrest : eqVs (ks ++ ks') as bs with
        | none => rw [hrest] at h; cases h
        | some b' =>
          rw [hrest] at h
          cases h
          obtain ⟨r1, r2, h1, h2, _⟩ := eqVs_append hrest
          exact ⟨false, r2, by rw [h1], h2, by simp⟩

/-- The value whose cells these are. -/
def valOf (g : Bool) (l : List Value) : Value := if g then .agg l.toArray else l.headD undef

theorem run_part {t : TypeId} {g : Bool} {k : Nat} (hg : aggT P t = some g) (hk : szT P t = some k) {xs : List Value} {off : Nat} (hle : off + k ≤ xs.length) (h1 : g = false → k = 1) (w : World) :
    (part t xs.toArray off).run P w = .ok (valOf g ((xs.drop off).take k)) w := by
  cases g with
  | true =>
    simp [part, run_isAgg hg, run_sizeOf hk, valOf]
  | false =>
    have hk1 := h1 rfl
    subst hk1
    have hlt : off < xs.length := by omega
    have : (xs.drop off).take 1 = [xs[off]] := by rw [List.drop_eq_getElem_cons hlt]; rfl
    simp [part, run_isAgg hg, hlt, valOf, this]

theorem flatN_info {d : Nat} {t : TypeId} {k : List BK} (h : flatN P d t = some k) : ∃ g, aggT P t = some g ∧ szT P t = some k.length ∧ (g = false → k.length = 1) := by
  cases d with
  | zero => simp [flatN] at h
  | succ d =>
    simp only [flatN] at h
    split at h
    · rename_i hu
      split at h
      · rename_i hs; cases h; exact ⟨false, by simp [aggT, hu], hs, fun _ => rfl⟩
      · cases h
    · rename_i kk hu
      split at h
      · rename_i hs; cases h; exact ⟨false, by simp [aggT, hu], hs, fun _ => rfl⟩
      · cases h
    · rename_i hu
      split at h
      · rename_i hs; cases h; exact ⟨false, by simp [aggT, hu], hs, fun _ => rfl⟩
      · cases h
    · rename_i fs hu
      split at h
      · cases h
      · split at h
        · split at h
          · rename_i hs; cases h; exact ⟨true, by simp [aggT, hu], hs, by simp⟩
          · cases h
        · cases h
    · cases h

theorem eqFields_flat {d e : Nat} (ih : ∀ (t : TypeId) (k : List BK) (g : Bool), flatN P d t = some k → aggT P t = some g → ∀ (as bs : List Value) (r : Bool),
    eqVs k as bs = some r → (Op.equalIn e t (valOf g as) (valOf g bs)).run P w = .ok r w) (xs ys : List Value) :
    ∀ (fs : List Field) (acc : Nat) (k : List BK) (r : Bool), acc ≤ xs.length → acc ≤ ys.length → flatFs (flatN P d) fs acc = some k → eqVs k (xs.drop acc) (ys.drop acc) = some r →
    (Op.eqFields e xs.toArray ys.toArray fs).run P w = .ok r w
  | [], acc, k, r, _, _, h, hr => by
    simp only [flatFs] at h
    cases h
    cases hx : xs.drop acc with
    | nil => cases hy : ys.drop acc with
      | nil => rw [hx, hy] at hr; cases hr; simp [Op.eqFields]
      | cons _ _ => rw [hx, hy] at hr; cases hr
    | cons _ _ => rw [hx] at hr; cases hr
  | f :: fs, acc, k, r, ha, hb, h, hr => by
    simp only [flatFs] at h
    split at h
    · cases h
    · rename_i hname
      have hn1 : f.name ≠ "_" := fun e => hname (.inl e)
      have hn2 : f.offset = acc := Classical.byContradiction fun e => hname (.inr e)
      cases hk : flatN P d f.type with
      | none => rw [hk] at h; cases h
      | some kf =>
        rw [hk] at h
        simp only [Option.map_eq_some_iff] at h
        obtain ⟨krest, hrest, rfl⟩ := h
        obtain ⟨r1, r2, e1, e2, rfl⟩ := eqVs_append hr
        obtain ⟨g, hg, hs, h1⟩ := flatN_info hk
        have hl := eqVs_length hr
        simp only [List.length_append, List.length_drop] at hl
        have hle1 : f.offset + kf.length ≤ xs.length := by omega
        have hle2 : f.offset + kf.length ≤ ys.length := by omega
        simp only [Op.eqFields, if_pos hn1, Sem.run_bind, run_part hg hs hle1 h1, run_part hg hs hle2 h1, Result.andThen_ok]
        rw [hn2, ih f.type kf g hk hg _ _ r1 e1]
        simp only [Result.andThen_ok]
        cases r1 with
        | false => simp
        | true =>
          simp only [Bool.not_true, Bool.false_eq_true, if_false, Bool.true_and]
          rw [List.drop_drop] at e2
          rw [List.drop_drop] at e2
          exact eqFields_flat ih xs ys fs (acc + kf.length) krest r2 (by omega) (by omega) hrest e2

theorem equal_flat : ∀ (d : Nat) (t : TypeId) (k : List BK) (g : Bool) (e : Nat), d ≤ e → flatN P d t = some k → aggT P t = some g → ∀ (as bs : List Value) (r : Bool),
    eqVs k as bs = some r → (Op.equalIn e t (valOf g as) (valOf g bs)).run P w = .ok r w
  | 0, t, k, g, e, _, h, _, _, _, _, _ => by simp [flatN] at h
  | d + 1, t, k, g, 0, he, _, _, _, _, _, _ => absurd he (by omega)
  | d + 1, t, k, g, e + 1, he, h, hg, as, bs, r, hr => by
    have one : ∀ {bk : BK}, k = [bk] → ∃ x y, as = [x] ∧ bs = [y] ∧ rawEq bk x y = some r := by
      rintro bk rfl
      have hl := eqVs_length hr
      obtain ⟨x, rfl⟩ := List.length_eq_one_iff.1 hl.1
      obtain ⟨y, rfl⟩ := List.length_eq_one_iff.1 hl.2
      refine ⟨x, y, rfl, rfl, ?_⟩
      simp only [eqVs] at hr
      cases hq : rawEq bk x y with
      | none => rw [hq] at hr; cases hr
      | some c => rw [hq] at hr; cases c <;> exact hr
    simp only [flatN] at h
    split at h
    · rename_i hu
      split at h
      · cases h
        obtain ⟨x, y, rfl, rfl, hq⟩ := one rfl
        have : g = false := by simp [aggT, hu] at hg; exact hg
        subst this
        cases x <;> cases y <;> simp [rawEq] at hq
        subst hq
        simp [valOf, Op.equalIn, run_underlying hu]
      · cases h
    · rename_i kk hu
      split at h
      · cases h
        obtain ⟨x, y, rfl, rfl, hq⟩ := one rfl
        have : g = false := by simp [aggT, hu] at hg; exact hg
        subst this
        cases x <;> cases y <;> simp [rawEq] at hq
        obtain ⟨hq1, hq2⟩ := hq
        subst hq1 hq2
        simp [valOf, Op.equalIn, run_underlying hu]
      · cases h
    · rename_i hu
      split at h
      · cases h
        obtain ⟨x, y, rfl, rfl, hq⟩ := one rfl
        have : g = false := by simp [aggT, hu] at hg; exact hg
        subst this
        cases x <;> cases y <;> simp [rawEq] at hq
        subst hq
        simp [valOf, Op.equalIn, run_underlying hu]
      · cases h
    · rename_i fs hu
      split at h
      · cases h
      · rename_i hst
        split at h
        · rename_i kk hf
          split at h
          · cases h
            have : g = true := by simp [aggT, hu] at hg; exact hg
            subst this
            have hfs : P.fieldsOf t = fs := by simp [Program.fieldsOf, hu]
            simp only [valOf, if_true]
            rw [run_equalIn_struct w e t _ _ (by rw [hfs]; exact hu) (by simpa using hst), hfs]
            exact eqFields_flat (fun t k g h1 h2 => equal_flat d t k g e (by omega) h1 h2) as bs fs.toList 0 k r (by omega) (by omega) hf (by simpa using hr)
          · cases h
        · cases h
    · cases h

theorem valOf_agg (l : Array Value) : valOf true l.toList = .agg l := by simp [valOf]

theorem equal_key {t : TypeId} {ks : List BK} (h : flatN P 20 t = some ks) (hg : aggT P t = some true) {xs ys : Array Value} {r : Bool}
    (hr : eqVs ks xs.toList ys.toList = some r) : (Op.equalIn 10000 t (.agg xs) (.agg ys)).run P w = .ok r w := by
  have := equal_flat (w := w) 20 t ks true 10000 (by omega) h hg xs.toList ys.toList r hr
  simpa only [valOf_agg] using this
end Go.Fsl
