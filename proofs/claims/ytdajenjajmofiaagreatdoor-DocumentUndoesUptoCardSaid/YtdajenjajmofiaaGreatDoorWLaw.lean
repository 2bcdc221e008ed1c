/- A part of our logic over the resolved code, or of a proof in it. -/
import Derived.Test.YtdajenjajmofiaaGreatDoorWAlive
import Derived.Test.YtdajenjajmofiaaGreatDoorFslFreeze
set_option linter.unusedSimpArgs false
set_option linter.unusedVariables false
namespace Go.Proofs.YtdajenjajmofiaaGreatDoor
open Go Go.Fsl
section
variable {I : CallSem} {H : Heap} {Q : D → Heap → Prop}

/-- The changes that were laid anew, by now. -/
def Mine (H H' : Heap) (v : D) (l : List Ch) : Prop :=
  HSub H H' ∧ ((v = .nils ∧ l = []) ∨ ∃ g c room, v = .v (.slice (some ⟨g, 0, none⟩) l.length c) ∧ l ≠ [] ∧ H g = none ∧ c * 5 ≤ room ∧ l.length ≤ c ∧ H' g = some (.cells (l.map Ch.d).flatten 0 room (some 27)))

theorem flat_len (l : List Ch) : (l.map Ch.d).flatten.length = l.length * 5 := by
  induction l with
  | nil => rfl
  | cons c cs ih => simp only [List.map_cons, List.flatten_cons, List.length_append, ih, Ch.d_len, List.length_cons]; omega
theorem flat_one (l : List Ch) : (l.map Ch.d).flatten.all D.one = true := by
  induction l with
  | nil => rfl
  | cons c cs ih => simp only [List.map_cons, List.flatten_cons, List.all_append, ih, Bool.and_true]; rfl

theorem law_spec (hG : Glb H) {s : ByteArray} {l : List Ch} (hok : ∀ c ∈ l, c.ok) (hs : s.size + tot l ≤ 2 ^ 30) (hl : l.length ≤ 2 ^ 30) (hQ : Q (.b true) H) : CP I (.fn 3) [.s s, .fz 5 (l.map Ch.d)] H Q := by
  refine callIs r3_is ⟨by simp [r3], by decide, by decide, ?_⟩
  simp only [r3]
  refine seq_i (reg_k fun K hK => ?_)
  simp [opsW, opW, RO.ev, Tmps.putO, wanted]
  refine hK _ _ ?_
  clear hK K
  refine seq_i (seq_i (reg_k fun K hK => ?_))
  simp [opsW, opW, RO.ev, Tmps.putO, wanted, put_get]
  refine ⟨_, _, Ghost.refl _ _ _, alive_spec hG ?_⟩
  simp [unV]
  refine hK _ _ ?_
  clear hK K
  refine cond_i (t := false) (by simp [RO.ev, put_get]) (fun h => by cases h) (fun _ => skip_i ?_)
  refine seq_i (reg_k fun K hK => ?_)
  simp [opsW, opW, RO.ev, Tmps.putO, wanted, put_get, initT]
  refine hK _ _ ?_
  clear hK K
  refine seq_i (reg_k fun K hK => ?_)
  simp [opsW, opW, RO.ev, Tmps.putO, wanted]
  refine hK _ _ ?_
  clear hK K
  refine seq_i (seq_i (reg_k fun K hK => ?_))
  simp [opsW, opW, RO.ev, Tmps.putO, wanted, put_get, initT]
  refine hK _ _ ?_
  clear hK K
  refine block_i ?_
  refine ⟨fun m τ H' => ∃ (k : Nat) (v : D), k ≤ l.length ∧ m = l.length - k ∧ τ 19 = .i k ∧ τ 18 = .i l.length ∧ τ 17 = .fz 5 (l.map Ch.d) ∧ τ 0 = .s s ∧ τ 1 = .fz 5 (l.map Ch.d) ∧ τ 5 = .i ((s.size + tot (l.take k) : Nat) : Int) ∧ τ 6 = v ∧
    Mine H H' v (l.take k), l.length,
    ⟨0, .nils, by omega, by omega, by simp [put_get, initT], by simp [put_get, initT], by simp [put_get, initT], by simp [put_get, initT], by simp [put_get, initT], by simp [put_get, initT, tot], by simp [put_get, initT], HSub.refl _, .inl ⟨rfl, rfl⟩⟩, ?_⟩
  rintro m τ H' ⟨k, v, hk, rfl, t19, t18, t17, t0, t1, t5, t6, hsub, hv⟩
  refine seq_i (reg_k fun K hK => ?_)
  simp [opsW, opW, RO.ev, Tmps.putO, wanted, binV, intB, t19, t18]
  refine hK _ _ ?_
  clear hK K
  refine seq_i (cond_i (t := decide (k < l.length)) (by simp [RO.ev, put_get]) (fun ht => ?_) (fun hf => ?_))
  · have hlt : k < l.length := by simpa using ht
    refine skip_i ?_
    have hts := tot_take_succ l k hlt
    have htl := tot_take_le l (k + 1)
    have htk : l.take (k + 1) = l.take k ++ [l[k]] := List.take_succ_eq_append_getElem hlt
    have hlen : (l.take k).length = k := by rw [List.length_take]; omega
    generalize hcc : l[k] = c at *
    refine seq_i (block_i (seq_i (reg_k fun K hK => ?_)))
    simp [opsW, opW, RO.ev, Tmps.putO, wanted, put_get, t17, t19, intD, hlt, hcc, rd_all _ 5 (Ch.d_len c)]
    intro q hq
    simp [D.cells, Ch.d, D.one, oneV, setMany, Heap.ins_ins]
    refine hK _ _ ?_
    clear hK K
    have hsubq : HSub H (H'.ins q (.cells [.i c.fr, .i c.to, .s c.old, .s c.new, .i c.cost] 0 0 (some 26))) := hsub.trans (HSub.ins _ hq)
    have hq2 : H'.ins q (.cells [.i c.fr, .i c.to, .s c.old, .s c.new, .i c.cost] 0 0 (some 26)) q = some (.cells [.i c.fr, .i c.to, .s c.old, .s c.new, .i c.cost] 0 0 (some 26)) := by simp
    have hvq : (v = .nils ∧ l.take k = []) ∨ ∃ g c' room, v = .v (.slice (some ⟨g, 0, none⟩) (l.take k).length c') ∧ l.take k ≠ [] ∧ H g = none ∧ c' * 5 ≤ room ∧ (l.take k).length ≤ c' ∧ H'.ins q (.cells [.i c.fr, .i c.to, .s c.old, .s c.new, .i c.cost] 0 0 (some 26)) g = some (.cells ((l.take k).map Ch.d).flatten 0 room (some 27)) := by
      rcases hv with h | ⟨g, c', room, e1, e2, e3, e4, e5, e6⟩
      · exact .inl h
      · refine .inr ⟨g, c', room, e1, e2, e3, e4, e5, ?_⟩
        rw [Heap.ins_other _ _ (by rintro rfl; rw [hq] at e6; cases e6)]; exact e6
    generalize H'.ins q (.cells [.i c.fr, .i c.to, .s c.old, .s c.new, .i c.cost] 0 0 (some 26)) = H2 at *
    refine seq_i (reg_k fun K hK => ?_)
    have w0 : IntKind.i64.wrap ((c.old.size : Int) + c.new.size) = ((c.old.size + c.new.size : Nat) : Int) := by rw [wrap64 (by omega) (by omega)]; omega
    have w1 : IntKind.i64.wrap (((s.size + tot (l.take k) : Nat) : Int) + ((c.old.size + c.new.size : Nat) : Int)) = ((s.size + tot (l.take (k + 1)) : Nat) : Int) := by rw [wrap64 (by omega) (by omega)]; omega
    have w1' : IntKind.i64.wrap ((s.size : Int) + (tot (l.take k) : Int) + ((c.old.size : Int) + (c.new.size : Int))) = ((s.size + tot (l.take (k + 1)) : Nat) : Int) := by rw [wrap64 (by omega) (by omega)]; omega
    simp [opsW, opW, RO.ev, Tmps.putO, wanted, put_get, t5, rd, binV, intB, hq2, w0, w1, w1']
    refine hK _ _ ?_
    clear hK K
    refine reg_k fun K hK => ?_
    simp [opsW, opW, RO.ev, Tmps.putO, wanted, put_get, t6, rd, hq2, buildCells, D.cells, D.one, oneV, setMany]
    intro g2 hg2
    have hx : srcCells (H2.ins g2 (.cells [.i c.fr, .i c.to, .s c.old, .s c.new, .i c.cost] 0 5 none)) 5 (.v (.slice (some ⟨g2, 0, none⟩) 1 1)) = some (1, [.i c.fr, .i c.to, .s c.old, .s c.new, .i c.cost]) := by simp [srcCells]
    simp [hx, D.one, oneV]
    have hsub2 : ∀ {g o1 o2}, H g = none → HSub H ((H2.ins g2 o1).ins g o2) := by
      intro g o1 o2 hg p o hp
      have n1 : p ≠ g := by rintro rfl; rw [hg] at hp; cases hp
      have n2 : p ≠ g2 := by rintro rfl; rw [hsubq _ _ hp] at hg2; cases hg2
      rw [Heap.ins_other _ _ n1, Heap.ins_other _ _ n2]; exact hsubq _ _ hp
    have no : ∀ {g}, H2 g = none → H g = none := fun {g} hg => by
      cases e : H g with
      | none => rfl
      | some o => rw [hsubq g o e] at hg; cases hg
    have wk : IntKind.i64.wrap ((k : Int) + 1) = ((k + 1 : Nat) : Int) := by rw [wrap64 (by omega) (by omega)]; omega
    have hfl : ((l.take (k + 1)).map Ch.d).flatten = ((l.take k).map Ch.d).flatten ++ [.i c.fr, .i c.to, .s c.old, .s c.new, .i c.cost] := by
      rw [htk]; simp [Ch.d]
    have hl1 : (l.take (k + 1)).length = k + 1 := by rw [List.length_take]; omega
    -- what each way of growing ends in
    have fin : ∀ (v' : D) (H3 : Heap), Mine H H3 v' (l.take (k + 1)) → ∀ τ3 : Tmps, τ3 6 = v' → τ3 19 = .i k → τ3 18 = .i l.length → τ3 17 = .fz 5 (l.map Ch.d) → τ3 0 = .s s → τ3 1 = .fz 5 (l.map Ch.d) → τ3 5 = .i ((s.size + tot (l.take (k + 1)) : Nat) : Int) → K τ3 H3 := by
      intro v' H3 hM τ3 s6 s19 s18 s17 s0 s1 s5
      refine hK _ _ ?_
      refine reg_k fun K hK => ?_
      simp [opsW, opW, RO.ev, Tmps.putO, wanted, put_get, s19, binV, intB]
      refine hK _ _ ?_
      exact ⟨l.length - (k + 1), H3, by omega, HSub.refl _, k + 1, v', by omega, rfl, by simp [put_get, wk], by simp [put_get, s18], by simp [put_get, s17], by simp [put_get, s0], by simp [put_get, s1], by simpa [put_get] using s5, by simp [put_get, s6], hM⟩
    rcases hvq with ⟨rfl, hnil⟩ | ⟨g, c', room, rfl, e2, e3, e4, e5, e6⟩
    · simp
      intro g c'' hg hc''
      have hgg : g ≠ g2 := by rintro rfl; simp at hg
      have hg' : H2 g = none := by rw [Heap.ins_other _ _ hgg] at hg; exact hg
      have hk0 : k = 0 := by rw [hnil] at hlen; simpa using hlen.symm
      refine fin _ _ ⟨hsub2 (no hg'), .inr ⟨g, c'', c'' * 5, by rw [hl1, hk0], by intro h; rw [h] at hl1; simp at hl1, no hg', Nat.le_refl _, by rw [hl1]; omega, ?_⟩⟩ _ (by simp [put_get]) (by simp [put_get, t19]) (by simp [put_get, t18]) (by simp [put_get, t17]) (by simp [put_get, t0]) (by simp [put_get, t1]) (by simp [put_get])
      rw [hfl, hnil]; simp
    · have hgg : g ≠ g2 := by rintro rfl; rw [hg2] at e6; cases e6
      have hg6 : H2.ins g2 (.cells [.i c.fr, .i c.to, .s c.old, .s c.new, .i c.cost] 0 5 none) g = some (.cells ((l.take k).map Ch.d).flatten 0 room (some 27)) := by rw [Heap.ins_other _ _ hgg]; exact e6
      have hfk := flat_len (l.take k)
      simp only [hg6]
      rw [hlen] at hfk e5 ⊢
      refine ⟨by omega, by omega, by omega, fun h1 => ⟨by omega, ?_⟩, fun h1 b' c2 hb' hc2 => ?_⟩
      · refine fin _ _ ⟨hsub2 e3, .inr ⟨g, c', room, by rw [hl1], by intro h; rw [h] at hl1; simp at hl1, e3, e4, by rw [hl1]; omega, ?_⟩⟩ _ (by simp [put_get]) (by simp [put_get, t19]) (by simp [put_get, t18]) (by simp [put_get, t17]) (by simp [put_get, t0]) (by simp [put_get, t1]) (by simp [put_get])
        rw [hfl, List.take_of_length_le (by omega)]; simp
      · have hgg' : b' ≠ g2 := by rintro rfl; simp at hb'
        have hb2 : H2 b' = none := by rw [Heap.ins_other _ _ hgg'] at hb'; exact hb'
        refine fin _ _ ⟨hsub2 (no hb2), .inr ⟨b', c2, c2 * 5, by rw [hl1], by intro h; rw [h] at hl1; simp at hl1, no hb2, Nat.le_refl _, by rw [hl1]; omega, ?_⟩⟩ _ (by simp [put_get]) (by simp [put_get, t19]) (by simp [put_get, t18]) (by simp [put_get, t17]) (by simp [put_get, t0]) (by simp [put_get, t1]) (by simp [put_get])
        rw [hfl, List.drop_zero, List.take_of_length_le (by omega)]; simp
  · have hkl : k = l.length := by
      have : ¬ k < l.length := by simpa using hf
      omega
    subst hkl
    rw [List.take_length] at t5 hv
    refine exit_i ?_
    have hbig : ∀ {τ' : Tmps} {H' : Heap}, HSub H H' → τ' 43 = .b true → wp Tryz.prog (CP I) none 64 (.cond (.t 43) (.seq (.reg [⟨(some 4), .mov (.c (.b true)), none, []⟩]) (.ret)) (.skip)) τ' H' (fun x τ H' => match x with
        | .n => False
        | x => (x = .n ∨ x = .r) ∧ ∃ r, resD τ H' [.t 4] = some r ∧ ∃ r' H1, Ghost Tryz.prog [r] H' [r'] H1 ∧ Q r' H1) := by
      intro τ' H' hs h43
      refine cond_i (t := true) (by simp [RO.ev, h43]) (fun _ => ?_) (fun h => by cases h)
      refine seq_i (reg_k fun K hK => ?_)
      simp [opsW, opW, RO.ev, Tmps.putO, wanted]
      refine hK _ _ (ret_i ⟨.inr rfl, .b true, by simp [resD, resOne, put_get], .b true, H, Ghost.drop _ _ hs, hQ⟩)
    refine seq_i (seq_i (reg_k fun K hK => ?_))
    by_cases h1 : 100 < l.length
    · have h1' : (100 : Int) < l.length := by omega
      simp [opsW, opW, RO.ev, Tmps.putO, wanted, put_get, t1, binV, intB, h1']
      refine hK _ _ ?_
      refine Go.Fsl.wp_mono (Go.Fsl.Call.mono _ _) (fun x τ H h => ?_) (hbig hsub (by simp [put_get]))
      cases x with
      | n => exact h.elim
      | x id => exact h
      | r => exact h
    · have h1' : ¬ (100 : Int) < l.length := by omega
      by_cases h2 : 5000 < s.size + tot l
      · have h2' : (5000 : Int) < (s.size : Int) + tot l := by omega
        simp [opsW, opW, RO.ev, Tmps.putO, wanted, put_get, t1, t5, binV, intB, h1', h2']
        refine hK _ _ ?_
        refine Go.Fsl.wp_mono (Go.Fsl.Call.mono _ _) (fun x τ H h => ?_) (hbig hsub (by simp [put_get]))
        cases x with
        | n => exact h.elim
        | x id => exact h
        | r => exact h
      · have h2' : ¬ (5000 : Int) < (s.size : Int) + tot l := by omega
        simp [opsW, opW, RO.ev, Tmps.putO, wanted, put_get, t1, t5, binV, intB, h1', h2']
        refine hK _ _ ?_
        clear hK K
        refine cond_i (t := false) (by simp [RO.ev, put_get]) (fun h => by cases h) (fun _ => skip_i ?_)
        refine seq_i (reg_k fun K hK => ?_)
        simp [opsW, opW, RO.ev, Tmps.putO, wanted, put_get, t0, t6]
        obtain ⟨H2, hfz, hs2⟩ : ∃ H2, Ghost Tryz.prog [.s s, v] H' [.s s, .fz 5 (l.map Ch.d)] H2 ∧ HSub H H2 := by
          rcases hv with ⟨rfl, rfl⟩ | ⟨g, c, room, rfl, e2, e3, e4, e5, e6⟩
          · exact ⟨H', Ghost.freeze_nil Tryz.prog (pre := [.s s]) (post := []) 5, hsub⟩
          · refine ⟨H'.era g, Ghost.freeze Tryz.prog (pre := [.s s]) (post := []) e6 (Nat.zero_le _) rfl (by simp) (by simp [Ch.d]) e5, fun p o hp => ?_⟩
            have n1 : p ≠ g := by rintro rfl; rw [e3] at hp; cases hp
            simp only [Heap.era, if_neg n1]
            exact hsub p o hp
        refine ⟨_, _, hfz, docUndo_spec hok hs hl ?_⟩
        have hR : ∃ a e, undoD (undoF l s.data.toList 0 []) = .tup [.s a, .i e] := by
          cases undoF l s.data.toList 0 [] with
          | none => exact ⟨_, _, rfl⟩
          | some r => exact ⟨_, _, rfl⟩
        obtain ⟨a, e, hR⟩ := hR
        rw [hR]
        simp [put_get]
        refine hK _ _ ?_
        clear hK K
        refine seq_i (reg_k fun K hK => ?_)
        simp [opsW, opW, RO.ev, Tmps.putO, wanted, put_get, t0, t1]
        refine ⟨_, _, Ghost.refl _ _ _, refUndo_spec hok hs hl ?_⟩
        rw [hR]
        simp [put_get]
        refine hK _ _ ?_
        clear hK K
        refine seq_i (reg_k fun K hK => ?_)
        simp [opsW, opW, RO.ev, Tmps.putO, wanted, put_get, binV, intB, strB]
        refine hK _ _ (ret_i ⟨.inr rfl, .b true, by simp [resD, resOne, put_get], .b true, H, Ghost.drop _ _ hs2, hQ⟩)
end
end Go.Proofs.YtdajenjajmofiaaGreatDoor
