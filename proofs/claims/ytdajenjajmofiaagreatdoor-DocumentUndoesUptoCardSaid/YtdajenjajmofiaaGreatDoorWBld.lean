/- A part of our logic over the resolved code, or of a proof in it. -/
import Derived.Test.YtdajenjajmofiaaGreatDoorWCodeB
set_option linter.unusedSimpArgs false
set_option linter.unusedVariables false
namespace Go.Proofs.YtdajenjajmofiaaGreatDoor
open Go Go.Fsl

/-- What a call of the program is. -/
abbrev CP (I : CallSem) : CallSem := Go.Fsl.Call Tryz.prog I
theorem callIs {I : CallSem} {f : Nat} {fn : RFn} (h : IsFn Tryz.prog f fn) {args : List D} {H : Heap} {Q : D → Heap → Prop} (hb : bodyW Tryz.prog (CP I) fn args H Q) : CP I (.fn f) args H Q := by
  obtain ⟨fd, h1, h2⟩ := h
  exact call_fn h1 h2 hb

/-- A builder: its block, and what it holds; nothing of H0 is its own. -/
def Bld (H0 H : Heap) (b : Nat) (out : List UInt8) : Prop :=
  HSub H0 H ∧ H0 b = none ∧ ∃ addr v, H b = some (.cells [addr, v] 0 0 (some 62)) ∧ (addr = .nilp ∨ addr = .ptr b 0) ∧
    ((v = .nils ∧ out = []) ∨ ∃ g c room, v = .v (.slice (some ⟨g, 0, none⟩) out.length c) ∧ out ≠ [] ∧ H0 g = none ∧ g ≠ b ∧ c ≤ room ∧ out.length ≤ c ∧ H g = some (.cells (out.map byteD) 0 room (some 5)))

theorem Bld.ins {H0 H : Heap} {b : Nat} {out : List UInt8} (h : Bld H0 H b out) {q : Nat} (hq : H q = none) (o : O) : Bld (H0.ins q o) (H.ins q o) b out := by
  obtain ⟨h1, h2, addr, v, h3, h4, h5⟩ := h
  have hqb : b ≠ q := by rintro rfl; rw [hq] at h3; cases h3
  refine ⟨fun c p hc => ?_, by rw [Heap.ins_other _ _ hqb]; exact h2, addr, v, by rw [Heap.ins_other _ _ hqb]; exact h3, h4, ?_⟩
  · by_cases e : c = q
    · subst e; simpa using hc
    · rw [Heap.ins_other _ _ e] at hc ⊢; exact h1 c p hc
  · rcases h5 with h5 | ⟨g, c, room, e1, e2, e3, e4, e5, e6, e7⟩
    · exact .inl h5
    · have hqg : g ≠ q := by rintro rfl; rw [hq] at e7; cases e7
      exact .inr ⟨g, c, room, e1, e2, by rw [Heap.ins_other _ _ hqg]; exact e3, e4, e5, e6, by rw [Heap.ins_other _ _ hqg]; exact e7⟩
theorem Bld.sub {H0 H1 H : Heap} {b : Nat} {out : List UInt8} (h : Bld H1 H b out) (hs : HSub H0 H1) : Bld H0 H b out := by
  have no : ∀ {c}, H1 c = none → H0 c = none := fun {c} hc => by
    cases e : H0 c with
    | none => rfl
    | some o => rw [hs c o e] at hc; cases hc
  obtain ⟨h1, h2, addr, v, h3, h4, h5⟩ := h
  refine ⟨hs.trans h1, no h2, addr, v, h3, h4, ?_⟩
  rcases h5 with h5 | ⟨g, c, room, e1, e2, e3, e4⟩
  · exact .inl h5
  · exact .inr ⟨g, c, room, e1, e2, no e3, e4⟩

section
variable {I : CallSem} {H0 H : Heap} {b : Nat} {Q : D → Heap → Prop}

theorem copyCheck_spec {addr v : D} (h : H b = some (.cells [addr, v] 0 0 (some 62))) (ha : addr = .nilp ∨ addr = .ptr b 0) (hQ : Q .undef (H.ins b (.cells [.ptr b 0, v] 0 0 (some 62)))) :
    CP I (.fn 46) [.ptr b 0] H Q := by
  refine callIs r46_is ⟨by simp [r46], by decide, by decide, ?_⟩
  simp only [r46]
  refine seq_i (reg_k fun K hK => ?_)
  rcases ha with rfl | rfl
  · simp [opsW, opW, RO.ev, Tmps.putO, wanted, initT, put_get, h, rd]
    refine hK _ _ ?_
    clear hK K
    refine cond_i (t := true) (by simp [RO.ev, put_get]) (fun _ => ?_) (fun h => by cases h)
    refine reg_k fun K hK => ?_
    simp [opsW, opW, RO.ev, Tmps.putO, wanted, initT, put_get, h, rd, extV, D.cells, oneV, D.one, setMany]
    refine hK _ _ ?_
    exact ⟨.inl rfl, .undef, by simp [resD], _, _, Ghost.refl _ _ _, hQ⟩
  · simp [opsW, opW, RO.ev, Tmps.putO, wanted, initT, put_get, h, rd]
    refine hK _ _ ?_
    clear hK K
    refine cond_i (t := false) (by simp [RO.ev, put_get]) (fun h => by cases h) (fun _ => ?_)
    refine seq_i (reg_k fun K hK => ?_)
    simp [opsW, opW, RO.ev, Tmps.putO, wanted, initT, put_get, h, rd]
    refine hK _ _ ?_
    clear hK K
    refine cond_i (t := false) (by simp [RO.ev, put_get]) (fun h => by cases h) (fun _ => skip_i ?_)
    have e : H.ins b (.cells [.ptr b 0, v] 0 0 (some 62)) = H := by
      funext c
      simp only [Heap.ins]
      split
      · rename_i hc; rw [hc, h]
      · rfl
    rw [e] at hQ
    exact ⟨.inl rfl, .undef, by simp [resD], _, _, Ghost.refl _ _ _, hQ⟩

theorem byteD_all (l : List UInt8) : (l.map byteD).all D.one = true := by
  simp [List.all_eq_true, byteD, D.one, oneV]

theorem WriteString_spec {out : List UInt8} {s : ByteArray} (h : Bld H0 H b out) (hsz : out.length + s.size ≤ 2 ^ 46) (hQ : ∀ H', Bld H0 H' b (out ++ s.data.toList) → Q (.tup [.i s.size, .v .nilIface]) H') :
    CP I (.fn 17) [.ptr b 0, .s s] H Q := by
  obtain ⟨h1, h2, addr, v, h3, h4, h5⟩ := h
  refine callIs r17_is ⟨by simp [r17], by decide, by decide, ?_⟩
  simp only [r17]
  refine seq_i (reg_k fun K hK => ?_)
  simp [opsW, opW, RO.ev, Tmps.putO, wanted, initT, put_get]
  refine hK _ _ ?_
  clear hK K
  refine seq_i (reg_k fun K hK => ?_)
  simp [opsW, opW, RO.ev, Tmps.putO, wanted, initT, put_get]
  refine ⟨_, _, Ghost.refl _ _ _, copyCheck_spec h3 h4 ?_⟩
  refine hK _ _ ?_
  clear hK K
  have hlen : s.size = s.data.toList.length := rfl
  have hsub : ∀ {g : Nat} {o1 o2 : O}, H0 g = none → HSub H0 ((H.ins b o1).ins g o2) := by
    intro g o1 o2 hg c p hc
    have e1 : c ≠ g := by rintro rfl; rw [hg] at hc; cases hc
    have e2 : c ≠ b := by rintro rfl; rw [h2] at hc; cases hc
    rw [Heap.ins_other _ _ e1, Heap.ins_other _ _ e2]
    exact h1 c p hc
  have no : ∀ {g : Nat}, H g = none → H0 g = none := by
    intro g hg
    cases e : H0 g with
    | none => rfl
    | some o => rw [h1 g o e] at hg; cases hg
  have fin : ∀ {τ : Tmps} {H' : Heap}, Bld H0 H' b (out ++ s.data.toList) → τ 1 = .s s → wp Tryz.prog (CP I) none 19 (.seq (.reg [
    ⟨(some 17), .mov (.t 1), none, []⟩,
    ⟨(some 18), .len true (.t 17), none, []⟩,
    ⟨(some 4), .mov (.t 18), none, []⟩,
    ⟨(some 5), .mov (.c (.v (.nilIface))), none, []⟩])
  (.ret)) τ H' (fun x τ H' => (x = .n ∨ x = .r) ∧ ∃ r, resD τ H' [.t 4, .t 5] = some r ∧ ∃ r' H1, Ghost Tryz.prog [r] H' [r'] H1 ∧ Q r' H1) := by
    intro τ H' hB ht
    refine seq_i (reg_k fun K hK => ?_)
    simp [opsW, opW, RO.ev, Tmps.putO, wanted, put_get, ht]
    refine hK _ _ ?_
    exact ⟨.inr rfl, _, rfl, _, _, Ghost.refl _ _ _, by simpa [put_get] using hQ _ hB⟩
  generalize hL : s.data.toList = L at *
  refine seq_i (reg_k fun K hK => ?_)
  rcases h5 with ⟨rfl, rfl⟩ | ⟨g, c, room, rfl, e2, e3, e4, e5, e6, e7⟩
  · simp [-List.all_map, opsW, opW, RO.ev, Tmps.putO, wanted, initT, put_get, rd, srcCells, hL, hlen, byteD_all]
    refine ⟨fun h0 => ?_, fun h0 => ⟨by simpa [hlen] using hsz, fun g c hg hc => ?_⟩⟩
    · subst h0
      simp [D.cells, oneV, D.one, setMany, Heap.ins_ins]
      refine hK _ _ ?_
      refine fin ⟨?_, h2, .ptr b 0, .nils, by simp, .inr rfl, .inl ⟨rfl, rfl⟩⟩ (by simp [put_get, initT])
      intro c p hc
      have e2 : c ≠ b := by rintro rfl; rw [h2] at hc; cases hc
      rw [Heap.ins_other _ _ e2]; exact h1 c p hc
    · have hgb : g ≠ b := by rintro rfl; simp at hg
      have hgH : H g = none := by rw [Heap.ins_other _ _ hgb] at hg; exact hg
      simp [Heap.ins_other _ _ (Ne.symm hgb), D.cells, oneV, D.one, setMany]
      refine hK _ _ ?_
      rw [Heap.ins_comm _ _ _ (Ne.symm hgb), Heap.ins_ins, ← Heap.ins_comm _ _ _ (Ne.symm hgb)]
      refine fin ⟨hsub (no hgH), h2, .ptr b 0, _, by rw [Heap.ins_other _ _ (Ne.symm hgb)]; simp, .inr rfl, .inr ⟨g, c, c, rfl, by intro hh; simp at hh; simp [hh] at h0, no hgH, hgb, Nat.le_refl _, hc, by simp⟩⟩ (by simp [put_get, initT])
  · have hcb : H.ins b (.cells [.ptr b 0, .v (.slice (some ⟨g, 0, none⟩) out.length c)] 0 0 (some 62)) g = some (.cells (out.map byteD) 0 room (some 5)) := by rw [Heap.ins_other _ _ e4]; exact e7
    simp [-List.all_map, opsW, opW, RO.ev, Tmps.putO, wanted, initT, put_get, rd, srcCells, hL, hlen, byteD_all, hcb, e5]
    refine ⟨by simpa [hlen] using hsz, fun h0 hk => ?_, fun h0 hk => ?_, fun h0 b' c' hb' hc' => ?_⟩
    · subst hk
      simp [D.cells, oneV, D.one, setMany, Heap.ins_ins]
      refine hK _ _ ?_
      refine fin ⟨?_, h2, .ptr b 0, _, by simp; rfl, .inr rfl, .inr ⟨g, c, room, by simp, by simpa using e2, e3, e4, e5, by simpa using e6, by rw [Heap.ins_other _ _ e4]; simpa using e7⟩⟩ (by simp [put_get, initT])
      intro q p hc
      have e2 : q ≠ b := by rintro rfl; rw [h2] at hc; cases hc
      rw [Heap.ins_other _ _ e2]; exact h1 q p hc
    · simp [Heap.ins_other _ _ (Ne.symm e4), D.cells, oneV, D.one, setMany]
      refine hK _ _ ?_
      rw [Heap.ins_comm _ _ _ (Ne.symm e4), Heap.ins_ins, ← Heap.ins_comm _ _ _ (Ne.symm e4)]
      refine fin ⟨hsub e3, h2, .ptr b 0, _, by rw [Heap.ins_other _ _ (Ne.symm e4)]; simp; rfl, .inr rfl, .inr ⟨g, c, room, by simp, by simp [e2], e3, e4, e5, by simpa using h0, by simp [List.take_of_length_le]⟩⟩ (by simp [put_get, initT])
    · have hgb : b' ≠ b := by rintro rfl; simp at hb'
      have hgH : H b' = none := by rw [Heap.ins_other _ _ hgb] at hb'; exact hb'
      simp [Heap.ins_other _ _ (Ne.symm hgb), D.cells, oneV, D.one, setMany]
      refine hK _ _ ?_
      rw [Heap.ins_comm _ _ _ (Ne.symm hgb), Heap.ins_ins, ← Heap.ins_comm _ _ _ (Ne.symm hgb)]
      refine fin ⟨hsub (no hgH), h2, .ptr b 0, _, by rw [Heap.ins_other _ _ (Ne.symm hgb)]; simp; rfl, .inr rfl, .inr ⟨b', c', c', by simp, by simp [e2], no hgH, hgb, Nat.le_refl _, by simpa using hc', by simp [List.take_of_length_le]⟩⟩ (by simp [put_get, initT])

/-- String: the builder is let go. -/
theorem String_spec {out : List UInt8} (h : Bld H0 H b out) (hsz : out.length < 2 ^ 62) (hQ : ∀ H', HSub H0 H' → Q (.s ⟨out.toArray⟩) H') : CP I (.fn 19) [.ptr b 0] H Q := by
  obtain ⟨h1, h2, addr, v, h3, h4, h5⟩ := h
  refine callIs r19_is ⟨by simp [r19], by decide, by decide, ?_⟩
  simp only [r19]
  refine seq_i (reg_k fun K hK => ?_)
  simp [opsW, opW, RO.ev, Tmps.putO, wanted, initT, put_get]
  refine hK _ _ ?_
  clear hK K
  refine seq_i (reg_k fun K hK => ?_)
  rcases h5 with ⟨rfl, rfl⟩ | ⟨g, c, room, rfl, e2, e3, e4, e5, e6, e7⟩
  · simp [opsW, opW, RO.ev, Tmps.putO, wanted, initT, put_get, rd, h3, intD]
    refine hK _ _ (ret_i ⟨.inr rfl, _, rfl, _, _, Ghost.refl _ _ _, ?_⟩)
    have : Q (.s .empty) H := hQ H h1
    simpa [put_get] using this
  · have hpos : 0 < out.length := List.length_pos_iff.2 e2
    have hl0 : out.length ≠ 0 := by omega
    simp [opsW, opW, RO.ev, Tmps.putO, wanted, initT, put_get, rd, h3, intD, e7, e2]
    refine ⟨by omega, by omega, out, by rw [List.take_of_length_le (by simp)], ?_⟩
    refine hK _ _ (ret_i ⟨.inr rfl, _, rfl, _, _, Ghost.refl _ _ _, ?_⟩)
    have := hQ (H.era g) (fun c p hc => by
      have : c ≠ g := by rintro rfl; rw [e3] at hc; cases hc
      simp only [Heap.era, if_neg this]
      exact h1 c p hc)
    simpa [put_get] using this

theorem ba_list (a b : ByteArray) : (a.data.toList == b.data.toList) = decide (a = b) := by
  rw [Bool.eq_iff_iff, beq_iff_eq, decide_eq_true_iff]
  constructor
  · intro h; exact ByteArray.ext (Array.toList_inj.1 h)
  · rintro rfl; rfl
theorem ex_list (s : ByteArray) (a b : Nat) : (s.extract a b).data.toList = (s.data.toList.take b).drop a := by
  simp [List.extract, List.drop_take]
theorem lEq (s t : ByteArray) : (List.take t.size s.data.toList == t.data.toList) = decide (s.extract 0 t.size = t) := by
  rw [← ba_list, ex_list]
  simp
theorem HasPrefix_spec {s t : ByteArray} (hQ : Q (.b (decide (t.size ≤ s.size) && decide (s.extract 0 t.size = t))) H) : CP I (.fn 18) [.s s, .s t] H Q := by
  refine callIs r18_is ⟨by simp [r18], by decide, by decide, ?_⟩
  simp only [r18]
  refine seq_i (reg_k fun K hK => ?_)
  simp [opsW, opW, RO.ev, Tmps.putO, wanted, initT, put_get]
  refine hK _ _ ?_
  clear hK K
  refine seq_i (reg_k fun K hK => ?_)
  simp [opsW, opW, RO.ev, Tmps.putO, wanted, initT, put_get]
  refine ⟨_, _, Ghost.refl _ _ _, ?_⟩
  refine callIs r47_is ⟨by simp [r47], by decide, by decide, ?_⟩
  simp only [r47]
  refine seq_i (reg_k fun K1 hK1 => ?_)
  simp [opsW, opW, RO.ev, Tmps.putO, wanted, initT, put_get]
  refine hK1 _ _ ?_
  clear hK1 K1
  refine seq_i (reg_k fun K1 hK1 => ?_)
  by_cases hle : t.size ≤ s.size
  · simp [opsW, opW, RO.ev, Tmps.putO, wanted, initT, put_get, binV, intB, strB, hle, optInt, intD]
    refine hK1 _ _ (ret_i ⟨.inr rfl, _, rfl, _, _, Ghost.refl _ _ _, ?_⟩)
    simp [put_get]
    refine hK _ _ (ret_i ⟨.inr rfl, _, rfl, _, _, Ghost.refl _ _ _, ?_⟩)
    simp [put_get]
    simp [hle] at hQ
    rw [lEq]
    exact hQ
  · simp [opsW, opW, RO.ev, Tmps.putO, wanted, initT, put_get, binV, intB, strB, hle, optInt, intD]
    refine hK1 _ _ (ret_i ⟨.inr rfl, _, rfl, _, _, Ghost.refl _ _ _, ?_⟩)
    simp [put_get]
    refine hK _ _ (ret_i ⟨.inr rfl, _, rfl, _, _, Ghost.refl _ _ _, ?_⟩)
    simpa [put_get, hle] using hQ
end
end Go.Proofs.YtdajenjajmofiaaGreatDoor
