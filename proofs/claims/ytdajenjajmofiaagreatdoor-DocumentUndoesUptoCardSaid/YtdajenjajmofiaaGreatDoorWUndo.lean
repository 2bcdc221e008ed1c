/- A part of our logic over the resolved code, or of a proof in it. -/
import Derived.Test.YtdajenjajmofiaaGreatDoorWBld
set_option linter.unusedSimpArgs false
set_option linter.unusedVariables false
namespace Go.Proofs.YtdajenjajmofiaaGreatDoor
open Go Go.Fsl

structure Ch where
  fr : Int
  to : Int
  old : ByteArray
  new : ByteArray
  cost : Int
def Ch.d (c : Ch) : List D := [.i c.fr, .i c.to, .s c.old, .s c.new, .i c.cost]
def in64 (n : Int) : Prop := -9223372036854775808 ≤ n ∧ n < 9223372036854775808
def Ch.ok (c : Ch) : Prop := in64 c.fr ∧ in64 c.to
def tot : List Ch → Nat
  | [] => 0
  | c :: cs => c.old.size + c.new.size + tot cs
def bad (c : Ch) (n : Nat) (last : Int) : Prop := c.fr < last ∨ c.to < c.fr ∨ c.to - c.fr ≠ c.old.size ∨ c.fr - last > n
instance (c : Ch) (n : Nat) (last : Int) : Decidable (bad c n last) := by unfold bad; infer_instance
/-- What a document was ahead of changes. -/
def undoF : List Ch → List UInt8 → Int → List UInt8 → Option (List UInt8)
  | [], rest, _, out => some (out ++ rest)
  | c :: cs, rest, last, out =>
    if bad c rest.length last then none else
    let r1 := rest.drop (c.fr - last).toNat
    if r1.take c.new.size = c.new.data.toList then undoF cs (r1.drop c.new.size) c.to (out ++ rest.take (c.fr - last).toNat ++ c.old.data.toList) else none
def undoD : Option (List UInt8) → D
  | some l => .tup [.s ⟨l.toArray⟩, .i 0]
  | none => .tup [.s .empty, .i 7]

theorem tot_drop : ∀ (l : List Ch) (k : Nat), tot (l.drop k) ≤ tot l
  | [], k => by simp [tot]
  | c :: cs, 0 => by simp
  | c :: cs, k + 1 => by simp only [List.drop_succ_cons, tot]; have := tot_drop cs k; omega
theorem tot_take_succ : ∀ (l : List Ch) (k : Nat) (h : k < l.length), tot (l.take (k + 1)) = tot (l.take k) + l[k].old.size + l[k].new.size
  | c :: cs, 0, _ => by simp [tot]
  | c :: cs, k + 1, h => by
    simp only [List.take_succ_cons, tot, List.getElem_cons_succ]
    rw [tot_take_succ cs k (by simpa using h)]; omega
theorem tot_take_le : ∀ (l : List Ch) (k : Nat), tot (l.take k) ≤ tot l
  | [], k => by simp [tot]
  | c :: cs, 0 => by simp [tot]
  | c :: cs, k + 1 => by simp only [List.take_succ_cons, tot]; have := tot_take_le cs k; omega
theorem drop_cons {α : Type} (l : List α) (k : Nat) (h : k < l.length) : l.drop k = l[k] :: l.drop (k + 1) := List.drop_eq_getElem_cons h
theorem rd_all (cs : List D) (n : Nat) (h : cs.length = n) : rd true n 0 cs = some (.agg cs) := by
  subst h; simp [rd]
theorem Ch.d_len (c : Ch) : c.d.length = 5 := rfl

section
variable {I : CallSem} {H0 H : Heap} {Q : D → Heap → Prop}

/-- The reference's Undo. -/
theorem refUndo_spec {s : ByteArray} {l : List Ch} (hok : ∀ c ∈ l, c.ok) (hs : s.size + tot l ≤ 2 ^ 30) (hl : l.length ≤ 2 ^ 30) (hQ : Q (undoD (undoF l s.data.toList 0 [])) H) : CP I (.fn 7) [.s s, .fz 5 (l.map Ch.d)] H Q := by
  refine callIs r7_is ⟨by simp [r7], by decide, by decide, ?_⟩
  simp only [r7]
  refine seq_i (reg_k fun K hK => ?_)
  simp [opsW, opW, RO.ev, Tmps.putO, wanted]
  refine hK _ _ ?_
  clear hK K
  refine seq_i (reg_k fun K hK => ?_)
  simp [opsW, opW, RO.ev, Tmps.putO, wanted]
  refine hK _ _ ?_
  clear hK K
  refine seq_i (reg_k fun K hK => ?_)
  simp [opsW, opW, RO.ev, Tmps.putO, wanted]
  refine hK _ _ ?_
  clear hK K
  refine seq_i (reg_k fun K hK => ?_)
  simp [opsW, opW, RO.ev, Tmps.putO, wanted, put_get, initT]
  refine hK _ _ ?_
  clear hK K
  refine seq_i (seq_i (reg_k fun K hK => ?_))
  simp [opsW, opW, RO.ev, Tmps.putO, wanted, put_get, initT]
  refine hK _ _ ?_
  clear hK K
  refine block_i ?_
  refine ⟨fun m τ H' => ∃ (k : Nat) (out rest : ByteArray) (last : Int), k ≤ l.length ∧ m = l.length - k ∧ τ 15 = .i k ∧ τ 14 = .i l.length ∧ τ 13 = .fz 5 (l.map Ch.d) ∧ τ 6 = .s out ∧ τ 7 = .i last ∧ τ 8 = .s rest ∧
    0 ≤ last ∧ last < 9223372036854775808 ∧ out.size + rest.size ≤ s.size + tot (l.take k) ∧ HSub H H' ∧ undoF (l.drop k) rest.data.toList last out.data.toList = undoF l s.data.toList 0 [], l.length,
    ⟨0, .empty, s, 0, by omega, by omega, by simp [put_get, initT], by simp [put_get, initT], by simp [put_get, initT], by simp [put_get, initT]; rfl, by simp [put_get, initT], by simp [put_get, initT], by omega, by omega, by simp [tot], HSub.refl _, rfl⟩, ?_⟩
  rintro m τ H' ⟨k, out, rest, last, hk, rfl, t15, t14, t13, t6, t7, t8, hl0, hl1, hsz, hsub, hun⟩
  refine seq_i (reg_k fun K hK => ?_)
  simp [opsW, opW, RO.ev, Tmps.putO, wanted, binV, intB, t15, t14]
  refine hK _ _ ?_
  clear hK K
  refine seq_i (cond_i (t := decide (k < l.length)) (by simp [RO.ev, put_get]) (fun ht => ?_) (fun hf => ?_))
  · have hlt : k < l.length := by simpa using ht
    refine skip_i ?_
    have hc := hok _ (List.getElem_mem hlt)
    have hd := drop_cons l k hlt
    rw [hd] at hun
    have hts := tot_take_succ l k hlt
    have htl := tot_take_le l (k + 1)
    generalize hcc : l[k] = c at *
    obtain ⟨⟨c1, c2⟩, c3, c4⟩ := hc
    refine seq_i (block_i (seq_i (reg_k fun K hK => ?_)))
    have hget : (l.map Ch.d)[k]? = some c.d := by rw [List.getElem?_map, List.getElem?_eq_getElem hlt, hcc]; rfl
    simp [opsW, opW, RO.ev, Tmps.putO, wanted, put_get, t13, t15, intD, hget, hlt, hcc, rd_all _ 5 (Ch.d_len c)]
    intro q hq
    simp [D.cells, Ch.d, D.one, oneV, setMany, Heap.ins_ins]
    refine hK _ _ ?_
    clear hK K
    refine seq_i (reg_k fun K hK => ?_)
    simp [opsW, opW, RO.ev, Tmps.putO, wanted, put_get, t7, rd, binV, intB]
    refine hK _ _ ?_
    clear hK K
    have hsub' : HSub H (H'.ins q (.cells [.i c.fr, .i c.to, .s c.old, .s c.new, .i c.cost] 0 0 (some 26))) := hsub.trans (HSub.ins _ hq)
    generalize hH2 : H'.ins q (.cells [.i c.fr, .i c.to, .s c.old, .s c.new, .i c.cost] 0 0 (some 26)) = H2 at *
    have hq2 : H2 q = some (.cells [.i c.fr, .i c.to, .s c.old, .s c.new, .i c.cost] 0 0 (some 26)) := by rw [← hH2]; simp
    have hrl : rest.data.toList.length = rest.size := rfl
    refine seq_i (seq_i (reg_k fun K hK => ?_))
    by_cases hb : bad c rest.size last
    · have hnone : undoF l s.data.toList 0 [] = none := by rw [← hun]; simp only [undoF, hrl]; rw [if_pos hb]
      have key : ∀ τ' : Tmps, τ' 50 = .b true → (∀ τ' H', τ' 50 = .b true → H' = H2 → K τ' H') → K τ' H2 := fun τ' h h' => h' τ' H2 h rfl
      have hK2 : ∀ τ' H', τ' 50 = .b true → H' = H2 → K τ' H' := by
        rintro τ' _ h50 rfl
        refine hK _ _ ?_
        refine cond_i (t := true) (by simp [RO.ev, h50]) (fun _ => ?_) (fun h => by cases h)
        refine seq_i (reg_k fun K hK => ?_)
        simp [opsW, opW, RO.ev, Tmps.putO, wanted]
        refine hK _ _ ?_
        refine ⟨.inr rfl, .tup [.s .empty, .i 7], by simp [resD, resOne, put_get]; rfl, .tup [.s .empty, .i 7], H, Ghost.drop _ _ hsub', ?_⟩
        rw [hnone] at hQ
        exact hQ
      clear hK
      by_cases h1 : c.fr < last
      · simp [opsW, opW, RO.ev, Tmps.putO, wanted, put_get, t7, t8, rd, binV, intB, hq2, h1]
        exact hK2 _ _ (by simp [put_get]) rfl
      · have w1 : IntKind.i64.wrap (c.fr - last) = c.fr - last := wrap64 (by omega) (by omega)
        by_cases h2 : c.to < c.fr
        · simp [opsW, opW, RO.ev, Tmps.putO, wanted, put_get, t7, t8, rd, binV, intB, hq2, h1, h2]
          exact hK2 _ _ (by simp [put_get]) rfl
        · have w2 : IntKind.i64.wrap (c.to - c.fr) = c.to - c.fr := wrap64 (by omega) (by omega)
          by_cases h3 : c.to - c.fr = c.old.size
          · have h4 : c.fr - last > rest.size := by
              rcases hb with hb | hb | hb | hb
              · exact absurd hb h1
              · exact absurd hb h2
              · exact absurd h3 hb
              · exact hb
            rw [h3] at w2
            have h4' : (rest.size : Int) < c.fr - last := h4
            simp [opsW, opW, RO.ev, Tmps.putO, wanted, put_get, t7, t8, rd, binV, intB, hq2, h1, h2, w1, w2, h3, h4']
            exact hK2 _ _ (by simp [put_get]) rfl
          · simp [opsW, opW, RO.ev, Tmps.putO, wanted, put_get, t7, t8, rd, binV, intB, hq2, h1, h2, w1, w2, h3]
            exact hK2 _ _ (by simp [put_get]) rfl
    · have hb0 := hb
      simp only [bad, not_or, Int.not_lt, ne_eq, Decidable.not_not, gt_iff_lt] at hb
      obtain ⟨h1, h2, h3, h4⟩ := hb
      have w1 : IntKind.i64.wrap (c.fr - last) = c.fr - last := wrap64 (by omega) (by omega)
      have w2 : IntKind.i64.wrap (c.to - c.fr) = c.to - c.fr := wrap64 (by omega) (by omega)
      have h1' : ¬ c.fr < last := by omega
      have h2' : ¬ c.to < c.fr := by omega
      have h4' : ¬ (rest.size : Int) < c.fr - last := by omega
      rw [h3] at w2
      simp [opsW, opW, RO.ev, Tmps.putO, wanted, put_get, t7, t8, rd, binV, intB, hq2, h1', h2', w1, w2, h3, h4']
      refine hK _ _ ?_
      clear hK K
      refine cond_i (t := false) (by simp [RO.ev, put_get]) (fun h => by cases h) (fun _ => skip_i ?_)
      obtain ⟨g, hg⟩ : ∃ g : Nat, c.fr - last = g := ⟨(c.fr - last).toNat, by omega⟩
      rw [hg] at h4
      have hgn : g ≤ rest.size := by omega
      -- what goes on
      refine seq_i (reg_k fun K hK => ?_)
      have hcat : ¬ (9223372036854775807 : Int) < (out.size : Int) + g := by omega
      simp [opsW, opW, RO.ev, Tmps.putO, wanted, put_get, t6, t8, w1, hg, optInt, intD, hgn, binV, strB, hcat]
      refine hK _ _ ?_
      clear hK K
      refine seq_i (reg_k fun K hK => ?_)
      simp [opsW, opW, RO.ev, Tmps.putO, wanted, put_get, t6, t8, w1, hg, optInt, intD, hgn, binV, strB]
      refine hK _ _ ?_
      clear hK K
      have hr1s : (rest.extract g rest.size).size = rest.size - g := by simp
      have hr1l : (rest.extract g rest.size).data.toList = rest.data.toList.drop g := by rw [ex_list, List.take_of_length_le (by rw [hrl]; exact Nat.le_refl _)]
      generalize hr1 : rest.extract g rest.size = r1 at *
      have hol : (out ++ rest.extract 0 g).data.toList = out.data.toList ++ rest.data.toList.take g := by
        rw [ByteArray.data_append, Array.toList_append, ex_list]; rfl
      have hos : (out ++ rest.extract 0 g).size = out.size + g := by simp; omega
      generalize hout : out ++ rest.extract 0 g = out1 at *
      have hunf : undoF (c :: l.drop (k + 1)) rest.data.toList last out.data.toList = if r1.data.toList.take c.new.size = c.new.data.toList then undoF (l.drop (k + 1)) (r1.data.toList.drop c.new.size) c.to (out1.data.toList ++ c.old.data.toList) else none := by
        simp only [undoF]
        rw [if_neg (by rw [hrl]; exact hb0), hg, hr1l, hol]
        rfl
      rw [hunf] at hun
      refine seq_i (seq_i (reg_k fun K hK => ?_))
      by_cases hp : c.new.size ≤ r1.size ∧ r1.extract 0 c.new.size = c.new
      · obtain ⟨p1, p2⟩ := hp
        have p1' : ¬ r1.size < c.new.size := by omega
        have p3 : List.take c.new.size r1.data.toList = c.new.data.toList := by rw [← congrArg (fun x => x.data.toList) p2, ex_list]; simp
        rw [if_pos p3] at hun
        simp [opsW, opW, RO.ev, Tmps.putO, wanted, put_get, rd, binV, intB, strB, hq2, optInt, intD, p1, p1', p3]
        refine hK _ _ ?_
        clear hK K
        refine cond_i (t := false) (by simp [RO.ev, put_get]) (fun h => by cases h) (fun _ => skip_i ?_)
        refine seq_i (reg_k fun K hK => ?_)
        have hcat2 : ¬ (9223372036854775807 : Int) < (out1.size : Int) + c.old.size := by omega
        simp [opsW, opW, RO.ev, Tmps.putO, wanted, put_get, rd, binV, strB, hq2, hcat2]
        refine hK _ _ ?_
        clear hK K
        refine seq_i (reg_k fun K hK => ?_)
        simp [opsW, opW, RO.ev, Tmps.putO, wanted, put_get, rd, hq2, optInt, intD, p1]
        refine hK _ _ ?_
        clear hK K
        refine reg_k fun K hK => ?_
        simp [opsW, opW, RO.ev, Tmps.putO, wanted, put_get, rd, hq2]
        refine hK _ _ ?_
        clear hK K
        refine reg_k fun K hK => ?_
        simp [opsW, opW, RO.ev, Tmps.putO, wanted, put_get, t15, binV, intB]
        refine hK _ _ ?_
        clear hK K
        have wk : IntKind.i64.wrap ((k : Int) + 1) = ((k + 1 : Nat) : Int) := by rw [wrap64 (by omega) (by omega)]; omega
        refine ⟨l.length - (k + 1), H2, by omega, HSub.refl _, k + 1, out1 ++ c.old, r1.extract c.new.size r1.size, c.to, by omega, rfl, by simp [put_get, wk], by simp [put_get, t14], by simp [put_get, t13], by simp [put_get], by simp [put_get], by simp [put_get], by omega, c4, ?_, hsub', ?_⟩
        · have e1 : (r1.extract c.new.size r1.size).size = r1.size - c.new.size := by simp
          have e2 : (out1 ++ c.old).size = out1.size + c.old.size := by simp
          omega
        · rw [← hun, ex_list, ByteArray.data_append, Array.toList_append, List.take_of_length_le (by exact Nat.le_refl _)]
      · have p3 : ¬ List.take c.new.size r1.data.toList = c.new.data.toList := by
          intro hh
          apply hp
          have hlen := congrArg List.length hh
          rw [List.length_take] at hlen
          have e1 : r1.data.toList.length = r1.size := rfl
          have e2 : c.new.data.toList.length = c.new.size := rfl
          refine ⟨by omega, ?_⟩
          have := lEq r1 c.new
          rw [hh] at this
          simpa using this
        rw [if_neg p3] at hun
        have hK2 : ∀ τ' H', τ' 74 = .b true → H' = H2 → K τ' H' := by
          rintro τ' _ h50 rfl
          refine hK _ _ ?_
          refine cond_i (t := true) (by simp [RO.ev, h50]) (fun _ => ?_) (fun h => by cases h)
          refine seq_i (reg_k fun K hK => ?_)
          simp [opsW, opW, RO.ev, Tmps.putO, wanted]
          refine hK _ _ ?_
          refine ⟨.inr rfl, .tup [.s .empty, .i 7], by simp [resD, resOne, put_get]; rfl, .tup [.s .empty, .i 7], H, Ghost.drop _ _ hsub', ?_⟩
          rw [← hun] at hQ
          exact hQ
        clear hK
        by_cases p1 : r1.size < c.new.size
        · simp [opsW, opW, RO.ev, Tmps.putO, wanted, put_get, rd, binV, intB, strB, hq2, optInt, intD, p1]
          exact hK2 _ _ (by simp [put_get]) rfl
        · have p1' : c.new.size ≤ r1.size := by omega
          simp [opsW, opW, RO.ev, Tmps.putO, wanted, put_get, rd, binV, intB, strB, hq2, optInt, intD, p1, p1']
          exact hK2 _ _ (by simp [put_get, p3]) rfl
  · have hkl : k = l.length := by
      have : ¬ k < l.length := by simpa using hf
      omega
    subst hkl
    rw [List.drop_length] at hun
    simp only [undoF] at hun
    refine exit_i ?_
    refine seq_i (reg_k fun K hK => ?_)
    have hcat : ¬ (9223372036854775807 : Int) < (out.size : Int) + rest.size := by
      rw [List.take_length] at hsz
      omega
    simp [opsW, opW, RO.ev, Tmps.putO, wanted, put_get, t6, t8, binV, strB, hcat]
    refine hK _ _ (ret_i ⟨.inr rfl, .tup [.s (out ++ rest), .i 0], by simp [resD, resOne, put_get], _, H, Ghost.drop _ _ hsub, ?_⟩)
    rw [← hun] at hQ
    simp only [undoD] at hQ
    have : (⟨(out.data.toList ++ rest.data.toList).toArray⟩ : ByteArray) = out ++ rest := by
      apply ByteArray.ext
      rw [ByteArray.data_append]
      apply Array.toList_inj.1
      simp
    rw [this] at hQ
    exact hQ

theorem Bld.at {H0 H : Heap} {b : Nat} {out : List UInt8} (h : Bld H0 H b out) {q : Nat} {o : O} (hq : H0 q = some o) : H q = some o := h.1 q o hq

/-- The program's Undo. -/
theorem docUndo_spec {s : ByteArray} {l : List Ch} (hok : ∀ c ∈ l, c.ok) (hs : s.size + tot l ≤ 2 ^ 30) (hl : l.length ≤ 2 ^ 30) (hQ : Q (undoD (undoF l s.data.toList 0 [])) H) : CP I (.fn 6) [.s s, .fz 5 (l.map Ch.d)] H Q := by
  refine callIs r6_is ⟨by simp [r6], by decide, by decide, ?_⟩
  simp only [r6]
  refine seq_i (reg_k fun K hK => ?_)
  simp [opsW, opW, RO.ev, Tmps.putO, wanted]
  refine hK _ _ ?_
  clear hK K
  refine scope_i (seq_i (reg_k fun K hK => ?_))
  simp [opsW, opW, RO.ev, Tmps.putO, wanted]
  intro b hb
  refine hK _ _ ?_
  clear hK K
  have hB : Bld H (H.ins b (.cells [.nilp, .nils] 0 0 (some 62))) b [] := ⟨HSub.ins _ hb, hb, .nilp, .nils, by simp, .inl rfl, .inl ⟨rfl, rfl⟩⟩
  generalize H.ins b (.cells [.nilp, .nils] 0 0 (some 62)) = Hb at *
  refine seq_i (reg_k fun K hK => ?_)
  simp [opsW, opW, RO.ev, Tmps.putO, wanted]
  refine hK _ _ ?_
  clear hK K
  refine seq_i (skip_i ?_)
  refine seq_i (seq_i (reg_k fun K hK => ?_))
  simp [opsW, opW, RO.ev, Tmps.putO, wanted, put_get, initT]
  refine hK _ _ ?_
  clear hK K
  refine block_i ?_
  refine ⟨fun m τ H' => ∃ (k at_ : Nat) (out : List UInt8) (last : Int), k ≤ l.length ∧ m = l.length - k ∧ τ 14 = .i k ∧ τ 13 = .i l.length ∧ τ 12 = .fz 5 (l.map Ch.d) ∧ τ 0 = .s s ∧ τ 7 = .i at_ ∧ τ 8 = .i last ∧ τ 6 = .ptr b 0 ∧
    0 ≤ last ∧ last < 9223372036854775808 ∧ at_ ≤ s.size ∧ out.length ≤ at_ + tot (l.take k) ∧ Bld H H' b out ∧ undoF (l.drop k) (s.data.toList.drop at_) last out = undoF l s.data.toList 0 [], l.length,
    ⟨0, 0, [], 0, by omega, by omega, by simp [put_get, initT], by simp [put_get, initT], by simp [put_get, initT], by simp [put_get, initT], by simp [put_get, initT], by simp [put_get, initT], by simp [put_get, initT], by omega, by omega, by omega, by simp, hB, by simp⟩, ?_⟩
  rintro m τ H' ⟨k, at_, out, last, hk, rfl, t14, t13, t12, t0, t7, t8, t6, hl0, hl1, hat, hsz, hBl, hun⟩
  have hsl : s.data.toList.length = s.size := rfl
  refine seq_i (reg_k fun K hK => ?_)
  simp [opsW, opW, RO.ev, Tmps.putO, wanted, binV, intB, t14, t13]
  refine hK _ _ ?_
  clear hK K
  refine seq_i (cond_i (t := decide (k < l.length)) (by simp [RO.ev, put_get]) (fun ht => ?_) (fun hf => ?_))
  · have hlt : k < l.length := by simpa using ht
    refine skip_i ?_
    have hc := hok _ (List.getElem_mem hlt)
    have hd := drop_cons l k hlt
    rw [hd] at hun
    have hts := tot_take_succ l k hlt
    have htl := tot_take_le l (k + 1)
    generalize hcc : l[k] = c at *
    obtain ⟨⟨c1, c2⟩, c3, c4⟩ := hc
    refine seq_i (block_i (seq_i (reg_k fun K hK => ?_)))
    simp [opsW, opW, RO.ev, Tmps.putO, wanted, put_get, t12, t14, intD, hlt, hcc, rd_all _ 5 (Ch.d_len c)]
    intro q hq
    simp [D.cells, Ch.d, D.one, oneV, setMany, Heap.ins_ins]
    refine hK _ _ ?_
    clear hK K
    have hBq := hBl.ins hq (.cells [.i c.fr, .i c.to, .s c.old, .s c.new, .i c.cost] 0 0 (some 27))
    have hq0 : H q = none := by
      cases e : H q with
      | none => rfl
      | some o => rw [hBl.1 q o e] at hq; cases hq
    have hweak : ∀ {H4 out}, Bld (H.ins q (.cells [.i c.fr, .i c.to, .s c.old, .s c.new, .i c.cost] 0 0 (some 27))) H4 b out → Bld H H4 b out := fun h => h.sub (HSub.ins _ hq0)
    generalize hH2 : H'.ins q (.cells [.i c.fr, .i c.to, .s c.old, .s c.new, .i c.cost] 0 0 (some 27)) = H2 at *
    have hHq : (H.ins q (.cells [.i c.fr, .i c.to, .s c.old, .s c.new, .i c.cost] 0 0 (some 27))) q = some (.cells [.i c.fr, .i c.to, .s c.old, .s c.new, .i c.cost] 0 0 (some 27)) := by simp
    generalize H.ins q (.cells [.i c.fr, .i c.to, .s c.old, .s c.new, .i c.cost] 0 0 (some 27)) = Hq at *
    have hq2 := hBq.at hHq
    refine seq_i (reg_k fun K hK => ?_)
    simp [opsW, opW, RO.ev, Tmps.putO, wanted, put_get, t8, rd, binV, intB, hq2]
    refine hK _ _ ?_
    clear hK K
    refine seq_i (seq_i (reg_k fun K hK => ?_))
    have hrest : (s.data.toList.drop at_).length = s.size - at_ := by rw [List.length_drop, hsl]
    have wat : IntKind.i64.wrap ((s.size : Int) - at_) = ((s.size - at_ : Nat) : Int) := by rw [wrap64 (by omega) (by omega)]; omega
    by_cases hb2 : bad c (s.size - at_) last
    · have hnone : undoF l s.data.toList 0 [] = none := by rw [← hun]; simp only [undoF, hrest]; rw [if_pos hb2]
      have hK2 : ∀ τ' H', τ' 51 = .b true → H' = H2 → K τ' H' := by
        rintro τ' _ h50 rfl
        refine hK _ _ ?_
        refine cond_i (t := true) (by simp [RO.ev, h50]) (fun _ => ?_) (fun h => by cases h)
        refine seq_i (reg_k fun K hK => ?_)
        simp [opsW, opW, RO.ev, Tmps.putO, wanted]
        refine hK _ _ ?_
        refine ⟨.inr rfl, .tup [.s .empty, .i 7], by simp [resD, resOne, put_get]; rfl, .tup [.s .empty, .i 7], H, Ghost.drop _ _ (hweak hBq).1, ?_⟩
        rw [hnone] at hQ
        exact hQ
      clear hK
      by_cases h1 : c.fr < last
      · simp [opsW, opW, RO.ev, Tmps.putO, wanted, put_get, t0, t7, t8, rd, binV, intB, hq2, h1]
        exact hK2 _ _ (by simp [put_get]) rfl
      · have w1 : IntKind.i64.wrap (c.fr - last) = c.fr - last := wrap64 (by omega) (by omega)
        by_cases h2 : c.to < c.fr
        · simp [opsW, opW, RO.ev, Tmps.putO, wanted, put_get, t0, t7, t8, rd, binV, intB, hq2, h1, h2]
          exact hK2 _ _ (by simp [put_get]) rfl
        · have w2 : IntKind.i64.wrap (c.to - c.fr) = c.to - c.fr := wrap64 (by omega) (by omega)
          by_cases h3 : c.to - c.fr = c.old.size
          · have h4 : c.fr - last > (s.size - at_ : Nat) := by
              rcases hb2 with hb | hb | hb | hb
              · exact absurd hb h1
              · exact absurd hb h2
              · exact absurd h3 hb
              · exact hb
            rw [h3] at w2
            have h4' : ((s.size - at_ : Nat) : Int) < c.fr - last := h4
            simp [opsW, opW, RO.ev, Tmps.putO, wanted, put_get, t0, t7, t8, rd, binV, intB, hq2, h1, h2, w1, w2, h3, h4', wat]
            exact hK2 _ _ (by simp [put_get]) rfl
          · simp [opsW, opW, RO.ev, Tmps.putO, wanted, put_get, t0, t7, t8, rd, binV, intB, hq2, h1, h2, w1, w2, h3]
            exact hK2 _ _ (by simp [put_get]) rfl
    · have hb0 := hb2
      simp only [bad, not_or, Int.not_lt, ne_eq, Decidable.not_not, gt_iff_lt] at hb2
      obtain ⟨h1, h2, h3, h4⟩ := hb2
      have w1 : IntKind.i64.wrap (c.fr - last) = c.fr - last := wrap64 (by omega) (by omega)
      have w2 : IntKind.i64.wrap (c.to - c.fr) = c.to - c.fr := wrap64 (by omega) (by omega)
      have h1' : ¬ c.fr < last := by omega
      have h2' : ¬ c.to < c.fr := by omega
      have h4' : ¬ ((s.size - at_ : Nat) : Int) < c.fr - last := by omega
      rw [h3] at w2
      simp [opsW, opW, RO.ev, Tmps.putO, wanted, put_get, t0, t7, t8, rd, binV, intB, hq2, h1', h2', w1, w2, h3, h4', wat]
      refine hK _ _ ?_
      clear hK K
      refine cond_i (t := false) (by simp [RO.ev, put_get]) (fun h => by cases h) (fun _ => skip_i ?_)
      obtain ⟨g, hg⟩ : ∃ g : Nat, c.fr - last = g := ⟨(c.fr - last).toNat, by omega⟩
      rw [hg] at h4
      have hgn : at_ + g ≤ s.size := by omega
      have wag : IntKind.i64.wrap ((at_ : Int) + g) = ((at_ + g : Nat) : Int) := by rw [wrap64 (by omega) (by omega)]; omega
      refine seq_i (reg_k fun K hK => ?_)
      have htn : ((at_ : Int) + g).toNat = at_ + g := by omega
      have e1 : (at_ : Int) ≤ ((at_ + g : Nat) : Int) := by omega
      have e2 : ((at_ + g : Nat) : Int) ≤ (s.size : Int) := by omega
      simp [opsW, opW, RO.ev, Tmps.putO, wanted, put_get, t0, t6, t7, w1, hg, optInt, intD, binV, intB, wag, hgn, htn]
      refine ⟨by omega, by omega, _, _, Ghost.refl _ _ _, WriteString_spec hBq (by simp; omega) fun H3 hB3 => ?_⟩
      refine hK _ _ ?_
      clear hK K
      refine seq_i (reg_k fun K hK => ?_)
      simp [opsW, opW, RO.ev, Tmps.putO, wanted, put_get, t7, w1, hg, binV, intB, wag]
      refine hK _ _ ?_
      clear hK K
      have hq3 := hB3.at hHq
      generalize hout1 : out ++ (s.extract at_ (at_ + g)).data.toList = out1 at *
      have ho1 : out1 = out ++ (s.data.toList.drop at_).take g := by
        rw [← hout1, ex_list]
        congr 1
        rw [List.drop_take]
        congr 1
        omega
      have ho1l : out1.length = out.length + g := by
        rw [ho1, List.length_append, List.length_take, hrest]
        omega
      have hr1 : (s.data.toList.drop at_).drop g = s.data.toList.drop (at_ + g) := by rw [List.drop_drop]
      have hunf : undoF (c :: l.drop (k + 1)) (s.data.toList.drop at_) last out = if (s.data.toList.drop (at_ + g)).take c.new.size = c.new.data.toList then undoF (l.drop (k + 1)) ((s.data.toList.drop (at_ + g)).drop c.new.size) c.to (out1 ++ c.old.data.toList) else none := by
        simp only [undoF]
        rw [if_neg (by rw [hrest]; exact hb0), hg, Int.toNat_natCast, hr1, ← ho1]
      rw [hunf] at hun
      have hat1 : ((at_ + g : Nat) : Int) ≤ s.size := by omega
      refine seq_i (seq_i (reg_k fun K hK => ?_))
      simp [opsW, opW, RO.ev, Tmps.putO, wanted, put_get, t0, rd, hq3, optInt, intD, htn]
      refine ⟨by omega, by omega, _, _, Ghost.refl _ _ _, HasPrefix_spec ?_⟩
      have hes : (s.extract (at_ + g) s.size).size = s.size - (at_ + g) := by simp
      have hel : (s.extract (at_ + g) s.size).data.toList = s.data.toList.drop (at_ + g) := by rw [ex_list, List.take_of_length_le (by rw [hsl]; exact Nat.le_refl _)]
      by_cases hp : c.new.size ≤ (s.extract (at_ + g) s.size).size ∧ (s.extract (at_ + g) s.size).extract 0 c.new.size = c.new
      · obtain ⟨p1, p2⟩ := hp
        have p3 : List.take c.new.size (s.data.toList.drop (at_ + g)) = c.new.data.toList := by rw [← congrArg (fun x => x.data.toList) p2, ex_list, hel]; simp
        rw [if_pos p3, List.drop_drop] at hun
        rw [hes] at p1
        simp only [hes, p1, p2, decide_true, Bool.and_self]
        simp [opsW, opW, RO.ev, Tmps.putO, wanted, put_get, unV]
        refine hK _ _ ?_
        clear hK K
        refine cond_i (t := false) (by simp [RO.ev, put_get]) (fun h => by cases h) (fun _ => skip_i ?_)
        refine seq_i (reg_k fun K hK => ?_)
        simp [opsW, opW, RO.ev, Tmps.putO, wanted, put_get, t6, rd, hq3]
        refine ⟨_, _, Ghost.refl _ _ _, WriteString_spec hB3 (by rw [ho1l]; omega) fun H4 hB4 => ?_⟩
        refine hK _ _ ?_
        clear hK K
        have hq4 := hB4.at hHq
        refine seq_i (reg_k fun K hK => ?_)
        have wan : IntKind.i64.wrap (((at_ + g : Nat) : Int) + c.new.size) = ((at_ + g + c.new.size : Nat) : Int) := by rw [wrap64 (by omega) (by omega)]; omega
        have wan' : IntKind.i64.wrap ((at_ : Int) + g + c.new.size) = ((at_ + g + c.new.size : Nat) : Int) := by rw [wrap64 (by omega) (by omega)]; omega
        simp [opsW, opW, RO.ev, Tmps.putO, wanted, put_get, rd, hq4, binV, intB, wan, wan']
        refine hK _ _ ?_
        clear hK K
        refine reg_k fun K hK => ?_
        simp [opsW, opW, RO.ev, Tmps.putO, wanted, put_get, rd, hq4]
        refine hK _ _ ?_
        clear hK K
        refine reg_k fun K hK => ?_
        simp [opsW, opW, RO.ev, Tmps.putO, wanted, put_get, t14, binV, intB]
        refine hK _ _ ?_
        clear hK K
        have wk : IntKind.i64.wrap ((k : Int) + 1) = ((k + 1 : Nat) : Int) := by rw [wrap64 (by omega) (by omega)]; omega
        refine ⟨l.length - (k + 1), H4, by omega, HSub.refl _, k + 1, at_ + g + c.new.size, out1 ++ c.old.data.toList, c.to, by omega, rfl, by simp [put_get, wk], by simp [put_get, t13], by simp [put_get, t12], by simp [put_get, t0], by simp [put_get], by simp [put_get], by simp [put_get, t6], by omega, c4, by omega, ?_, hweak hB4, hun⟩
        rw [List.length_append, ho1l]
        have e1 : c.old.data.toList.length = c.old.size := rfl
        omega
      · have p3 : ¬ List.take c.new.size (s.data.toList.drop (at_ + g)) = c.new.data.toList := by
          intro hh
          apply hp
          have hlen := congrArg List.length hh
          rw [List.length_take, List.length_drop, hsl] at hlen
          have e2 : c.new.data.toList.length = c.new.size := rfl
          refine ⟨by rw [hes]; omega, ?_⟩
          have := lEq (s.extract (at_ + g) s.size) c.new
          rw [hel, hh] at this
          simpa using this
        rw [if_neg p3] at hun
        have hfalse : (decide (c.new.size ≤ (s.extract (at_ + g) s.size).size) && decide ((s.extract (at_ + g) s.size).extract 0 c.new.size = c.new)) = false := by
          rw [← Bool.decide_and]
          simpa using hp
        rw [hfalse]
        simp [opsW, opW, RO.ev, Tmps.putO, wanted, put_get, unV]
        refine hK _ _ ?_
        clear hK K
        refine cond_i (t := true) (by simp [RO.ev, put_get]) (fun _ => ?_) (fun h => by cases h)
        refine seq_i (reg_k fun K hK => ?_)
        simp [opsW, opW, RO.ev, Tmps.putO, wanted]
        refine hK _ _ ?_
        clear hK K
        refine exit_i ?_
        refine seq_i (seq_i (reg_k fun K hK => ?_))
        simp [opsW, opW, RO.ev, Tmps.putO, wanted, put_get, binV, intB]
        refine hK _ _ ?_
        clear hK K
        refine cond_i (t := true) (by simp [RO.ev, put_get]) (fun _ => ?_) (fun h => by cases h)
        refine seq_i (reg_k fun K hK => ?_)
        simp [opsW, opW, RO.ev, Tmps.putO, wanted]
        refine hK _ _ ?_
        refine ⟨.inr rfl, .tup [.s .empty, .i 7], by simp [resD, resOne, put_get]; rfl, .tup [.s .empty, .i 7], H, Ghost.drop _ _ (hweak hB3).1, ?_⟩
        rw [← hun] at hQ
        exact hQ
  · have hkl : k = l.length := by
      have : ¬ k < l.length := by simpa using hf
      omega
    subst hkl
    rw [List.drop_length] at hun
    simp only [undoF] at hun
    refine exit_i ?_
    refine seq_i (seq_i (reg_k fun K hK => ?_))
    simp [opsW, opW, RO.ev, Tmps.putO, wanted, put_get, t7, binV, intB]
    refine hK _ _ ?_
    clear hK K
    refine cond_i (t := false) (by simp [RO.ev, put_get]) (fun h => by cases h) (fun _ => skip_i ?_)
    refine seq_i (reg_k fun K hK => ?_)
    rw [List.take_length] at hsz
    simp [opsW, opW, RO.ev, Tmps.putO, wanted, put_get, t0, t6, t7, optInt, intD, hat]
    have hes : (s.extract at_ s.size).size = s.size - at_ := by simp
    have hel : (s.extract at_ s.size).data.toList = s.data.toList.drop at_ := by rw [ex_list, List.take_of_length_le (by rw [hsl]; exact Nat.le_refl _)]
    refine ⟨_, _, Ghost.refl _ _ _, WriteString_spec hBl (by rw [hes]; omega) fun H4 hB4 => ?_⟩
    refine hK _ _ ?_
    clear hK K
    refine seq_i (reg_k fun K hK => ?_)
    simp [opsW, opW, RO.ev, Tmps.putO, wanted, put_get, t6]
    have hll : (out ++ (s.extract at_ s.size).data.toList).length < 2 ^ 62 := by
      rw [List.length_append, hel, List.length_drop, hsl]; omega
    refine ⟨_, _, Ghost.refl _ _ _, String_spec hB4 hll fun H5 hs5 => ?_⟩
    refine hK _ _ (ret_i ⟨.inr rfl, .tup [.s ⟨(out ++ (s.extract at_ s.size).data.toList).toArray⟩, .i 0], by simp [resD, resOne, put_get], _, H, Ghost.drop _ _ hs5, ?_⟩)
    rw [← hun] at hQ
    rw [hel]
    exact hQ
end
end Go.Proofs.YtdajenjajmofiaaGreatDoor
