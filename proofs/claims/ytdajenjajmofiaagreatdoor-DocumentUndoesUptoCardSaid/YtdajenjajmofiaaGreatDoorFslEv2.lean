/- A part of our logic over the resolved code, or of a proof in it. -/
import Derived.Test.YtdajenjajmofiaaGreatDoorFslEv1
set_option linter.unusedSimpArgs false
set_option linter.unusedVariables false
namespace Go.Fsl
variable {S : Sl} {N G : Nat} {τ : T D} {τ' : Tmps}

/-- What holds of the numbers below G. -/
def Gl (S : Sl) (N G : Nat) : Prop := G ≤ N ∧ ∀ g, g < G → S.blk g = g ∧ S.base g = 0

theorem ev_sim (hg : Gl S N G) (hF : FR S N τ τ') {x : RO} (hx : okRO G x = true) : RD S N (x.ev (fr τ)) (x.ev τ') := by
  cases x with
  | t n => exact hF n
  | c d => exact .const hg.2 hg.1 hx
theorem evs_sim (hg : Gl S N G) (hF : FR S N τ τ') : ∀ {xs : List RO}, okROs G xs = true → RDs S N (xs.map (·.ev (fr τ))) (xs.map (·.ev τ'))
  | [], _ => .nil
  | x :: xs, h => by
    simp only [okROs, List.all_cons, Bool.and_eq_true] at h
    exact .cons (ev_sim hg hF h.1) (evs_sim hg hF h.2)

theorem RD.intD {d d' : D} (h : RD S N d d') {n : Int} (hn : intD d = some n) : d' = d := by
  cases h <;> first | rfl | (simp [Go.Fsl.intD] at hn)
theorem RD.str {s : ByteArray} {d' : D} (h : RD S N (.s s) d') : d' = .s s := by cases h; rfl
theorem RD.bool {t : Bool} {d' : D} (h : RD S N (.b t) d') : d' = .b t := by cases h; rfl
theorem RD.int {k : IntKind} {n : Int} {d' : D} (h : RD S N (.v (.int k n)) d') : d' = .v (.int k n) := by cases h; rfl
theorem opt_sim (hg : Gl S N G) (hF : FR S N τ τ') {x : Option RO} (hx : okROo G x = true) {d : Nat} {n : Int} (h : optInt (fr τ) d x = some n) : optInt τ' d x = some n := by
  cases x with
  | none => exact h
  | some x =>
    simp only [optInt] at h ⊢
    rw [(ev_sim hg hF hx).intD h]; exact h
theorem opt_sim' (hg : Gl S N G) (hF : FR S N τ τ') {x : RO} (hx : okRO G x = true) {n : Int} (h : intD (x.ev (fr τ)) = some n) : intD (x.ev τ') = some n := by
  rw [(ev_sim hg hF hx).intD h]; exact h

theorem RD.one_eq {d d' : D} (h : RD S N d d') : D.one d' = D.one d := by
  cases h <;> rfl
theorem RDs.one_all {ds ds' : List D} (h : RDs S N ds ds') : ds'.all D.one = ds.all D.one := by
  induction h with
  | nil => rfl
  | cons h _ ih => simp [h.one_eq, ih]
theorem RD.of_agg {cs : List D} {d' : D} (h : RD S N (.agg cs) d') : ∃ cs', d' = .agg cs' ∧ RDs S N cs cs' := by
  cases h with
  | agg hl hr => exact ⟨_, rfl, .of hl hr⟩
theorem RD.of_tup {cs : List D} {d' : D} (h : RD S N (.tup cs) d') : ∃ cs', d' = .tup cs' ∧ RDs S N cs cs' := by
  cases h with
  | tup hl hr => exact ⟨_, rfl, .of hl hr⟩
theorem RD.of_fn {f : FuncId} {cs : List D} {d' : D} (h : RD S N (.fn f cs) d') : ∃ cs', d' = .fn f cs' ∧ RDs S N cs cs' := by
  cases h with
  | fn hl hr => exact ⟨_, rfl, .of hl hr⟩
theorem RD.cells {d d' : D} (h : RD S N d d') {cs : List D} (hc : d.cells = some cs) : ∃ cs', d'.cells = some cs' ∧ RDs S N cs cs' := by
  have one : ∀ {d : D}, (∃ x, d = .v x ∧ oneV x = true) → d.cells = some [d] := by rintro d ⟨x, rfl, hx⟩; simp [D.cells, hx]
  cases h with
  | agg hl hr =>
    cases hc
    exact ⟨_, rfl, .of hl hr⟩
  | tup hl hr => simp [D.cells] at hc
  | fn hl hr =>
    cases hc
    exact ⟨_, rfl, .one (.fn hl hr)⟩
  | v hx =>
    refine ⟨cs, hc, ?_⟩
    simp only [D.cells] at hc
    split at hc
    · cases hc; exact .one (.v hx)
    · cases hc
  | ptr h =>
    rw [one ⟨_, rfl, rfl⟩] at hc; cases hc
    exact ⟨_, one ⟨_, rfl, rfl⟩, .one (.ptr h)⟩
  | sx h hnc hb hr hl =>
    rw [one ⟨_, rfl, rfl⟩] at hc; cases hc
    exact ⟨_, one ⟨_, rfl, rfl⟩, .one (.sx h hnc hb hr hl)⟩
  | so h hn hr hl hz =>
    rw [one ⟨_, rfl, rfl⟩] at hc; cases hc
    exact ⟨_, one ⟨_, rfl, rfl⟩, .one (.so h hn hr hl hz)⟩
  | st h hl hr =>
    rw [one ⟨_, rfl, rfl⟩] at hc; cases hc
    exact ⟨_, one ⟨_, rfl, rfl⟩, .one (.st h hl hr)⟩
  | map h =>
    rw [one ⟨_, rfl, rfl⟩] at hc; cases hc
    exact ⟨_, one ⟨_, rfl, rfl⟩, .one (.map h)⟩
  | yld h =>
    rw [one ⟨_, rfl, rfl⟩] at hc; cases hc
    exact ⟨_, one ⟨_, rfl, rfl⟩, .one (.yld h)⟩

theorem rd_sim {cs cs' : List D} (h : RDs S N cs cs') {g : Bool} {n off : Nat} {d : D} (hd : rd g n off cs = some d) : ∃ d', rd g n off cs' = some d' ∧ RD S N d d' := by
  cases g with
  | false => exact h.get? hd
  | true =>
    simp only [rd, if_true] at hd ⊢
    split at hd
    · rename_i hle
      cases hd
      rw [if_pos (by rw [← h.length]; exact hle)]
      exact ⟨_, rfl, ((h.drop off).take n).agg⟩
    · cases hd
theorem rd_drop {cs : List D} {g : Bool} {n b off : Nat} {d : D} (hb : b ≤ cs.length) (hd : rd g n off (cs.drop b) = some d) : rd g n (b + off) cs = some d := by
  cases g with
  | false =>
    simp only [rd, Bool.false_eq_true, if_false, List.getElem?_drop] at hd ⊢
    exact hd
  | true =>
    simp only [rd, if_true, List.length_drop, List.drop_drop] at hd ⊢
    split at hd
    · cases hd
      rw [if_pos (by omega)]
    · cases hd

theorem build_sim (hg : Gl S N G) (hF : FR S N τ τ') : ∀ {ps : List (Nat × Nat × RO)} {cs cs' rs : List D}, okROp G ps = true → RDs S N cs cs' → buildCells (fr τ) cs ps = some rs →
    ∃ rs', buildCells τ' cs' ps = some rs' ∧ RDs S N rs rs'
  | [], _, _, _, _, hc, h => by cases h; exact ⟨_, rfl, hc⟩
  | (off, n, x) :: ps, cs, cs', rs, hok, hc, h => by
    simp only [okROp, List.all_cons, Bool.and_eq_true] at hok
    simp only [buildCells] at h ⊢
    cases hx : (x.ev (fr τ)).cells with
    | none => rw [hx] at h; cases h
    | some ds =>
      rw [hx] at h
      simp only at h
      obtain ⟨ds', e1, e2⟩ := (ev_sim hg hF hok.1).cells hx
      rw [e1]
      simp only
      split at h
      · rename_i hcond
        rw [if_pos (by rw [← e2.length, ← hc.length, e2.one_all]; exact hcond)]
        exact build_sim hg hF hok.2 (e2.setMany hc off) h
      · cases h

theorem bin_sim {op : BinOp} {d e d' e' : D} (h : RD S N d d') (k : RD S N e e') {r : Value} (hr : binV op d e = some r) : d' = d ∧ e' = e ∧ plainV r = true := by
  unfold binV at hr
  split at hr
  · rw [h.int, k.int]
    refine ⟨rfl, rfl, ?_⟩
    unfold intB at hr
    split at hr
    · split at hr <;> cases hr; rfl
    · split at hr <;> cases hr; rfl
    · split at hr
      · cases hr
      · split at hr <;> first | (cases hr; done) | (cases hr; rfl) | (split at hr <;> cases hr; rfl)
  · rw [h.str, k.str]
    refine ⟨rfl, rfl, ?_⟩
    unfold strB at hr
    split at hr <;> first | (cases hr; done) | (cases hr; rfl) | (split at hr <;> cases hr; rfl)
  · cases hr
theorem un_sim {op : UnOp} {d d' : D} (h : RD S N d d') {r : Value} (hr : unV op d = some r) : d' = d ∧ plainV r = true := by
  unfold unV at hr
  split at hr <;> first | (cases hr; done) | (cases hr; exact ⟨h.int, rfl⟩) | (cases hr; exact ⟨h.bool, rfl⟩)
theorem cellEq_sim {k : BK} {d e d' e' : D} (h : RD S N d d') (h' : RD S N e e') {r : Bool} (hr : cellEq k d e = some r) : d' = d ∧ e' = e := by
  unfold cellEq at hr
  split at hr
  · unfold rawEq at hr
    split at hr
    · exact ⟨h.int, h'.int⟩
    · exact ⟨h.str, h'.str⟩
    · exact ⟨h.bool, h'.bool⟩
    · cases hr
  · cases hr
theorem cellsEq_sim {a a' : List D} (h : RDs S N a a') : ∀ {ks : List BK} {b b' : List D} {r : Bool}, RDs S N b b' → cellsEq ks a b = some r → a' = a ∧ b' = b := by
  induction h with
  | nil =>
    intro ks b b' r hb hr
    cases ks <;> cases hb <;> simp [cellsEq] at hr
    exact ⟨rfl, rfl⟩
  | cons h _ ih =>
    intro ks b b' r hb hr
    cases ks with
    | nil => cases hb <;> simp [cellsEq] at hr
    | cons k ks =>
      cases hb with
      | nil => simp [cellsEq] at hr
      | cons h2 k2 =>
        simp only [cellsEq] at hr
        split at hr
        · rename_i hq
          obtain ⟨e1, e2⟩ := cellEq_sim h h2 hq
          obtain ⟨e3, e4⟩ := ih k2 hr
          exact ⟨by rw [e1, e3], by rw [e2, e4]⟩
        · rename_i hq
          obtain ⟨e1, e2⟩ := cellEq_sim h h2 hq
          split at hr
          · rename_i hq2
            obtain ⟨e3, e4⟩ := ih k2 hq2
            exact ⟨by rw [e1, e3], by rw [e2, e4]⟩
          · cases hr
        · cases hr
theorem isKey_sim {k : BK} {d d' : D} (h : RD S N d d') (hk : isKey k d = true) : d' = d := by
  unfold isKey at hk
  split at hk
  · exact h.int
  · exact h.str
  · exact h.bool
  · cases hk
theorem areKeys_sim {a a' : List D} (h : RDs S N a a') : ∀ {ks : List BK}, areKeys ks a = true → a' = a := by
  induction h with
  | nil => intro _ _; rfl
  | cons h _ ih =>
    intro ks hk
    cases ks with
    | nil => simp [areKeys] at hk
    | cons k ks =>
      simp only [areKeys, Bool.and_eq_true] at hk
      rw [isKey_sim h hk.1, ih hk.2]
theorem keyOk_sim {kd : KK} {d d' : D} (h : RD S N d d') (hk : keyOk kd d = true) : d' = d := by
  unfold keyOk at hk
  split at hk
  · exact isKey_sim h hk
  · obtain ⟨cs', rfl, hc⟩ := h.of_agg
    rw [areKeys_sim hc hk]
  · cases hk
theorem keyEq_sim {kd : KK} {d e e' : D} (hd : keyOk kd d = true) (h : RD S N e e') {r : Bool} (hr : keyEq kd d e = some r) : e' = e := by
  unfold keyEq at hr
  split at hr
  · rename_i k
    have : RD S N d d := by
      simp only [keyOk] at hd
      unfold isKey at hd
      split at hd <;> first | exact .v rfl | cases hd
    exact (cellEq_sim this h hr).2
  · rename_i ks xs ys
    obtain ⟨ys', rfl, hc⟩ := h.of_agg
    have hx : RDs S N xs xs := by
      simp only [keyOk] at hd
      clear hr
      induction xs generalizing ks with
      | nil => exact .nil
      | cons x xs ih =>
        cases ks with
        | nil => simp [areKeys] at hd
        | cons k ks =>
          simp only [areKeys, Bool.and_eq_true] at hd
          refine .cons ?_ (ih _ hd.2)
          have := hd.1
          unfold isKey at this
          split at this <;> first | exact .v rfl | cases this
    rw [(cellsEq_sim hx hc hr).2]
  · cases hr

/-- Maps' entries. -/
inductive RE (S : Sl) (N : Nat) : List (Nat × D × D) → List (Nat × D × D) → Prop
  | nil : RE S N [] []
  | cons {b : Nat} {k k' x x' : D} {es es' : List (Nat × D × D)} (hk : RD S N k k') (hx : RD S N x x') (h : RE S N es es') : RE S N ((b, k, x) :: es) ((b, k', x') :: es')
theorem RE.of : ∀ {es es' : List (Nat × D × D)} (_ : es.length = es'.length) (_ : ∀ i (h : i < es.length) (h' : i < es'.length), es[i].1 = es'[i].1 ∧ RD S N es[i].2.1 es'[i].2.1 ∧ RD S N es[i].2.2 es'[i].2.2), RE S N es es'
  | [], [], _, _ => .nil
  | (b, k, x) :: es, (b', k', x') :: es', hl, h => by
    obtain ⟨h1, h2, h3⟩ := h 0 (by simp) (by simp)
    simp only [List.getElem_cons_zero] at h1 h2 h3
    subst h1
    exact .cons h2 h3 (RE.of (by simpa using hl) fun i a b => h (i + 1) (by simpa using a) (by simpa using b))
theorem RE.idx {es es' : List (Nat × D × D)} (h : RE S N es es') : es.length = es'.length ∧ ∀ i (h : i < es.length) (h' : i < es'.length), es[i].1 = es'[i].1 ∧ RD S N es[i].2.1 es'[i].2.1 ∧ RD S N es[i].2.2 es'[i].2.2 := by
  induction h with
  | nil => exact ⟨rfl, fun i h => absurd h (by simp)⟩
  | cons hk hx _ ih =>
    refine ⟨by simp [ih.1], fun i h h' => ?_⟩
    cases i with
    | zero => exact ⟨rfl, hk, hx⟩
    | succ i => exact ih.2 i (by simpa using h) (by simpa using h')
theorem RE.append {a a' b b' : List (Nat × D × D)} (h : RE S N a a') (k : RE S N b b') : RE S N (a ++ b) (a' ++ b') := by
  induction h with
  | nil => exact k
  | cons h1 h2 _ ih => exact .cons h1 h2 ih
theorem RE.modify {a a' : List (Nat × D × D)} (h : RE S N a a') {k k' x x' : D} (hk : RD S N k k') (hx : RD S N x x') : ∀ i, RE S N (a.modify i fun e => (e.1, k, x)) (a'.modify i fun e => (e.1, k', x')) := by
  induction h with
  | nil => intro i; simpa using RE.nil
  | cons h1 h2 h3 ih =>
    intro i
    cases i with
    | zero => simpa using RE.cons hk hx h3
    | succ i => simpa using RE.cons h1 h2 (ih i)
theorem findE_sim {kd : KK} {k : D} (hk : keyOk kd k = true) {es es' : List (Nat × D × D)} (h : RE S N es es') : ∀ {i : Nat} {r : Option (Nat × D)}, findE kd k es i = some r →
    (r = none ∧ findE kd k es' i = some none) ∨ ∃ j d d', r = some (j, d) ∧ findE kd k es' i = some (some (j, d')) ∧ RD S N d d' := by
  induction h with
  | nil => intro i r hr; cases hr; exact .inl ⟨rfl, rfl⟩
  | cons h1 h2 _ ih =>
    intro i r hr
    simp only [findE] at hr ⊢
    split at hr
    · rename_i hq
      have hkk := keyEq_sim hk h1 hq
      rw [hkk, hq]
      cases hr
      exact .inr ⟨_, _, _, rfl, rfl, h2⟩
    · rename_i hq
      have hkk := keyEq_sim hk h1 hq
      rw [hkk, hq]
      exact ih hr
    · cases hr
theorem mnx_sim {mx : Bool} : ∀ {ds ds' : List D} {a r : Value}, RDs S N ds ds' → plain1 a = true → mnxF mx a ds = some r → ds' = ds ∧ plain1 r = true
  | [], _, a, r, h, ha, hr => by cases h; cases hr; exact ⟨rfl, ha⟩
  | d :: ds, _, a, r, h, ha, hr => by
    cases h with
    | cons h k =>
      cases d with
      | v x =>
        simp only [mnxF, Option.bind_eq_some_iff] at hr
        obtain ⟨c, hc, hr⟩ := hr
        unfold mnxV at hc
        split at hc
        · rw [h.int]
          obtain ⟨e1, e2⟩ := mnx_sim k (by split at hc <;> (cases hc; rfl)) hr
          exact ⟨by rw [e1], e2⟩
        · cases hc
      | _ => simp [mnxF] at hr

theorem ext_sim {k : EK} {ds ds' : List D} (h : RDs S N ds ds') {d : D} (hd : extV k ds = some d) : ∃ d', extV k ds' = some d' ∧ RD S N d d' := by
  unfold extV at hd
  split at hd
  · cases hd
    cases h with
    | cons h1 h2 => cases h2; exact ⟨_, rfl, h1⟩
  · cases hd
    cases h with
    | cons h1 h2 =>
      cases h2 with
      | cons h3 h4 => cases h4; rw [h1.str, h3.int]; exact ⟨_, rfl, .v rfl⟩
  · cases hd
    cases h with
    | cons h1 h2 =>
      cases h2 with
      | cons h3 h4 => cases h4; rw [h1.str, h3.int]; exact ⟨_, rfl, .v rfl⟩
  · split at hd
    · rename_i hc
      cases hd
      cases h with
      | cons h1 h2 =>
        cases h2 with
        | cons h3 h4 =>
          cases h4 with
          | cons h5 h6 =>
            cases h6
            rw [h1.int, h3.int, h5.int]
            simp only [extV, if_pos hc]
            exact ⟨_, rfl, (RDs.cons (.v rfl) (.cons (.v rfl) .nil)).tup⟩
    · cases hd
  · cases hd
end Go.Fsl
