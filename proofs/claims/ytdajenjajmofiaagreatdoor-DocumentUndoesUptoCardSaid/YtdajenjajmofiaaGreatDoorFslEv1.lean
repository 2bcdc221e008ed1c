/- A part of our logic over the resolved code, or of a proof in it. -/
import Derived.Test.YtdajenjajmofiaaGreatDoorFslEv0
set_option linter.unusedSimpArgs false
set_option linter.unusedVariables false
namespace Go.Fsl

/-! ### A closed run: the relation -/
theorem beqd (a b : Nat) : a.beq b = decide (a = b) := by
  rw [Bool.eq_iff_iff, decide_eq_true_iff]
  exact ⟨Nat.eq_of_beq_eq_true, fun h => by subst h; simp⟩
theorem bled (a b : Nat) : Nat.ble a b = decide (a ≤ b) := by
  rw [Bool.eq_iff_iff, decide_eq_true_iff]
  exact ⟨Nat.le_of_ble_eq_true, Nat.ble_eq_true_of_le⟩
theorem bltd (a b : Nat) : Nat.blt a b = decide (a < b) := bled (a + 1) b
theorem cond_dec {α : Type} (p : Prop) [Decidable p] (a b : α) : (bif decide p then a else b) = if p then a else b := by
  by_cases h : p <;> simp [h]

section
variable {α : Type}
theorem T.get_node (l : T α) (v : Option α) (r : T α) (k : Nat) : (T.node l v r).get k = if k = 0 then v else if k % 2 = 1 then l.get (k / 2) else r.get (k / 2 - 1) := by
  simp only [T.get, beqd, cond_dec]
@[simp] theorem T.get_leaf (k : Nat) : (T.leaf : T α).get k = none := rfl
theorem T.get_set : ∀ (f : Nat) (t : T α) (k k' : Nat) (x : Option α), k + 1 < 2 ^ f → (T.set f t k x).get k' = if k' = k then x else t.get k' := by
  intro f
  induction f with
  | zero => intro t k k' x h; simp at h
  | succ f ih =>
    intro t k k' x h
    have h2 : 2 ^ (f + 1) = 2 * 2 ^ f := by rw [Nat.pow_succ, Nat.mul_comm]
    have hd : ∀ m, k = 2 * m + 1 → m + 1 < 2 ^ f := fun m e => by omega
    have he : ∀ m, k = 2 * m + 2 → m + 1 < 2 ^ f := fun m e => by omega
    by_cases h0 : k = 0
    · subst h0
      cases t with
      | leaf =>
        simp only [T.set, beqd, decide_true, cond_true, T.get_node, T.get_leaf]
        by_cases h1 : k' = 0 <;> simp [h1]
      | node l v r =>
        simp only [T.set, beqd, decide_true, cond_true, T.get_node]
        by_cases h1 : k' = 0 <;> simp [h1]
    · by_cases h1 : k % 2 = 1
      · have hk : k / 2 + 1 < 2 ^ f := hd (k / 2) (by omega)
        cases t with
        | leaf =>
          simp only [T.set, beqd, h0, h1, decide_false, decide_true, cond_false, cond_true, T.get_node, T.get_leaf, ih _ _ _ _ hk]
          by_cases h3 : k' = 0
          · subst h3; simp [Ne.symm h0]
          · by_cases h4 : k' % 2 = 1
            · simp only [h3, h4, if_false, if_true]
              by_cases h5 : k' = k
              · subst h5; simp
              · rw [if_neg (by omega), if_neg h5]
            · simp only [h3, h4, if_false]
              rw [if_neg (by rintro rfl; exact h4 h1)]
        | node l v r =>
          simp only [T.set, beqd, h0, h1, decide_false, decide_true, cond_false, cond_true, T.get_node, ih _ _ _ _ hk]
          by_cases h3 : k' = 0
          · subst h3; simp [Ne.symm h0]
          · by_cases h4 : k' % 2 = 1
            · simp only [h3, h4, if_false, if_true]
              by_cases h5 : k' = k
              · subst h5; simp
              · rw [if_neg (by omega), if_neg h5]
            · simp only [h3, h4, if_false]
              rw [if_neg (by rintro rfl; exact h4 h1)]
      · have hk : k / 2 - 1 + 1 < 2 ^ f := he (k / 2 - 1) (by omega)
        cases t with
        | leaf =>
          simp only [T.set, beqd, h0, h1, decide_false, cond_false, T.get_node, T.get_leaf, ih _ _ _ _ hk]
          by_cases h3 : k' = 0
          · subst h3; simp [Ne.symm h0]
          · by_cases h4 : k' % 2 = 1
            · simp only [h3, h4, if_false, if_true]
              rw [if_neg (by rintro rfl; exact h1 h4)]
            · simp only [h3, h4, if_false]
              by_cases h5 : k' = k
              · subst h5; simp
              · rw [if_neg (by omega), if_neg h5]
        | node l v r =>
          simp only [T.set, beqd, h0, h1, decide_false, cond_false, T.get_node, ih _ _ _ _ hk]
          by_cases h3 : k' = 0
          · subst h3; simp [Ne.symm h0]
          · by_cases h4 : k' % 2 = 1
            · simp only [h3, h4, if_false, if_true]
              rw [if_neg (by rintro rfl; exact h1 h4)]
            · simp only [h3, h4, if_false]
              by_cases h5 : k' = k
              · subst h5; simp
              · rw [if_neg (by omega), if_neg h5]
theorem T.get_put (t : T α) {k : Nat} (k' : Nat) (x : α) (h : k < 4294967295) : (t.put k x).get k' = if k' = k then some x else t.get k' :=
  T.get_set 32 t k k' (some x) (by omega)
theorem T.get_del (t : T α) {k : Nat} (k' : Nat) (h : k < 4294967295) : (t.del k).get k' = if k' = k then none else t.get k' :=
  T.get_set 32 t k k' none (by omega)
end

/-- What the runner's numbers stand for. -/
structure Sl where
  blk : Nat → Nat
  base : Nat → Nat
  sz : Nat → Nat
  room : Nat → Nat
  len : Nat → Nat
  cap : Nat → Nat
  lp : Nat → Tmps × Nat × List Nat × RCode × RCode
def Sl.ext (S S' : Sl) (N : Nat) : Prop := ∀ a, a < N → S'.blk a = S.blk a ∧ S'.base a = S.base a ∧ S'.sz a = S.sz a ∧ S'.room a = S.room a ∧ S'.len a = S.len a ∧ S'.cap a = S.cap a ∧ S'.lp a = S.lp a
theorem Sl.ext.refl (S : Sl) (N : Nat) : S.ext S N := fun _ _ => ⟨rfl, rfl, rfl, rfl, rfl, rfl, rfl⟩
theorem Sl.ext.trans {S S' S'' : Sl} {N N' : Nat} (h : S.ext S' N) (k : S'.ext S'' N') (hn : N ≤ N') : S.ext S'' N := fun a ha => by
  obtain ⟨a1, a2, a3, a4, a5, a6, a7⟩ := h a ha
  obtain ⟨b1, b2, b3, b4, b5, b6, b7⟩ := k a (by omega)
  exact ⟨b1.trans a1, b2.trans a2, b3.trans a3, b4.trans a4, b5.trans a5, b6.trans a6, b7.trans a7⟩

inductive RD (S : Sl) (N : Nat) : D → D → Prop
  | v {x : Value} (h : plainV x = true) : RD S N (.v x) (.v x)
  | ptr {a off : Nat} (h : a < N) : RD S N (.ptr a off) (.ptr (S.blk a) (S.base a + off))
  | sx {a off n c : Nat} (h : a < N) (hnc : n ≤ c) (hb : c < BIG) (hr : S.base a + off + c * S.sz a ≤ S.room a) (hl : S.base a + off + n * S.sz a ≤ S.len a) :
      RD S N (.v (.slice (some ⟨a, off, none⟩) n c)) (.v (.slice (some ⟨S.blk a, S.base a + off, none⟩) n c))
  | so {a q n : Nat} (h : a < N) (hn : n + q ≤ S.cap a) (hr : S.base a + S.cap a * S.sz a ≤ S.room a) (hl : S.base a + (q + n) * S.sz a ≤ S.len a) (hz : 0 < S.sz a) :
      RD S N (.v (.slice (some ⟨a, q * S.sz a, none⟩) n BIG)) (.v (.slice (some ⟨S.blk a, S.base a + q * S.sz a, none⟩) n (S.cap a - q)))
  | st {a off off' : Nat} (h : a < N) (hl : off' ≤ S.len a) (hr : off' ≤ S.room a) :
      RD S N (.v (.slice (some ⟨a, off, none⟩) 0 BIG)) (.v (.slice (some ⟨S.blk a, off', none⟩) 0 0))
  | map {a : Nat} (h : a < N) : RD S N (.v (.map (some a))) (.v (.map (some (S.blk a))))
  | yld {a : Nat} (h : a < N) : RD S N (.v (.func (.yield a) #[] #[])) (.v (.func (.yield (S.blk a)) #[] #[]))
  | agg {cs cs' : List D} (hl : cs.length = cs'.length) (hr : ∀ i (h : i < cs.length) (h' : i < cs'.length), RD S N cs[i] cs'[i]) : RD S N (.agg cs) (.agg cs')
  | tup {cs cs' : List D} (hl : cs.length = cs'.length) (hr : ∀ i (h : i < cs.length) (h' : i < cs'.length), RD S N cs[i] cs'[i]) : RD S N (.tup cs) (.tup cs')
  | fn {f : FuncId} {cs cs' : List D} (hl : cs.length = cs'.length) (hr : ∀ i (h : i < cs.length) (h' : i < cs'.length), RD S N cs[i] cs'[i]) : RD S N (.fn f cs) (.fn f cs')

theorem RD.ext {S S' : Sl} {N N' : Nat} (hx : S.ext S' N) (hn : N ≤ N') {d d' : D} (h : RD S N d d') : RD S' N' d d' := by
  induction h with
  | v h => exact .v h
  | ptr h =>
    obtain ⟨e1, e2, e3, e4, e5, e6, _⟩ := hx _ h
    rw [← e1, ← e2]; exact .ptr (by omega)
  | sx h hnc hb hr hl =>
    obtain ⟨e1, e2, e3, e4, e5, e6, _⟩ := hx _ h
    rw [← e1, ← e2]; exact .sx (by omega) hnc hb (by rw [e2, e3, e4]; exact hr) (by rw [e2, e3, e5]; exact hl)
  | so h hn' hr hl hz =>
    obtain ⟨e1, e2, e3, e4, e5, e6, _⟩ := hx _ h
    rw [← e1, ← e2, ← e3, ← e6]; exact .so (by omega) (by omega) (by rw [e2, e3, e4, e6]; exact hr) (by rw [e2, e3, e5]; exact hl) (by rw [e3]; exact hz)
  | st h hl hr =>
    obtain ⟨e1, e2, e3, e4, e5, e6, _⟩ := hx _ h
    rw [← e1]; exact .st (by omega) (by rw [e5]; exact hl) (by rw [e4]; exact hr)
  | map h =>
    obtain ⟨e1, _⟩ := hx _ h
    rw [← e1]; exact .map (by omega)
  | yld h =>
    obtain ⟨e1, _⟩ := hx _ h
    rw [← e1]; exact .yld (by omega)
  | agg hl hr ih => exact .agg hl ih
  | tup hl hr ih => exact .tup hl ih
  | fn hl hr ih => exact .fn hl ih

/-- Lists, side by side. -/
inductive RDs (S : Sl) (N : Nat) : List D → List D → Prop
  | nil : RDs S N [] []
  | cons {d d' : D} {ds ds' : List D} (h : RD S N d d') (k : RDs S N ds ds') : RDs S N (d :: ds) (d' :: ds')

section
variable {S : Sl} {N : Nat}
theorem RDs.length {ds ds' : List D} (h : RDs S N ds ds') : ds.length = ds'.length := by
  induction h with
  | nil => rfl
  | cons h k ih => simp [ih]
theorem RDs.get {ds ds' : List D} (h : RDs S N ds ds') : ∀ i (h : i < ds.length) (h' : i < ds'.length), RD S N ds[i] ds'[i] := by
  induction h with
  | nil => intro i h; simp at h
  | cons h k ih =>
    intro i hi hi'
    cases i with
    | zero => exact h
    | succ i => exact ih i (by simpa using hi) (by simpa using hi')
theorem RDs.of : ∀ {ds ds' : List D} (_ : ds.length = ds'.length) (_ : ∀ i (h : i < ds.length) (h' : i < ds'.length), RD S N ds[i] ds'[i]), RDs S N ds ds'
  | [], [], _, _ => .nil
  | d :: ds, d' :: ds', hl, h => .cons (h 0 (by simp) (by simp)) (RDs.of (by simpa using hl) fun i h1 h2 => h (i + 1) (by simpa using h1) (by simpa using h2))
theorem RDs.agg {ds ds' : List D} (h : RDs S N ds ds') : RD S N (.agg ds) (.agg ds') := .agg h.length h.get
theorem RDs.tup {ds ds' : List D} (h : RDs S N ds ds') : RD S N (.tup ds) (.tup ds') := .tup h.length h.get
theorem RDs.fn {f : FuncId} {ds ds' : List D} (h : RDs S N ds ds') : RD S N (.fn f ds) (.fn f ds') := .fn h.length h.get
theorem RDs.get? {ds ds' : List D} (h : RDs S N ds ds') {i : Nat} {d : D} (hd : ds[i]? = some d) : ∃ d', ds'[i]? = some d' ∧ RD S N d d' := by
  obtain ⟨hlt, rfl⟩ := List.getElem?_eq_some_iff.1 hd
  have hlt' : i < ds'.length := by rw [← h.length]; exact hlt
  exact ⟨_, List.getElem?_eq_getElem hlt', h.get i hlt hlt'⟩
theorem RDs.append {a a' b b' : List D} (h : RDs S N a a') (k : RDs S N b b') : RDs S N (a ++ b) (a' ++ b') := by
  induction h with
  | nil => exact k
  | cons h _ ih => exact .cons h ih
theorem RDs.take {a a' : List D} (h : RDs S N a a') : ∀ n, RDs S N (a.take n) (a'.take n) := by
  induction h with
  | nil => intro n; simpa using RDs.nil
  | cons h _ ih =>
    intro n
    cases n with
    | zero => exact .nil
    | succ n => exact .cons h (ih n)
theorem RDs.drop {a a' : List D} (h : RDs S N a a') : ∀ n, RDs S N (a.drop n) (a'.drop n) := by
  induction h with
  | nil => intro n; simpa using RDs.nil
  | cons h k ih =>
    intro n
    cases n with
    | zero => exact .cons h k
    | succ n => exact ih n
theorem RDs.set {a a' : List D} (h : RDs S N a a') {d d' : D} (hd : RD S N d d') : ∀ n, RDs S N (a.set n d) (a'.set n d') := by
  induction h with
  | nil => intro n; exact .nil
  | cons h k ih =>
    intro n
    cases n with
    | zero => exact .cons hd k
    | succ n => exact .cons h (ih n)
theorem RDs.setMany {ds ds' : List D} (h : RDs S N ds ds') : ∀ {a a' : List D} (_ : RDs S N a a') n, RDs S N (setMany a n ds) (setMany a' n ds') := by
  induction h with
  | nil => intro a a' ha n; exact ha
  | cons h k ih => intro a a' ha n; exact ih (ha.set h n) (n + 1)
theorem RDs.one {d d' : D} (h : RD S N d d') : RDs S N [d] [d'] := .cons h .nil
theorem RDs.ext {S' : Sl} {N' : Nat} (hx : S.ext S' N) (hn : N ≤ N') {ds ds' : List D} (h : RDs S N ds ds') : RDs S' N' ds ds' := by
  induction h with
  | nil => exact .nil
  | cons h _ ih => exact .cons (h.ext hx hn) ih
theorem RDs.flatten {m : Nat} {zs : List D} (h : RDs S N zs zs) : RDs S N (List.replicate m zs).flatten (List.replicate m zs).flatten := by
  induction m with
  | zero => exact .nil
  | succ m ih => rw [List.replicate_succ, List.flatten_cons]; exact h.append ih
theorem RDs.bytes (l : List UInt8) : RDs S N (l.map byteD) (l.map byteD) := by
  induction l with
  | nil => exact .nil
  | cons b l ih => exact .cons (.v rfl) ih
theorem RD.leaf {d : D} (h : plainL d = true) : RD S N d d := by
  cases d with
  | v x => exact .v h
  | fn f cs =>
    cases cs with
    | nil => exact .fn rfl (fun i h => absurd h (by simp))
    | cons => simp [plainL] at h
  | _ => simp [plainL] at h
theorem RDs.leaves : ∀ {cs : List D}, cs.all plainL = true → RDs S N cs cs
  | [], _ => .nil
  | c :: cs, h => by
    simp only [List.all_cons, Bool.and_eq_true] at h
    exact .cons (.leaf h.1) (RDs.leaves h.2)
theorem RD.const {G : Nat} (hg : ∀ g, g < G → S.blk g = g ∧ S.base g = 0) (hG : G ≤ N) {d : D} (h : plainC G d = true) : RD S N d d := by
  unfold plainC at h
  split at h
  · rename_i g off
    have hlt : g < G := by simpa [bltd] using h
    obtain ⟨e1, e2⟩ := hg g hlt
    have := RD.ptr (S := S) (N := N) (a := g) (off := off) (by omega)
    rw [e1, e2, Nat.zero_add] at this
    exact this
  · exact RDs.nil.tup
  · exact (RDs.leaves h).agg
  · exact .leaf h
end

/-- Frames. -/
def FR (S : Sl) (N : Nat) (τ : T D) (τ' : Tmps) : Prop := ∀ t, RD S N (fr τ t) (τ' t)

/-- Objects. -/
def OK (S : Sl) (N G a : Nat) : AO → O → Prop
  | .cells cs sz ty, .cells cs' frz room ty' => RDs S N cs (cs'.drop (S.base a)) ∧ (G ≤ a → frz ≤ S.base a) ∧ (0 < sz → room = S.room a) ∧ sz = S.sz a ∧ cs'.length = S.len a ∧ S.base a ≤ cs'.length ∧
      (∀ t, ty = some t → ty' = some t) ∧ (sz = 0 ∨ ty ≠ none → S.base a = 0)
  | .map es cl, .map es' cl' => cl = cl' ∧ es.length = es'.length ∧ ∀ i (h : i < es.length) (h' : i < es'.length), es[i].1 = es'[i].1 ∧ RD S N es[i].2.1 es'[i].2.1 ∧ RD S N es[i].2.2 es'[i].2.2
  | .siter s p, .siter s' p' => s = s' ∧ p = p' ∧ S.base a = 0
  | .miter m si se stp, .miter m' si' se' stp' => m < N ∧ m' = S.blk m ∧ si = si' ∧ se = se' ∧ stp = stp' ∧ S.base a = 0
  | .loop ls pend τ n ps asg body, .loop ls' pend' τ' n' ps' asg' body' => ls = ls' ∧ pend = pend' ∧ FR S N τ τ' ∧ n = n' ∧ ps = ps' ∧ asg = asg' ∧ body = body' ∧
      S.lp a = (τ', n', ps', asg', body') ∧ okCodeC G asg = true ∧ okCodeC G body = true ∧ ps.all (Nat.blt · 4000000000) = true
  | _, _ => False

theorem FR.ext {S S' : Sl} {N N' : Nat} (hx : S.ext S' N) (hn : N ≤ N') {τ : T D} {τ' : Tmps} (h : FR S N τ τ') : FR S' N' τ τ' := fun t => (h t).ext hx hn

theorem OK.ext {S S' : Sl} {N N' G a : Nat} (hx : S.ext S' N) (hn : N ≤ N') (ha : a < N) {o : AO} {o' : O} (h : OK S N G a o o') : OK S' N' G a o o' := by
  obtain ⟨e1, e2, e3, e4, e5, e6, e7⟩ := hx a ha
  cases o <;> cases o' <;> simp only [OK] at h ⊢
  case cells.cells =>
    obtain ⟨h1, h2, h3, h4, h5, h6, h7⟩ := h
    exact ⟨by rw [e2]; exact h1.ext hx hn, by rw [e2]; exact h2, by rw [e4]; exact h3, by rw [e3]; exact h4, by rw [e5]; exact h5, by rw [e2]; exact h6, by rw [e2]; exact h7⟩
  case map.map => exact ⟨h.1, h.2.1, fun i a b => ⟨(h.2.2 i a b).1, (h.2.2 i a b).2.1.ext hx hn, (h.2.2 i a b).2.2.ext hx hn⟩⟩
  case siter.siter => exact ⟨h.1, h.2.1, by rw [e2]; exact h.2.2⟩
  case miter.miter =>
    obtain ⟨h1, h2, h3⟩ := h
    exact ⟨by omega, by rw [(hx _ h1).1]; exact h2, h3.1, h3.2.1, h3.2.2.1, by rw [e2]; exact h3.2.2.2⟩
  case loop.loop =>
    obtain ⟨h1, h2, h3, h4⟩ := h
    exact ⟨h1, h2, h3.ext hx hn, h4.1, h4.2.1, h4.2.2.1, h4.2.2.2.1, by rw [e7]; exact h4.2.2.2.2.1, h4.2.2.2.2.2⟩

/-- The runner's heap and the heap. -/
structure HR (S : Sl) (G : Nat) (st : St) (H0 H : Heap) : Prop where
  hG : G ≤ st.N
  big : st.N ≤ 4000000000
  glob : ∀ g, g < G → S.blk g = g ∧ S.base g = 0
  live : ∀ a o, st.A.get a = some o → a < st.N
  inj : ∀ a b o p, st.A.get a = some o → st.A.get b = some p → S.blk a = S.blk b → a = b
  obj : ∀ a o, st.A.get a = some o → ∃ o', H (S.blk a) = some o' ∧ OK S st.N G a o o'
  out : ∀ a o, st.A.get a = some o → G ≤ a → H0 (S.blk a) = none
  sub : HSub H0 H

/-- On from a state. -/
structure On (S : Sl) (N : Nat) (S' : Sl) (N' : Nat) : Prop where
  ext : S.ext S' N
  le : N ≤ N'
theorem On.refl (S : Sl) (N : Nat) : On S N S N := ⟨.refl S N, Nat.le_refl _⟩
theorem On.trans {S S' S'' : Sl} {N N' N'' : Nat} (h : On S N S' N') (k : On S' N' S'' N'') : On S N S'' N'' := ⟨h.ext.trans k.ext h.le, Nat.le_trans h.le k.le⟩
end Go.Fsl
