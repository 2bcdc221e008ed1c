/- A part of our logic over the resolved code, or of a proof in it. -/
import Derived.Test.YtdajenjajmofiaaGreatDoorFslEv4
set_option linter.unusedSimpArgs false
set_option linter.unusedVariables false
namespace Go.Fsl
variable {P : Program} {C : CallSem} {S : Sl} {G : Nat} {τ : T D} {τ' : Tmps} {st : St} {H0 H : Heap} {h : Hnd}

/-- Whom a call goes to. -/
inductive CR (S : Sl) (N : Nat) : Cal → Cal → Prop
  | fn (f : FuncId) : CR S N (.fn f) (.fn f)
  | yld {a : Nat} (h : a < N) : CR S N (.yld a) (.yld (S.blk a))

/-- What is told of all that comes out. -/
def Aft (S : Sl) (N G : Nat) (H0 : Heap) (outs : List (D × St)) (K : D → Heap → Prop) : Prop :=
  ∀ p ∈ outs, ∀ S' H' d', On S N S' p.2.N → HR S' G p.2 H0 H' → RD S' p.2.N p.1 d' → K d' H'
def HS (G : Nat) (h : Hnd) (C : CallSem) : Prop :=
  ∀ c c' ds ds' st outs S H0 H K, h c ds st = some outs → HR S G st H0 H → RDs S st.N ds ds' → CR S st.N c c' → Aft S st.N G H0 outs K → C c' ds' H K

theorem Aft.one {S : Sl} {N : Nat} {K : D → Heap → Prop} {d : D} {st : St} (h : Aft S N G H0 [(d, st)] K) : ∀ S' H' d', On S N S' st.N → HR S' G st H0 H' → RD S' st.N d d' → K d' H' :=
  h _ (List.mem_singleton.2 rfl)

theorem mk_some {o : AO} {d : D} {outs : List (D × St)} (hm : mk st o d = some outs) : st.N < 4000000000 ∧ outs = [(d, st.new o)] := by
  simp only [mk, bltd, cond_dec] at hm
  split at hm
  · rename_i h; cases hm; exact ⟨h, rfl⟩
  · cases hm

theorem Ghost.refl' (P : Program) (ds : List D) (H : Heap) : Ghost P ds H ds H :=
  ⟨fun _ h => h, fun F w _ hR hv => ⟨F, Step.refl F w H, hR, hv⟩⟩

/-- A new object, and what it is called. -/
theorem new_sim (hR : HR S G st H0 H) {outs : List (D × St)} {K : D → Heap → Prop} {o : AO} {d : D} (hm : mk st o d = some outs) (hA : Aft S st.N G H0 outs K) {b base sz room len cap : Nat} {lp : Tmps × Nat × List Nat × RCode × RCode}
    {H1 : Heap} (hR1 : HR S G st H0 H1) (hb : H1 b = none) {o' : O} (ho : OK (S.upd st.N b base sz room len cap lp) (st.N + 1) G st.N o o') {d' : D} (hd : RD (S.upd st.N b base sz room len cap lp) (st.N + 1) d d') :
    K d' (H1.ins b o') := by
  obtain ⟨hN, rfl⟩ := mk_some hm
  exact hA.one _ _ _ (On.upd S st.N b base sz room len cap lp) (hR1.new hN hb (Sl.upd_ext S st.N b base sz room len cap lp) (Sl.upd_at S st.N b base sz room len cap lp).1 ho) hd

theorem RDs.on {N N' : Nat} {S' : Sl} (ho : On S N S' N') {ds ds' : List D} (h : RDs S N ds ds') : RDs S' N' ds ds' := h.ext ho.ext ho.le
theorem RD.on {N N' : Nat} {S' : Sl} (ho : On S N S' N') {d d' : D} (h : RD S N d d') : RD S' N' d d' := h.ext ho.ext ho.le

theorem OK.cells_new {N b sz room : Nat} {cs cs' : List D} {ty ty' : Option TypeId} {lp : Tmps × Nat × List Nat × RCode × RCode} {cap : Nat} (h : RDs S N cs cs') (hr : 0 < sz → room = room) (hty : ∀ t, ty = some t → ty' = some t) :
    OK (S.upd N b 0 sz room cs'.length cap lp) (N + 1) G N (.cells cs sz ty) (.cells cs' 0 room ty') := by
  obtain ⟨e1, e2, e3, e4, e5, e6, e7⟩ := Sl.upd_at S N b 0 sz room cs'.length cap lp
  refine ⟨by rw [e2]; exact h.on (On.upd S N b 0 sz room cs'.length cap lp), fun _ => Nat.zero_le _, fun _ => e4.symm, e3.symm, e5.symm, by rw [e2]; exact Nat.zero_le _, hty, fun _ => e2⟩

theorem strictL_eq : ∀ {cs : List D} {l : List UInt8}, strictL cs = some l → cs = l.map byteD
  | [], l, h => by cases h; rfl
  | d :: ds, l, h => by
    simp only [strictL] at h
    split at h
    · rename_i b l' hb hl
      cases h
      rw [List.map_cons, ← strictL_eq hl]
      congr 1
      unfold strictB at hb
      split at hb
      · rename_i n
        split at hb
        · rename_i hn
          cases hb
          simp only [byteD]
          congr 2
          rw [UInt8.toNat_ofNat']
          omega
        · cases hb
      · cases hb
    · cases h

theorem RDs.bytes_eq : ∀ {l : List UInt8} {N : Nat} {cs' : List D}, RDs S N (l.map byteD) cs' → cs' = l.map byteD
  | [], _, _, h => by cases h; rfl
  | b :: l, _, _, h => by
    cases h with
    | cons h k => rw [RDs.bytes_eq k, h.int]; rfl
theorem bytesOf_sim {N : Nat} {cs cs' : List D} (h : RDs S N cs cs') : ∀ {l : List UInt8}, bytesOf cs = some l → cs' = cs := by
  induction h with
  | nil => intro l _; rfl
  | cons h _ ih =>
    intro l hl
    simp only [bytesOf, List.mapM_cons, Option.bind_eq_bind, Option.bind_eq_some_iff] at hl
    obtain ⟨b, hb, l', hl', _⟩ := hl
    unfold byteOf at hb
    split at hb
    · rw [h.int, ih hl']
    · cases hb

theorem optInt_none (τ : Tmps) (d : Nat) : optInt τ d none = some (d : Int) := rfl
theorem optInt_some (τ : Tmps) (d : Nat) (x : RO) : optInt τ d (some x) = intD (x.ev τ) := rfl
theorem slc_sim (hR : HR S G st H0 H) (hF : FR S st.N τ τ') {sz a off n c : Nat} {lo hi mx : Option RO} (h1 : okROo G lo = true) (h2 : okROo G hi = true) (h3 : okROo G mx = true) {d : D}
    (hd : slcA τ st.A sz a off n c lo hi mx = some d) {x' : D} (hx : RD S st.N (.v (.slice (some ⟨a, off, none⟩) n c)) x') {K : D → Heap → Prop} (hK : ∀ d', RD S st.N d d' → K d' H) {x : RO} (hxe : x.ev τ' = x') :
    opW P C (.slc false sz x lo hi mx) τ' H K := by
  have hg := hR.gl
  simp only [opW, hxe]
  simp only [slcA] at hd
  split at hd
  · rename_i cs sz' ty hA
    obtain ⟨o', e1, e2⟩ := hR.obj a _ hA
    obtain ⟨cs', frz, room, ty', rfl⟩ := e2.cells_of
    obtain ⟨f1, f2, f3, f4, f5, f6, f7⟩ := e2
    simp only [beqd, cond_dec] at hd
    split at hd
    · rename_i hsz
      subst hsz
      subst f4
      split at hd
      · -- no third bound
        split at hd
        · rename_i l hh hl hhh
          have g1 := opt_sim hg hF h1 hl
          have g2 := opt_sim hg hF h2 hhh
          split at hd
          · rename_i hc
            simp only [bltd, cond_dec] at hd
            cases hx with
            | v hx => simp [plainV, plain1] at hx
            | sx h hnc hb hr hl' =>
              rw [if_pos hb] at hd
              cases hd
              simp only [g1, g2, optInt_none]
              refine ⟨trivial, by omega, by omega, by omega, by omega, hK _ ?_⟩
              have e5 : ((c : Int).toNat) = c := rfl
              rw [e5]
              by_cases hcl : (c : Int) = l
              · rw [if_pos hcl, if_pos hcl]
                have hl0 : l.toNat = c := by omega
                have hnl : hh.toNat - l.toNat = 0 := by omega
                have hcl0 : c - l.toNat = 0 := by omega
                rw [hnl, hcl0]
                exact .sx h (Nat.le_refl _) (by decide) (by rw [Nat.zero_mul]; have := Nat.zero_le (c * S.sz a); omega) (by rw [Nat.zero_mul]; have := Nat.zero_le (n * S.sz a); omega)
              · rw [if_neg hcl, if_neg hcl, Nat.add_assoc]
                have m1 : l.toNat * S.sz a + (c - l.toNat) * S.sz a = c * S.sz a := by rw [← Nat.add_mul]; congr 1; omega
                have m2 : l.toNat * S.sz a + (hh.toNat - l.toNat) * S.sz a = hh.toNat * S.sz a := by rw [← Nat.add_mul]; congr 1; omega
                have m3 : hh.toNat * S.sz a ≤ n * S.sz a := Nat.mul_le_mul_right _ (by omega)
                exact .sx h (by omega) (by omega) (by omega) (by omega)
            | so h hn hr hl' hz =>
              rename_i q
              rw [if_neg (by decide), if_pos rfl] at hd
              cases hd
              simp only [g1, g2, optInt_none]
              refine ⟨trivial, by omega, by omega, by omega, by omega, hK _ ?_⟩
              by_cases hcl : ((S.cap a - q : Nat) : Int) = l
              · rw [if_pos hcl]
                have hnl : hh.toNat - l.toNat = 0 := by omega
                have hcl0 : ((S.cap a - q : Nat) : Int).toNat - l.toNat = 0 := by omega
                rw [hnl, hcl0]
                have m1 : (q + n) * S.sz a = q * S.sz a + n * S.sz a := Nat.add_mul ..
                have m2 : q * S.sz a ≤ S.cap a * S.sz a := Nat.mul_le_mul_right _ (by omega)
                exact .st h (by omega) (by omega)
              · rw [if_neg hcl, Nat.add_assoc]
                have m0 : q * S.sz a + l.toNat * S.sz a = (q + l.toNat) * S.sz a := by rw [Nat.add_mul]
                have m1 : ((S.cap a - q : Nat) : Int).toNat - l.toNat = S.cap a - (q + l.toNat) := by omega
                rw [m0, m1]
                have m2 : (q + l.toNat + (hh.toNat - l.toNat)) * S.sz a ≤ (q + n) * S.sz a := Nat.mul_le_mul_right _ (by omega)
                exact .so h (by omega) hr (by omega) hz
            | st h hl' hr =>
              rw [if_neg (by decide), if_pos rfl] at hd
              cases hd
              simp only [g1, g2, optInt_none]
              refine ⟨trivial, by omega, by omega, by omega, by omega, hK _ ?_⟩
              rw [if_pos (by omega)]
              have hnl : hh.toNat - l.toNat = 0 := by omega
              have hcl0 : ((0 : Nat) : Int).toNat - l.toNat = 0 := by omega
              rw [hnl, hcl0]
              exact .st h hl' hr
          · cases hd
        · cases hd
      · rename_i mx
        split at hd
        · rename_i l hh m hl hhh hm
          have g1 := opt_sim hg hF h1 hl
          have g2 := opt_sim hg hF h2 hhh
          have g3 := opt_sim' hg hF h3 hm
          split at hd
          · rename_i hc
            obtain ⟨rfl, rfl, rfl, hnz⟩ := hc
            cases hd
            cases hx with
            | v hx => simp [plainV, plain1] at hx
            | sx h hnc hb hr hl' =>
              simp only [g1, g2, g3, optInt_some]
              refine ⟨trivial, by omega, by omega, by omega, by omega, hK _ ?_⟩
              exact .sx h (Nat.le_refl _) (by decide) (by rw [Nat.zero_mul]; have := Nat.zero_le (c * S.sz a); omega) (by rw [Nat.zero_mul]; have := Nat.zero_le (n * S.sz a); omega)
            | so h hn hr hl' hz =>
              rename_i q
              simp only [g1, g2, g3, optInt_some]
              refine ⟨trivial, by omega, by omega, by omega, by omega, hK _ ?_⟩
              have m2 : q * S.sz a ≤ S.cap a * S.sz a := Nat.mul_le_mul_right _ (by omega)
              have m1 : (q + n) * S.sz a = q * S.sz a + n * S.sz a := Nat.add_mul ..
              exact .sx h (Nat.le_refl _) (by decide) (by rw [Nat.zero_mul]; omega) (by rw [Nat.zero_mul]; omega)
            | st h hl' hr => omega
          · cases hd
        · cases hd
    · cases hd
  · cases hd
end Go.Fsl
