/- A part of our logic over the resolved code, or of a proof in it. -/
import Derived.Test.YtdajenjajmofiaaGreatDoorFslSound10b
set_option linter.unusedSimpArgs false
set_option linter.unusedVariables false
namespace Go.Fsl
variable {P : Program} {F : Fz} {w : World} {H : Heap} {n : Nat} {τ : Tmps} {a : Act} {K : D → Heap → Prop} {C : CallSem} {o : Oper}

def isCall : ROp → Bool
  | .call .. => true
  | _ => false


theorem op_does1 (hR : Rel P F w H) (hT : TR F w n τ a.tmps) {r : ROp} (hr : rOp P o = some r) (hok : okOp n r = true) (hc : isCall r = false) (h : opW P C r τ H K)
    (hn : (∀ c, o.op ≠ .call c) ∧ (∀ a b c d e, o.op ≠ .binOp a b c d e) ∧ (∀ a b c, o.op ≠ .convert a b c)) : Does P F w H a o K := by
  cases ho : o.op with
  | call c => exact absurd ho (hn.1 _)
  | binOp => exact absurd ho (hn.2.1 _ _ _ _ _)
  | convert => exact absurd ho (hn.2.2 _ _ _)
  | move x =>
    simp only [rOp, ho, Option.bind_eq_bind, Option.bind_eq_some_iff, Option.pure_def, Option.some.injEq, Option.map_eq_some_iff, Option.bind_some, Option.bind_none, Bool.and_eq_true] at hr
    obtain ⟨rx, h1, rfl⟩ := hr
    exact s_mov hR hT (.inl ho) h1 hok h
  | assign x =>
    simp only [rOp, ho, Option.bind_eq_bind, Option.bind_eq_some_iff, Option.pure_def, Option.some.injEq, Option.map_eq_some_iff, Option.bind_some, Option.bind_none, Bool.and_eq_true] at hr
    obtain ⟨rx, h1, rfl⟩ := hr
    exact s_mov hR hT (.inr ho) h1 hok h
  | pick c x y =>
    simp only [rOp, ho, Option.bind_eq_bind, Option.bind_eq_some_iff, Option.pure_def, Option.some.injEq, Option.map_eq_some_iff, Option.bind_some, Option.bind_none, Bool.and_eq_true] at hr
    obtain ⟨rc, h1, rx, h2, ry, h3, rfl⟩ := hr
    simp only [okOp, Bool.and_eq_true] at hok
    exact s_pick hR hT ho h1 h2 h3 hok.1.1 hok.1.2 hok.2 h
  | alloc t =>
    simp only [rOp, ho, Option.bind_eq_bind, Option.bind_eq_some_iff, Option.pure_def, Option.some.injEq, Option.map_eq_some_iff, Option.bind_some, Option.bind_none, Bool.and_eq_true] at hr
    obtain ⟨cs, h1, rfl⟩ := hr
    exact s_alloc hR ho h1 h
  | box t x =>
    simp only [rOp, ho, Option.bind_eq_bind, Option.bind_eq_some_iff, Option.pure_def, Option.some.injEq, Option.map_eq_some_iff, Option.bind_some, Option.bind_none, Bool.and_eq_true] at hr
    obtain ⟨cs, h1, rfl⟩ := hr
    exact s_box hR hT ho h1 hok h
  | build t parts =>
    simp only [rOp, ho, Option.bind_eq_bind, Option.bind_eq_some_iff, Option.pure_def, Option.some.injEq, Option.map_eq_some_iff, Option.bind_some, Option.bind_none, Bool.and_eq_true] at hr
    split at hr
    · rename_i fs hu
      simp only [Option.bind_eq_some_iff, Option.some.injEq] at hr
      obtain ⟨ps, h1, zs, h2, rps, h3, rfl⟩ := hr
      exact s_build_struct hR hT ho hu h1 h2 h3 hok h
    · rename_i l e hu
      simp only [Option.bind_eq_some_iff, Option.some.injEq] at hr
      obtain ⟨s, h1, zs, h2, rps, h3, rfl⟩ := hr
      exact s_build_array hR hT ho hu h1 h2 h3 hok h
    · cases hr
  | buildSlice t len parts =>
    simp only [rOp, ho, Option.bind_eq_bind, Option.bind_eq_some_iff, Option.pure_def, Option.some.injEq, Option.map_eq_some_iff, Option.bind_some, Option.bind_none, Bool.and_eq_true] at hr
    split at hr
    · rename_i e hu
      simp only [Option.bind_eq_some_iff] at hr
      obtain ⟨s, h1, hr⟩ := hr
      split at hr
      · cases hr
      · rename_i hlim
        split at hr
        · cases hr
        · rename_i hs0
          simp only [Option.bind_eq_some_iff, Option.some.injEq] at hr
          obtain ⟨zs, h2, rps, h3, rfl⟩ := hr
          exact s_bslice hR hT ho hu h1 h2 hlim hs0 h3 hok h
    · cases hr
  | load t x =>
    simp only [rOp, ho, Option.bind_eq_bind, Option.bind_eq_some_iff, Option.pure_def, Option.some.injEq, Option.map_eq_some_iff, Option.bind_some, Option.bind_none, Bool.and_eq_true] at hr
    obtain ⟨g, hg, k, hk, x, hx, rfl⟩ := hr
    exact s_load hR hT ho hg hk hx hok h
  | store t x y =>
    simp only [rOp, ho, Option.bind_eq_bind, Option.bind_eq_some_iff, Option.pure_def, Option.some.injEq, Option.map_eq_some_iff, Option.bind_some, Option.bind_none, Bool.and_eq_true] at hr
    obtain ⟨k, hk, x, hx, y, hy, rfl⟩ := hr
    simp only [okOp, Bool.and_eq_true] at hok
    exact s_store hR hT ho hk hx hy hok.1 hok.2 h
  | nilCheck x =>
    simp only [rOp, ho, Option.bind_eq_bind, Option.bind_eq_some_iff, Option.pure_def, Option.some.injEq, Option.map_eq_some_iff, Option.bind_some, Option.bind_none, Bool.and_eq_true] at hr
    obtain ⟨rx, h1, rfl⟩ := hr
    exact s_nilck hR hT ho h1 hok h
  | unOp op t x =>
    simp only [rOp, ho, Option.bind_eq_bind, Option.bind_eq_some_iff, Option.pure_def, Option.some.injEq, Option.map_eq_some_iff, Option.bind_some, Option.bind_none, Bool.and_eq_true] at hr
    obtain ⟨rx, h1, rfl⟩ := hr
    exact s_un hR hT ho h1 hok h
  | makeInterface t x =>
    simp only [rOp, ho] at hr
    cases hu : P.underlying t with
    | none => rw [hu] at hr; cases hr
    | some d =>
      rw [hu] at hr
      have key : (∀ ms, d ≠ .interface ms) ∧ (rO x).map (.iface t) = some r := by
        cases d <;> first | (exact ⟨by simp, hr⟩) | cases hr
      obtain ⟨hd, hr⟩ := key
      simp only [Option.map_eq_some_iff] at hr
      obtain ⟨rx, h3, rfl⟩ := hr
      exact s_iface hR hT ho hu hd h3 hok h
  | makeFunc f first caps =>
    cases f with
    | func f =>
      simp only [rOp, ho] at hr
      split at hr
      · rename_i hf
        simp only [Option.map_eq_some_iff] at hr
        obtain ⟨rs, h1, rfl⟩ := hr
        exact s_mkfn hR hT ho hf h1 hok h
      · cases hr
    | _ => simp [rOp, ho] at hr
  | makeMap t r =>
    cases r with
    | some r => simp [rOp, ho] at hr
    | none =>
      simp only [rOp, ho] at hr
      split at hr
      · cases hr
        exact s_mkmap hR ho h
      · cases hr
  | makeSlice t l c =>
    simp only [rOp, ho, Option.bind_eq_bind, Option.bind_eq_some_iff, Option.pure_def, Option.some.injEq, Option.map_eq_some_iff, Option.bind_some, Option.bind_none, Bool.and_eq_true] at hr
    split at hr
    · rename_i e hu
      simp only [Option.bind_eq_some_iff] at hr
      obtain ⟨s, h1, hr⟩ := hr
      split at hr
      · cases hr
      · rename_i hs0
        simp only [Option.bind_eq_some_iff, Option.some.injEq] at hr
        obtain ⟨by', h2, zs, h3, l', h4, c', h5, rfl⟩ := hr
        simp only [okOp, Bool.and_eq_true] at hok
        exact s_mkslice hR hT ho hu h1 h2 h3 hs0 h4 h5 hok.1 hok.2 h
    · cases hr
  | slice t x lo hi mx =>
    simp only [rOp, ho] at hr
    split at hr
    · cases hr
    · rename_i hmh
      have hmh' : (mx.isSome && hi.isNone) = false := Bool.eq_false_iff.2 hmh
      split at hr
      · rename_i e hu
        simp only [rOp, ho, Option.bind_eq_bind, Option.bind_eq_some_iff, Option.pure_def, Option.some.injEq, Option.map_eq_some_iff, Option.bind_some, Option.bind_none, Bool.and_eq_true] at hr
        obtain ⟨s, h1, x', h2, l', h3, h', h4, m', h5, rfl⟩ := hr
        simp only [okOp, Bool.and_eq_true] at hok
        exact s_slc hR hT ho hu (.inl ⟨rfl, h1⟩) h2 h3 h4 h5 hok.1.1.1 hok.1.1.2 hok.1.2 hok.2 hmh' h
      · rename_i hu
        simp only [rOp, ho, Option.bind_eq_bind, Option.bind_eq_some_iff, Option.pure_def, Option.some.injEq, Option.map_eq_some_iff, Option.bind_some, Option.bind_none, Bool.and_eq_true] at hr
        obtain ⟨x', h2, l', h3, h', h4, m', h5, rfl⟩ := hr
        simp only [okOp, Bool.and_eq_true] at hok
        exact s_slc (e := 0) hR hT ho hu (.inr ⟨rfl, rfl⟩) h2 h3 h4 h5 hok.1.1.1 hok.1.1.2 hok.1.2 hok.2 hmh' h
      · cases hr
  | fieldAddr s x f =>
    simp only [rOp, ho] at hr
    split at hr
    · rename_i fs hu
      simp only [Option.bind_eq_bind, Option.bind_eq_some_iff] at hr
      obtain ⟨fl, h1, hr⟩ := hr
      split at hr
      · cases hr
      · rename_i hs
        simp only [Option.bind_eq_some_iff, Option.pure_def, Option.some.injEq] at hr
        obtain ⟨x', h2, rfl⟩ := hr
        exact s_faddr hR hT ho hu h1 hs h2 hok h
    · cases hr
  | field t x f =>
    simp only [rOp, ho] at hr
    split at hr
    · rename_i fs hu
      simp only [Option.bind_eq_bind, Option.bind_eq_some_iff, Option.pure_def, Option.some.injEq] at hr
      obtain ⟨fl, h1, g, h2, k, h3, x', h4, rfl⟩ := hr
      exact s_fld hR hT ho hu h1 h2 h3 h4 hok h
    · cases hr
  | indexAddr t x i =>
    simp only [rOp, ho] at hr
    split at hr
    · rename_i e hu
      simp only [Option.bind_eq_bind, Option.bind_eq_some_iff, Option.pure_def, Option.some.injEq] at hr
      obtain ⟨s, h1, x', h2, i', h3, rfl⟩ := hr
      simp only [okOp, Bool.and_eq_true] at hok
      exact s_iaddr hR hT ho hu h1 h2 h3 hok.1 hok.2 h
    · rename_i l e hu
      simp only [Option.bind_eq_bind, Option.bind_eq_some_iff, Option.pure_def, Option.some.injEq] at hr
      obtain ⟨s, h1, x', h2, i', h3, rfl⟩ := hr
      simp only [okOp, Bool.and_eq_true] at hok
      exact s_aiaddr hR hT ho hu h1 h2 h3 hok.1 hok.2 h
    · cases hr
  | index t x i =>
    simp only [rOp, ho] at hr
    split at hr
    · rename_i hu
      simp only [Option.bind_eq_bind, Option.bind_eq_some_iff, Option.pure_def, Option.some.injEq] at hr
      obtain ⟨x', h2, i', h3, rfl⟩ := hr
      simp only [okOp, Bool.and_eq_true] at hok
      exact s_idx hR hT ho hu h2 h3 hok.1 hok.2 h
    · rename_i len e hu
      simp only [Option.bind_eq_bind, Option.bind_eq_some_iff, Option.pure_def, Option.some.injEq] at hr
      obtain ⟨k, hk, g, hg, x', h2, i', h3, rfl⟩ := hr
      simp only [okOp, Bool.and_eq_true] at hok
      exact s_aix hR hT ho hu hg hk h2 h3 hok.1 hok.2 h
    · cases hr
  | lookup t x k ok =>
    simp only [rOp, ho] at hr
    split at hr
    · rename_i kt et hu
      simp only [Option.bind_eq_bind, Option.bind_eq_some_iff, Option.pure_def] at hr
      obtain ⟨kd, hk, hr⟩ := hr
      split at hr
      · rename_i ik
        simp only [Option.bind_eq_some_iff, Option.some.injEq] at hr
        obtain ⟨z, h1, x', h2, k', h3, rfl⟩ := hr
        simp only [okOp, Bool.and_eq_true] at hok
        exact s_lookup hR hT ho hu (kd := .one .i) ⟨_, hk⟩ h1 h2 h3 hok.1 hok.2 h
      · simp only [Option.bind_eq_some_iff, Option.some.injEq] at hr
        obtain ⟨z, h1, x', h2, k', h3, rfl⟩ := hr
        simp only [okOp, Bool.and_eq_true] at hok
        exact s_lookup hR hT ho hu (kd := .one .s) hk h1 h2 h3 hok.1 hok.2 h
      · split at hr
        · rename_i fs _ ks hks
          simp only [Option.bind_eq_some_iff, Option.some.injEq] at hr
          obtain ⟨z, h1, x', h2, k', h3, rfl⟩ := hr
          simp only [okOp, Bool.and_eq_true] at hok
          exact s_lookup hR hT ho hu (kd := .flat ks) ⟨hks, _, hk⟩ h1 h2 h3 hok.1 hok.2 h
        · cases hr
      · cases hr
    · cases hr
  | mapUpdate t m k x =>
    simp only [rOp, ho] at hr
    split at hr
    · rename_i kt et hu
      simp only [Option.bind_eq_bind, Option.bind_eq_some_iff, Option.pure_def] at hr
      obtain ⟨kd, hk, hr⟩ := hr
      split at hr
      · rename_i ik
        simp only [Option.bind_eq_some_iff, Option.some.injEq] at hr
        obtain ⟨z, h1, x', h2, k', h3, rfl⟩ := hr
        simp only [okOp, Bool.and_eq_true] at hok
        exact s_mapupd hR hT (.inl ho) hu (kd := .one .i) ⟨_, hk⟩ h1 h2 h3 hok.1.1 hok.1.2 hok.2 h
      · simp only [Option.bind_eq_some_iff, Option.some.injEq] at hr
        obtain ⟨z, h1, x', h2, k', h3, rfl⟩ := hr
        simp only [okOp, Bool.and_eq_true] at hok
        exact s_mapupd hR hT (.inl ho) hu (kd := .one .s) hk h1 h2 h3 hok.1.1 hok.1.2 hok.2 h
      · split at hr
        · rename_i fs _ ks hks
          simp only [Option.bind_eq_some_iff, Option.some.injEq] at hr
          obtain ⟨z, h1, x', h2, k', h3, rfl⟩ := hr
          simp only [okOp, Bool.and_eq_true] at hok
          exact s_mapupd hR hT (.inl ho) hu (kd := .flat ks) ⟨hks, _, hk⟩ h1 h2 h3 hok.1.1 hok.1.2 hok.2 h
        · cases hr
      · cases hr
    · cases hr
  | insert t m k x =>
    simp only [rOp, ho] at hr
    split at hr
    · rename_i kt et hu
      simp only [Option.bind_eq_bind, Option.bind_eq_some_iff, Option.pure_def] at hr
      obtain ⟨kd, hk, hr⟩ := hr
      split at hr
      · rename_i ik
        simp only [Option.bind_eq_some_iff, Option.some.injEq] at hr
        obtain ⟨z, h1, x', h2, k', h3, rfl⟩ := hr
        simp only [okOp, Bool.and_eq_true] at hok
        exact s_mapupd hR hT (.inr ho) hu (kd := .one .i) ⟨_, hk⟩ h1 h2 h3 hok.1.1 hok.1.2 hok.2 h
      · simp only [Option.bind_eq_some_iff, Option.some.injEq] at hr
        obtain ⟨z, h1, x', h2, k', h3, rfl⟩ := hr
        simp only [okOp, Bool.and_eq_true] at hok
        exact s_mapupd hR hT (.inr ho) hu (kd := .one .s) hk h1 h2 h3 hok.1.1 hok.1.2 hok.2 h
      · split at hr
        · rename_i fs _ ks hks
          simp only [Option.bind_eq_some_iff, Option.some.injEq] at hr
          obtain ⟨z, h1, x', h2, k', h3, rfl⟩ := hr
          simp only [okOp, Bool.and_eq_true] at hok
          exact s_mapupd hR hT (.inr ho) hu (kd := .flat ks) ⟨hks, _, hk⟩ h1 h2 h3 hok.1.1 hok.1.2 hok.2 h
        · cases hr
      · cases hr
    · cases hr
  | range t x =>
    simp only [rOp, ho] at hr
    split at hr
    · rename_i hu
      simp only [Option.map_eq_some_iff] at hr
      obtain ⟨rx, h1, rfl⟩ := hr
      exact s_srange hR hT ho hu h1 hok h
    · rename_i kt et hu
      simp only [Option.map_eq_some_iff] at hr
      obtain ⟨rx, h1, rfl⟩ := hr
      exact s_mrange hR hT ho hu h1 hok h
    · cases hr
  | next it str =>
    simp only [rOp, ho, Option.bind_eq_bind, Option.bind_eq_some_iff, Option.pure_def, Option.some.injEq, Option.map_eq_some_iff, Option.bind_some, Option.bind_none, Bool.and_eq_true] at hr
    obtain ⟨rx, h1, rfl⟩ := hr
    cases str with
    | true => exact s_snext hR hT ho h1 hok h
    | false => exact s_mnext hR hT ho h1 hok h
  | entry it =>
    simp only [rOp, ho, Option.bind_eq_bind, Option.bind_eq_some_iff, Option.pure_def, Option.some.injEq, Option.map_eq_some_iff, Option.bind_some, Option.bind_none, Bool.and_eq_true] at hr
    obtain ⟨rx, h1, rfl⟩ := hr
    exact s_entry hR hT ho h1 hok h
  | extract t i =>
    simp only [rOp, ho, Option.bind_eq_bind, Option.bind_eq_some_iff, Option.pure_def, Option.some.injEq, Option.map_eq_some_iff, Option.bind_some, Option.bind_none, Bool.and_eq_true] at hr
    obtain ⟨rx, h1, rfl⟩ := hr
    exact s_ext hR hT ho h1 hok h
  | _ => simp [rOp, ho] at hr

theorem op_does2 (hR : Rel P F w H) (hT : TR F w n τ a.tmps) {r : ROp} (hr : rOp P o = some r) (hok : okOp n r = true) (h : opW P C r τ H K)
    {s t : TypeId} {x : Operand} (ho : o.op = .convert s t x) : Does P F w H a o K := by
  simp only [rOp, ho] at hr
  split at hr
  · rename_i k0 k hs ht
    simp only [Option.map_eq_some_iff] at hr
    obtain ⟨rx, h1, rfl⟩ := hr
    exact s_cvi hR hT ho hs ht h1 hok h
  · rename_i k0 hs ht
    simp only [Option.map_eq_some_iff] at hr
    obtain ⟨rx, h1, rfl⟩ := hr
    exact s_cvs hR hT ho hs ht h1 hok h
  · rename_i e hs ht
    split at hr
    · rename_i he
      simp only [Option.map_eq_some_iff] at hr
      obtain ⟨rx, h1, rfl⟩ := hr
      exact s_cvbs hR hT ho hs he ht h1 hok h
    · cases hr
  · rename_i e hs ht
    split at hr
    · rename_i he
      simp only [Option.map_eq_some_iff] at hr
      obtain ⟨rx, h1, rfl⟩ := hr
      exact s_cvsb hR hT ho hs he ht h1 hok h
    · cases hr
  · rename_i t' hs ht
    split at hr
    · cases hr
    · rename_i hz
      simp only [Option.map_eq_some_iff] at hr
      obtain ⟨rx, h1, rfl⟩ := hr
      exact s_cvt hR hT ho hs ht hz h1 hok h
  · rename_i u hs ht
    split at hr
    · cases hr
    · rename_i hz
      simp only [Option.map_eq_some_iff] at hr
      obtain ⟨rx, h1, rfl⟩ := hr
      exact s_cvu hR hT ho hs ht hz h1 hok h
  · cases hr

theorem op_does3 (hR : Rel P F w H) (hT : TR F w n τ a.tmps) {r : ROp} (hr : rOp P o = some r) (hok : okOp n r = true) (h : opW P C r τ H K)
    {op : BinOp} {t t' : TypeId} {x y : Operand} (ho : o.op = .binOp op t x y t') : Does P F w H a o K := by
  have main : ∀ neg : Bool, op = (if neg then .neq else .eql) → Does P F w H a o K := by
    rintro neg rfl
    have hr' : rEq P (if neg then .neq else .eql) neg t x y = some r := by
      cases neg
      · simpa only [rOp, ho, Bool.false_eq_true, if_false] using hr
      · simpa only [rOp, ho, if_true] using hr
    clear hr
    have hr := hr'
    clear hr'
    simp only [rEq] at hr
    split at hr
    · simp only [Option.bind_eq_bind, Option.bind_eq_some_iff, Option.pure_def, Option.some.injEq] at hr
      obtain ⟨rx, h1, ry, h2, rfl⟩ := hr
      simp only [okOp, Bool.and_eq_true] at hok
      exact s_bin hR hT ho h1 h2 hok.1 hok.2 h
    · simp only [Option.bind_eq_bind, Option.bind_eq_some_iff, Option.pure_def, Option.some.injEq] at hr
      obtain ⟨rx, h1, ry, h2, rfl⟩ := hr
      simp only [okOp, Bool.and_eq_true] at hok
      exact s_bin hR hT ho h1 h2 hok.1 hok.2 h
    · rename_i hu
      simp only [Option.bind_eq_bind, Option.bind_eq_some_iff, Option.pure_def, Option.some.injEq] at hr
      obtain ⟨rx, h1, ry, h2, rfl⟩ := hr
      simp only [okOp, Bool.and_eq_true] at hok
      exact s_eqb hR hT ho hu h1 h2 hok.1 hok.2 h
    · rename_i e hu
      split at hr
      · cases hr
      · rename_i hs
        simp only [Option.bind_eq_bind, Option.bind_eq_some_iff, Option.pure_def, Option.some.injEq] at hr
        obtain ⟨rx, h1, ry, h2, rfl⟩ := hr
        simp only [okOp, Bool.and_eq_true] at hok
        exact s_eqp hR hT ho hu hs h1 h2 hok.1 hok.2 h
    · rename_i e hu
      split at hr
      · simp only [Option.map_eq_some_iff] at hr
        obtain ⟨rx, h1, rfl⟩ := hr
        exact s_eqs (neg := neg) hR hT (by assumption) hu h1 hok h
      · cases hr
    · rename_i e hu
      split at hr
      · simp only [Option.map_eq_some_iff] at hr
        obtain ⟨rx, h1, rfl⟩ := hr
        exact s_eqi (neg := neg) hR hT (by assumption) hu h1 hok h
      · cases hr
    · rename_i fs hu
      split at hr
      · rename_i ks hks
        split at hr
        · cases hr
        · rename_i hg
          simp only [Option.bind_eq_bind, Option.bind_eq_some_iff, Option.pure_def, Option.some.injEq] at hr
          obtain ⟨rx, h1, ry, h2, rfl⟩ := hr
          simp only [okOp, Bool.and_eq_true] at hok
          exact s_eqa hR hT ho hks (by simp [aggT, hu]) (by simpa using hg) h1 h2 hok.1 hok.2 h
      · cases hr
    · cases hr
  have other : (do pure (.bin op (← rO x) (← rO y)) : Option ROp) = some r → Does P F w H a o K := by
    intro hr
    simp only [Option.bind_eq_bind, Option.bind_eq_some_iff, Option.pure_def, Option.some.injEq] at hr
    obtain ⟨rx, h1, ry, h2, rfl⟩ := hr
    simp only [okOp, Bool.and_eq_true] at hok
    exact s_bin hR hT ho h1 h2 hok.1 hok.2 h
  cases op with
  | eql => exact main false rfl
  | neq => exact main true rfl
  | _ => exact other (by simpa only [rOp, ho] using hr)

theorem op_does4 (hR : Rel P F w H) (hT : TR F w n τ a.tmps) {r : ROp} (hr : rOp P o = some r) (hok : okOp n r = true) (hc : isCall r = false) (h : opW P C r τ H K)
    {c : Go.Call} (ho : o.op = .call c) : Does P F w H a o K := by
  obtain ⟨callee, args, ats⟩ := c
  cases callee with
  | value f =>
    cases f with
    | func f =>
      simp only [rOp, ho] at hr
      split at hr
      · rename_i k hk
        simp only [Option.map_eq_some_iff] at hr
        obtain ⟨xs, h1, rfl⟩ := hr
        exact s_pext hR hT ho hk h1 hok h
      · simp only [Option.map_eq_some_iff] at hr
        obtain ⟨xs, _, rfl⟩ := hr
        simp [isCall] at hc
    | _ =>
      simp only [rOp, ho, Option.bind_eq_bind, Option.bind_eq_some_iff, Option.pure_def, Option.some.injEq] at hr
      obtain ⟨_, _, xs, _, rfl⟩ := hr
      simp [isCall] at hc
  | invoke => simp [rOp, ho] at hr
  | builtin b =>
    simp only [rOp, ho] at hr
    split at hr
    · rename_i x hx
      have hargs : args = #[x] := by rw [← Array.toList_inj]; simpa using hx
      subst hargs
      split at hr
      · rename_i hu
        simp only [Option.map_eq_some_iff] at hr
        obtain ⟨rx, h1, rfl⟩ := hr
        simp only [Option.bind_eq_some_iff] at hu
        obtain ⟨t, ht, hu⟩ := hu
        exact s_len hR hT ho ht hu (.inl rfl) h1 hok h
      · rename_i e hu
        simp only [Option.map_eq_some_iff] at hr
        obtain ⟨rx, h1, rfl⟩ := hr
        simp only [Option.bind_eq_some_iff] at hu
        obtain ⟨t, ht, hu⟩ := hu
        exact s_len hR hT ho ht hu (.inr ⟨_, rfl⟩) h1 hok h
      · rename_i kt et hu
        simp only [Option.map_eq_some_iff] at hr
        obtain ⟨rx, h1, rfl⟩ := hr
        simp only [Option.bind_eq_some_iff] at hu
        obtain ⟨t, ht, hu⟩ := hu
        exact s_mlen hR hT ho ht hu h1 hok h
      · cases hr
    · rename_i x y hx
      have hargs : args = #[x, y] := by rw [← Array.toList_inj]; simpa using hx
      subst hargs
      split at hr
      · rename_i t tx hts
        have hats : ats = #[t, tx] := by rw [← Array.toList_inj]; simpa using hts
        split at hr
        · rename_i e hu
          have key : ((∃ e', P.underlying tx = some (.slice e')) ∨ P.underlying tx = some .string) ∧ (do
              let s ← szT P e
              let b ← bytesT P e
              let z ← zeroT P e
              if s = 0 ∨ b = 0 ∨ b > 65536 ∨ z.length ≠ s then none else
              pure (.append s b z e (← rO x) (← rO y)) : Option ROp) = some r := by
            split at hr
            · rename_i e' hu'; exact ⟨.inl ⟨_, hu'⟩, hr⟩
            · rename_i hu'; exact ⟨.inr hu', hr⟩
            · cases hr
          obtain ⟨hk, hr⟩ := key
          simp only [Option.bind_eq_bind, Option.bind_eq_some_iff, Option.pure_def] at hr
          obtain ⟨s, h1, b, h2, z, h3, hr⟩ := hr
          split at hr
          · cases hr
          · rename_i hcond
            simp only [Option.bind_eq_some_iff, Option.some.injEq] at hr
            obtain ⟨rx, h4, ry, h5, rfl⟩ := hr
            simp only [okOp, Bool.and_eq_true] at hok
            exact s_append hR hT ho hats hu hk h1 h2 h3 (by omega) (by omega) (by omega) (by omega) h4 h5 hok.1 hok.2 h
        · cases hr
      · cases hr
    · rename_i x hx
      have hargs : args = #[x] := by rw [← Array.toList_inj]; simpa using hx
      subst hargs
      simp only [Option.map_eq_some_iff] at hr
      obtain ⟨rx, h1, rfl⟩ := hr
      exact s_usd hR hT ho h1 hok h
    · rename_i p x hx
      have hargs : args = #[p, x] := by rw [← Array.toList_inj]; simpa using hx
      subst hargs
      split at hr
      · rename_i t it hts
        have hats : ats = #[t, it] := by rw [← Array.toList_inj]; simpa using hts
        split at hr
        · rename_i u hu
          split at hr
          · rename_i hc1
            simp only [Option.bind_eq_bind, Option.bind_eq_some_iff, Option.pure_def, Option.some.injEq] at hr
            obtain ⟨rp, h1, rx, h2, rfl⟩ := hr
            simp only [okOp, Bool.and_eq_true] at hok
            exact s_ust hR hT ho hats hu hc1 h1 hok.1 h2 hok.2 h
          · cases hr
        · cases hr
      · cases hr
    · simp only [Option.map_eq_some_iff] at hr
      obtain ⟨rs, h1, rfl⟩ := hr
      exact s_mnx (mx := false) hR hT ho h1 hok h
    · simp only [Option.map_eq_some_iff] at hr
      obtain ⟨rs, h1, rfl⟩ := hr
      exact s_mnx (mx := true) hR hT ho h1 hok h
    · cases hr

theorem op_does (hR : Rel P F w H) (hT : TR F w n τ a.tmps) {r : ROp} (hr : rOp P o = some r) (hok : okOp n r = true) (hc : isCall r = false) (h : opW P C r τ H K) : Does P F w H a o K := by
  by_cases h1 : ∃ c, o.op = .call c
  · obtain ⟨c, ho⟩ := h1; exact op_does4 hR hT hr hok hc h ho
  by_cases h2 : ∃ a b c d e, o.op = .binOp a b c d e
  · obtain ⟨_, _, _, _, _, ho⟩ := h2; exact op_does3 hR hT hr hok h ho
  by_cases h3 : ∃ a b c, o.op = .convert a b c
  · obtain ⟨_, _, _, ho⟩ := h3; exact op_does2 hR hT hr hok h ho
  exact op_does1 hR hT hr hok hc h ⟨fun c e => h1 ⟨c, e⟩, fun a b c d e q => h2 ⟨a, b, c, d, e, q⟩, fun a b c q => h3 ⟨a, b, c, q⟩⟩

end Go.Fsl
