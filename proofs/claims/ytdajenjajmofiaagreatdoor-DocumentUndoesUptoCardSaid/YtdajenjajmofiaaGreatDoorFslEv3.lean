/- A part of our logic over the resolved code, or of a proof in it. -/
import Derived.Test.YtdajenjajmofiaaGreatDoorFslEv2
set_option linter.unusedSimpArgs false
set_option linter.unusedVariables false
namespace Go.Fsl
variable {S : Sl} {N G : Nat} {τ : T D} {τ' : Tmps}

/-- What the runner does in its own way. -/
def own : ROp → Bool
  | .slc .. | .iface .. | .usd _ => true
  | _ => false

theorem RD.of_v {x : Value} {d' : D} (h : RD S N (.v x) d') : ∃ y, d' = .v y := by
  cases h <;> exact ⟨_, rfl⟩

theorem pure_sim (hg : Gl S N G) (hF : FR S N τ τ') {o : ROp} (hc : o.cls = .pure) (ho : own o = false) (hok : okOpC G o = true) {d : D} (hd : pureV o (fr τ) = some d) :
    ∃ d', pureV o τ' = some d' ∧ RD S N d d' := by
  cases o <;> simp only [ROp.cls, reduceCtorEq] at hc <;> simp only [own, Bool.true_eq_false, reduceCtorEq] at ho
  all_goals simp only [okOpC, Bool.and_eq_true] at hok
  all_goals simp only [pureV] at hd ⊢
  case mov x => cases hd; exact ⟨_, rfl, ev_sim hg hF hok⟩
  case pick c a b =>
    have h1 := ev_sim hg hF hok.1.1
    split at hd
    · rename_i t ht
      rw [ht] at h1
      rw [h1.bool]
      cases hd
      cases t
      · exact ⟨_, rfl, ev_sim hg hF hok.2⟩
      · exact ⟨_, rfl, ev_sim hg hF hok.1.2⟩
    · cases hd
  case faddr off a =>
    have h1 := ev_sim hg hF hok
    generalize a.ev τ' = y at *
    generalize a.ev (fr τ) = x at *
    cases h1 <;> try (simp only [reduceCtorEq] at hd; done)
    case v x hx => cases x with
      | pointer A => cases A <;> simp [plainV, plain1] at hx hd
      | _ => simp at hd
    case ptr h =>
      cases hd
      exact ⟨_, rfl, by rw [Nat.add_assoc]; exact .ptr h⟩
  case nilck x =>
    have h1 := ev_sim hg hF hok
    generalize x.ev τ' = y at *
    generalize x.ev (fr τ) = x at *
    cases h1 <;> try (simp only [reduceCtorEq] at hd; done)
    case v x hx => cases x with
      | pointer A => cases A <;> simp [plainV, plain1] at hx hd
      | _ => simp at hd
    case ptr h => cases hd; exact ⟨_, rfl, .ptr h⟩
    case fn hl hr => cases hd; exact ⟨_, rfl, .fn hl hr⟩
  case iaddr sz x i =>
    have h1 := ev_sim hg hF hok.1
    have h2 := ev_sim hg hF hok.2
    split at hd
    · rename_i n hn
      rw [h2.intD hn, hn]
      simp only
      generalize x.ev τ' = y at *
      generalize x.ev (fr τ) = x at *
      cases h1 <;> try (simp only [reduceCtorEq] at hd; done)
      case v x hx => cases x with
        | slice A => cases A <;> simp [plainV, plain1] at hx hd
        | _ => simp at hd
      case sx h hnc hb hr hl =>
        dsimp only at hd ⊢
        split at hd
        · rename_i hc
          cases hd
          rw [if_pos hc]
          exact ⟨_, rfl, by rw [Nat.add_assoc]; exact .ptr h⟩
        · cases hd
      case so h hn hr hl hz =>
        dsimp only at hd ⊢
        split at hd
        · rename_i hc
          cases hd
          rw [if_pos hc]
          exact ⟨_, rfl, by rw [Nat.add_assoc]; exact .ptr h⟩
        · cases hd
      case st h hl hr =>
        dsimp only at hd ⊢
        split at hd
        · omega
        · cases hd
    · cases hd
  case aiaddr len sz x i =>
    have h1 := ev_sim hg hF hok.1
    have h2 := ev_sim hg hF hok.2
    split at hd
    · rename_i n hn
      rw [h2.intD hn, hn]
      simp only
      generalize x.ev τ' = y at *
      generalize x.ev (fr τ) = x at *
      cases h1 <;> try (simp only [reduceCtorEq] at hd; done)
      case v x hx => cases x with
        | pointer A => cases A <;> simp [plainV, plain1] at hx hd
        | _ => simp at hd
      case ptr h =>
        dsimp only at hd ⊢
        split at hd
        · rename_i hc
          cases hd
          rw [if_pos hc]
          exact ⟨_, rfl, by rw [Nat.add_assoc]; exact .ptr h⟩
        · cases hd
    · cases hd
  case bin op x y =>
    simp only [Option.map_eq_some_iff] at hd
    obtain ⟨r, hr, rfl⟩ := hd
    obtain ⟨e1, e2, e3⟩ := bin_sim (ev_sim hg hF hok.1) (ev_sim hg hF hok.2) hr
    rw [e1, e2, hr]
    exact ⟨_, rfl, .v e3⟩
  case eqb neg x y =>
    have h1 := ev_sim hg hF hok.1
    have h2 := ev_sim hg hF hok.2
    split at hd
    · rename_i a b ha hb
      rw [ha] at h1
      rw [hb] at h2
      rw [h1.bool, h2.bool]
      cases hd
      exact ⟨_, rfl, .v rfl⟩
    · cases hd
  case eqp neg x y =>
    have h1 := ev_sim hg hF hok.1
    have h2 := ev_sim hg hF hok.2
    generalize x.ev (fr τ) = a at *
    generalize x.ev τ' = a' at *
    generalize y.ev (fr τ) = b at *
    generalize y.ev τ' = b' at *
    cases h1 <;> try (simp only [reduceCtorEq] at hd; done)
    case v x hx => cases x with
      | pointer A =>
        cases A with
        | some A => simp [plainV, plain1] at hx
        | none =>
          cases h2 <;> try (simp only [reduceCtorEq] at hd; done)
          case v y hy => cases y with
            | pointer A => cases A <;> simp [plainV, plain1] at hy hd; subst hd; exact ⟨_, rfl, by cases neg <;> exact .v rfl⟩
            | _ => simp at hd
          case ptr h => simp only at hd ⊢; cases hd; exact ⟨_, rfl, by cases neg <;> exact .v rfl⟩
      | _ => simp at hd
    case ptr h =>
      cases h2 <;> try (simp only [reduceCtorEq] at hd; done)
      case v y hy => cases y with
        | pointer A => cases A <;> simp [plainV, plain1] at hy hd; subst hd; exact ⟨_, rfl, by cases neg <;> exact .v rfl⟩
        | _ => simp at hd
      case ptr a1 o1 a2 o2 h2 =>
        simp only at hd ⊢
        split at hd
        · rename_i he
          cases hd
          skip
          subst he
          rw [if_pos rfl]
          refine ⟨_, rfl, ?_⟩
          have : ((⟨a1, o1, none⟩ : Addr) == ⟨a1, o2, none⟩) = ((⟨S.blk a1, S.base a1 + o1, none⟩ : Addr) == ⟨S.blk a1, S.base a1 + o2, none⟩) := by
            rw [Bool.eq_iff_iff, beq_iff_eq, beq_iff_eq]
            simp
          rw [this]
          exact .v rfl
        · cases hd
  case eqs neg x =>
    have h1 := ev_sim hg hF hok
    generalize x.ev (fr τ) = a at *
    generalize x.ev τ' = a' at *
    cases h1 <;> try (simp only [reduceCtorEq] at hd; done)
    case v x hx => cases x with
      | slice A => cases A <;> simp [plainV, plain1] at hx hd; subst hd; exact ⟨_, rfl, by cases neg <;> exact .v rfl⟩
      | _ => simp at hd
    case sx => cases hd; exact ⟨_, rfl, .v rfl⟩
    case so => cases hd; exact ⟨_, rfl, .v rfl⟩
    case st => cases hd; exact ⟨_, rfl, .v rfl⟩
  case eqi neg x =>
    have h1 := ev_sim hg hF hok
    generalize x.ev (fr τ) = a at *
    generalize x.ev τ' = a' at *
    cases h1 <;> try (simp only [reduceCtorEq] at hd; done)
    case v x hx => cases x <;> first | (simp only [reduceCtorEq] at hd; done) | (cases hd; exact ⟨_, rfl, .v rfl⟩)
  case eqa neg ks x y =>
    have h1 := ev_sim hg hF hok.1
    have h2 := ev_sim hg hF hok.2
    split at hd
    · rename_i a b ha hb
      rw [ha] at h1
      rw [hb] at h2
      split at hd
      · rename_i r hr
        cases hd
        obtain ⟨a', e1, h1⟩ := h1.of_agg
        obtain ⟨b', e2, h2⟩ := h2.of_agg
        obtain ⟨e3, e4⟩ := cellsEq_sim h1 h2 hr
        rw [e1, e2, e3, e4]
        simp only [hr]
        exact ⟨_, rfl, .v rfl⟩
      · cases hd
    · cases hd
  case un op x =>
    simp only [Option.map_eq_some_iff] at hd
    obtain ⟨r, hr, rfl⟩ := hd
    obtain ⟨e1, e3⟩ := un_sim (ev_sim hg hF hok) hr
    rw [e1, hr]
    exact ⟨_, rfl, .v e3⟩
  case cvi k x =>
    simp only [Option.map_eq_some_iff] at hd
    obtain ⟨r, hr, rfl⟩ := hd
    rw [(ev_sim hg hF hok).intD hr, hr]
    exact ⟨_, rfl, .v rfl⟩
  case cvs x =>
    simp only [Option.map_eq_some_iff] at hd
    obtain ⟨r, hr, rfl⟩ := hd
    rw [(ev_sim hg hF hok).intD hr, hr]
    exact ⟨_, rfl, .v rfl⟩
  case build zs ps =>
    simp only [Option.map_eq_some_iff] at hd
    obtain ⟨r, hr, rfl⟩ := hd
    obtain ⟨rs', e1, e2⟩ := build_sim hg hF hok.2 (RDs.leaves hok.1) hr
    rw [e1]
    exact ⟨_, rfl, e2.agg⟩
  case ext x i =>
    have h1 := ev_sim hg hF hok
    split at hd
    · rename_i ds hds
      rw [hds] at h1
      obtain ⟨ds', e1, e2⟩ := h1.of_tup
      rw [e1]
      exact e2.get? hd
    · cases hd
  case fld g off n x =>
    have h1 := ev_sim hg hF hok
    split at hd
    · rename_i ds hds
      rw [hds] at h1
      obtain ⟨ds', e1, e2⟩ := h1.of_agg
      rw [e1]
      exact rd_sim e2 hd
    · cases hd
  case idx x i =>
    have h1 := ev_sim hg hF hok.1
    have h2 := ev_sim hg hF hok.2
    split at hd
    · rename_i i' s hi hs
      rw [hs] at h1
      rw [h2.intD hi, h1.str, hi]
      simp only
      simp only [Option.map_eq_some_iff] at hd
      obtain ⟨b, hb, rfl⟩ := hd
      rw [hb]
      exact ⟨_, rfl, .v rfl⟩
    · cases hd
  case aix len sz g x i =>
    have h1 := ev_sim hg hF hok.1
    have h2 := ev_sim hg hF hok.2
    split at hd
    · rename_i i' cs hi hs
      rw [hs] at h1
      obtain ⟨ds', e1, e2⟩ := h1.of_agg
      rw [h2.intD hi, e1, hi]
      simp only
      split at hd
      · rename_i hc
        rw [if_pos hc]
        exact rd_sim e2 hd
      · cases hd
    · cases hd
  case len str x =>
    have h1 := ev_sim hg hF hok
    generalize x.ev (fr τ) = a at *
    generalize x.ev τ' = a' at *
    cases h1 <;> try (simp only [reduceCtorEq] at hd; done)
    case v x hx => cases x with
      | slice A => simp only at hd ⊢; split at hd <;> cases hd; rename_i hs; rw [if_pos hs]; exact ⟨_, rfl, .v rfl⟩
      | string s => simp only at hd ⊢; split at hd <;> cases hd; rename_i hs; rw [if_pos hs]; exact ⟨_, rfl, .v rfl⟩
      | _ => simp at hd
    case sx => simp only at hd ⊢; split at hd <;> cases hd; rename_i hs; rw [if_pos hs]; exact ⟨_, rfl, .v rfl⟩
    case so => simp only at hd ⊢; split at hd <;> cases hd; rename_i hs; rw [if_pos hs]; exact ⟨_, rfl, .v rfl⟩
    case st => simp only at hd ⊢; split at hd <;> cases hd; rename_i hs; rw [if_pos hs]; exact ⟨_, rfl, .v rfl⟩
  case mnx mx xs =>
    have h1 := evs_sim hg hF hok
    generalize xs.map (·.ev (fr τ)) = ds at *
    generalize xs.map (·.ev τ') = ds' at *
    cases ds with
    | nil => cases hd
    | cons d0 rest =>
      cases d0 with
      | v x =>
        simp only [Option.map_eq_some_iff] at hd
        obtain ⟨r, hr, rfl⟩ := hd
        cases h1 with
        | cons h1 h2 =>
          cases rest with
          | nil =>
            cases hr
            cases h2
            obtain ⟨y, rfl⟩ := h1.of_v
            exact ⟨_, rfl, h1⟩
          | cons e rest =>
            have hx : plain1 x = true ∧ ∃ k n, x = .int k n := by
              cases e with
              | v z =>
                simp only [mnxF, Option.bind_eq_some_iff] at hr
                obtain ⟨c, hc, hr⟩ := hr
                unfold mnxV at hc
                split at hc
                · exact ⟨rfl, _, _, rfl⟩
                · cases hc
              | _ => simp [mnxF] at hr
            obtain ⟨hx1, k, n, rfl⟩ := hx
            obtain ⟨e1, e2⟩ := mnx_sim h2 hx1 hr
            rw [h1.int, e1]
            simp only [hr, Option.map_some]
            refine ⟨_, rfl, .v ?_⟩
            cases r <;> first | rfl | (simp only [plain1, Bool.false_eq_true] at e2; done) | exact e2
      | _ => cases hd
  case mkfn f caps => cases hd; exact ⟨_, rfl, (evs_sim hg hF hok).fn⟩
  case pext k xs => exact ext_sim (evs_sim hg hF hok) hd
end Go.Fsl
