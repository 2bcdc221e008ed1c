/- A part of our logic over the resolved code, or of a proof in it. -/
import Derived.Test.YtdajenjajmofiaaGreatDoorWClose
set_option linter.unusedSimpArgs false
set_option linter.unusedVariables false
set_option maxRecDepth 100000
namespace Go.Proofs.YtdajenjajmofiaaGreatDoor.documentUndoes
open Go Go.Fsl Go.ChangeShapes Go.WideShapes Go.ChangeAt Go.RowKit Go.ChangeMaps Go.Proofs.YtdajenjajmofiaaGreatDoor

theorem own : ownKnob Tryz.prog.godebug = none := by kernel_rfl
theorem mixed : Tryz.prog.follows .mixedOrders = true := by kernel_rfl
theorem laidOut : laidOutB Tryz.prog = true := by kernel_rfl
theorem readable9 : Tryz.prog.readableRec 9 = true := by kernel_rfl
theorem readable22 : Tryz.prog.readableRec 22 = true := by kernel_rfl
theorem rowsMany : 22 < Tryz.prog.types.size := by decide +kernel
theorem results3 : Tryz.f3.resultTypes = #[4] := by kernel_rfl

/-- Nothing of the library is taken for granted. -/
def noI : CallSem := fun _ _ _ _ => False

theorem contract (H : Type) (enc : TypeId × Value → H) (W : World) (base : Nat) (args : Array Value) (ds gs : List (DataW H)) (before : List MemPlace)
    (hval : ∀ (j : Nat) t v, Tryz.f3.params[j]? = some t → args[j]? = some v → Value.okWide Tryz.prog W .any base t v)
    (hW : DataW.Whole enc Tryz.prog Tryz.f3.params.toList Rows.documentUndoesSpec.vars false W args.toList ds gs before)
    (hc : Rows.uptoBulkAll (ds ++ gs) ≤ 1048576) (hL : laidMetH Tryz.prog Rows.documentUndoesUptoRow.laid W) :
    Calls Tryz.prog 3 args W fun e W' => ∃ v, e = .returned v ∧ Rows.documentUndoesSpec.post enc Tryz.prog Tryz.f3 false true false false W args v W' := by
  have hW' := hW
  obtain ⟨p, q, hA0, hV, rfl, hfz, hnd⟩ := hW
  have hA : DataW.TrodAll enc Tryz.prog W 0 (fun _ => true) true Tryz.f3.params.toList args.toList ds p := hA0
  rw [Tryz.params3] at hA hval
  obtain ⟨v0, vs0, d0, ds0, p0, q0, hargs, rfl, rfl, h0, r0⟩ := trodAll_cons hA
  obtain ⟨v1, vs1, d1, ds1, p1, q1, rfl, rfl, rfl, h1, r1⟩ := trodAll_cons r0
  obtain ⟨rfl, rfl, rfl⟩ := trodAll_nil r1
  obtain rfl : args = #[v0, v1] := by cases args; simp_all
  obtain ⟨rfl, rfl⟩ := trodVars_none hV
  obtain ⟨s, rfl, rfl, rfl, hsm⟩ := open_string Tryz.underlying9 (hval 0 9 v0 rfl rfl) h0
  obtain ⟨A, len, cap, rfl⟩ := okWide_slice under22 (hval 1 22 v1 rfl rfl)
  obtain ⟨fuel, hf⟩ := h1
  simp only [List.append_nil, Rows.uptoBulkAll, Rows.uptoBulk] at hc
  have hsl : s.data.toList.length = s.size := rfl
  obtain ⟨l, hok, hvr, hbulk⟩ : ∃ l : List Ch, (∀ c ∈ l, c.ok) ∧ VR (allF W) W (.fz 5 (l.map Ch.d)) (.slice A len cap) ∧ tot l + 6 * l.length ≤ Rows.uptoBulk d1 := by
    rcases open_rowsVR under22 cells26 (by omega) hf with ⟨e1, e2⟩ | ⟨v, n, rows, ds, sps, e1, e2, e3, e4, e5⟩
    · simp only [Value.cells, List.cons.injEq, and_true] at e1
      cases e1
      exact ⟨[], fun _ h => (by cases h), .nil 5 none 0, by simp [tot]⟩
    · simp only [Value.cells, List.cons.injEq, and_true] at e1
      subst e1
      obtain ⟨l, g1, g2, g3⟩ := open_chs e3 e4
      rw [g2] at e5
      refine ⟨l, g1, e5, ?_⟩
      simp only at e2
      rw [e2]
      simp only [Rows.uptoBulk, g3]
      omega
  have hR := rel_ro (P := Tryz.prog) (w := W) (H := HG) (open_glob rfl hL)
  have hcall : CP noI (.fn 3) [.s s, .fz 5 (l.map Ch.d)] HG fun d H' => d = .b true ∧ H' = HG :=
    law_spec glb hok (by omega) (by omega) ⟨rfl, rfl⟩
  have hrun := Go.Fsl.Call.runH (P := Tryz.prog) mixed (fun _ _ _ _ h => h.elim) hcall (w := W) (vs := [.string s, .slice A len cap]) hR.1
    (VRs.cons (.v _) (VRs.cons hvr (VRs.nil _ _)))
  refine hrun.mono fun e W' hp => ?_
  cases e with
  | returned v =>
    obtain ⟨d, H', F', hs, _, hv, rfl, rfl⟩ := hp
    cases hv
    refine ⟨_, rfl, ?_⟩
    refine post_i laidOut (fun t ht => ?_) hW' rfl (fun b hb => hs.same hR.2 hb) (fun may => hs.kept hR.2 may) (fun _ _ _ => ?_) rfl rfl
    · rw [Tryz.params3] at ht
      simp only [List.mem_cons, List.mem_nil_iff, or_false] at ht
      rcases ht with rfl | rfl
      · exact ⟨readable9, Nat.lt_trans (by decide) rowsMany⟩
      · exact ⟨readable22, rowsMany⟩
    · rw [results3]
      exact trodAll_cons_mk (shut_bool Tryz.underlying4 _) trodAll_mk0
  | _ => exact hp.elim

end Go.Proofs.YtdajenjajmofiaaGreatDoor.documentUndoes
