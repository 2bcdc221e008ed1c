/- A part of our logic over the resolved code, or of a proof in it. -/
import Derived.Test.YtdajenjajmofiaaGreatDoorFslCall
import Derived.Laws.StructEq
set_option linter.unusedSimpArgs false
set_option linter.unusedVariables false
namespace Go.Fsl
section
variable {P : Program} {C : CallSem} {ro : Option Nat} {n : Nat} {τ : Tmps} {H : Heap} {Q : X → Tmps → Heap → Prop}
theorem Ghost.refl (P : Program) (ds : List D) (H : Heap) : Ghost P ds H ds H :=
  ⟨fun _ h => h, fun F w _ hR hv => ⟨F, Step.refl F w H, hR, hv⟩⟩
/-- A region, what follows behind a name. -/
theorem reg_k {ops : List ROper} (h : ∀ K : Tmps → Heap → Prop, (∀ τ' H', Q .n τ' H' → K τ' H') → opsW P C ops τ H K) : wp P C ro n (.reg ops) τ H Q := h _ fun _ _ h => h
theorem seq_i {a b : RCode} (h : wp P C ro n a τ H (fun x τ' H' => match x with | .n => wp P C ro n b τ' H' Q | x => Q x τ' H')) : wp P C ro n (.seq a b) τ H Q := h
theorem cond_i {c : RO} {a b : RCode} {t : Bool} (hc : c.ev τ = .b t) (ht : t = true → wp P C ro n a τ H Q) (hf : t = false → wp P C ro n b τ H Q) : wp P C ro n (.cond c a b) τ H Q := by
  simp only [wp, hc]
  cases t
  · exact hf rfl
  · exact ht rfl
theorem block_i {id : Nat} {b : RCode} (h : wp P C ro n b τ H (fun x τ' H' => match x with | .x id' => if id' = id then Q .n τ' H' else Q (.x id') τ' H' | x => Q x τ' H')) : wp P C ro n (.block id b) τ H Q := h
theorem scope_i {b : RCode} (h : wp P C ro n b τ H Q) : wp P C ro n (.scope b) τ H Q := h
theorem skip_i (h : Q .n τ H) : wp P C ro n .skip τ H Q := h
theorem exit_i {id : Nat} (h : Q (.x id) τ H) : wp P C ro n (.exit id) τ H Q := h
theorem ret_i (h : Q .r τ H) : wp P C ro n .ret τ H Q := h
theorem put_get (τ : Tmps) (t s : Nat) (d : D) : τ.put t d s = if s = t then d else τ s := rfl

/-- A function, by its body. -/
theorem call_fn {I : CallSem} {f : FuncId} {fd : Func} {fn : RFn} {args : List D} {Q : D → Heap → Prop} (h1 : P.funcs[f]? = some fd) (h2 : rFn P fd = some fn)
    (h : bodyW P (Call P I) fn args H Q) : Call P I (.fn f) args H Q := (Call.closed P I).fn f fd fn args H Q h1 h2 h
/-- What the body hands back, as it is. -/
theorem body_i {fn : RFn} {args : List D} {R : D → Heap → Prop} (hC : Le C C) (h1 : args.length ≤ fn.n) (h2 : okCode fn.n fn.body = true) (h3 : fn.res.all (okRRes fn.n) = true)
    (h : wp P C none fn.n fn.body (initT args) H fun x τ H' => (x = .n ∨ x = .r) ∧ ∃ r, resD τ H' fn.res = some r ∧ R r H') : bodyW P C fn args H R :=
  ⟨h1, h2, h3, wp_mono hC (fun _ _ H' ⟨a, r, b, c⟩ => ⟨a, r, b, r, H', Ghost.refl P _ _, c⟩) h⟩
end

theorem wrap64 {n : Int} (h : -9223372036854775808 ≤ n) (h' : n < 9223372036854775808) : IntKind.i64.wrap n = n := by
  simp only [IntKind.wrap, IntKind.bits, IntKind.signed]
  simp
  split <;> omega

theorem ba_beq' (a b : ByteArray) : (a == b) = decide (a = b) := by
  by_cases h : a = b
  · subst h
    rw [beq_toListBytes]; simp
  · have : ¬ (a == b) = true := by
      intro hq
      apply h
      rw [beq_toListBytes, ByteArray.toList_eq, ByteArray.toList_eq] at hq
      have := eq_of_beq hq
      cases a; cases b
      simp only at this
      congr
      exact Array.toList_inj.1 this
    simp [h, this]
end Go.Fsl
