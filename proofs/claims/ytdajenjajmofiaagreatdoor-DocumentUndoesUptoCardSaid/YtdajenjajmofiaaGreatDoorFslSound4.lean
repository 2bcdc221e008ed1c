/- A part of our logic over the resolved code, or of a proof in it. -/
import Derived.Test.YtdajenjajmofiaaGreatDoorFslSound3
import Derived.Laws.StructEq
set_option linter.unusedSimpArgs false
set_option linter.unusedVariables false
namespace Go.Fsl
variable {P : Program} {F : Fz} {w : World} {H : Heap} {n : Nat} {τ : Tmps} {a : Act} {K : D → Heap → Prop} {C : CallSem} {o : Oper}

theorem intB_run {op : BinOp} {k k' : IntKind} {x y : Int} {r : Value} (h : intB op k x k' y = some r) (t : TypeId) (w : World) :
    (binOp op t (.int k x) (.int k' y)).run P w = .ok r w := by
  cases op <;> simp only [intB] at h <;> simp only [binOp]
  case shl =>
    split at h
    · cases h
    · rename_i hy; cases h; simp [Op.shift, hy]
  case shr =>
    split at h
    · cases h
    · rename_i hy; cases h; simp [Op.shift, hy]
  all_goals
    split at h
    · cases h
    · rename_i hk
      rw [if_neg hk]
      first
        | (cases h; simp [Op.intArith]; done)
        | (cases h; simp [Op.intBits]; done)
        | (cases h; simp [Op.intCmp]; done)
        | (split at h
           · cases h
           · rename_i hz; cases h; simp [Op.intDiv, hz])
        | cases h

theorem strB_run {op : BinOp} {x y : ByteArray} {r : Value} (h : strB op x y = some r) (t : TypeId) (w : World) :
    (binOp op t (.string x) (.string y)).run P w = .ok r w := by
  have e1 := Lib.toList_data x
  have e2 := Lib.toList_data y
  cases op <;> simp only [strB] at h <;> simp only [binOp, Op.stringOp, e1, e2]
  case add =>
    split at h
    · cases h
    · rename_i hz; cases h; rw [if_neg hz]; rfl
  all_goals first
    | (cases h; rfl)
    | cases h

theorem binV_run {op : BinOp} {d e : D} {x y r : Value} (h : binV op d e = some r) (hx : VR F w d x) (hy : VR F w e y) (t : TypeId) (u v : Operand) :
    (do eqGuard op t u v x y; binOp op t x y : Sem Value).run P w = .ok r w := by
  have key : (eqGuard op t u v x y).run P w = .ok () w ∧ (binOp op t x y).run P w = .ok r w := by
    cases hx with
    | v =>
      cases hy with
      | v =>
        cases x <;> cases y <;> first | (simp [binV] at h; done) | skip
        · simp only [binV] at h
          exact ⟨by cases op <;> simp [eqGuard], intB_run h t w⟩
        · simp only [binV] at h
          exact ⟨by cases op <;> simp [eqGuard], strB_run h t w⟩
      | _ => simp [binV] at h
    | _ => simp [binV] at h
  rw [Sem.run_bind, key.1]
  exact key.2

theorem s_bin (hR : Rel P F w H) (hT : TR F w n τ a.tmps) {op : BinOp} {t t' : TypeId} {x y : Operand} {rx ry : RO} (ho : o.op = .binOp op t x y t')
    (h1 : rO x = some rx) (h2 : rO y = some ry) (k1 : okO n rx = true) (k2 : okO n ry = true) (h : opW P C (.bin op rx ry) τ H K) : Does P F w H a o K := by
  have e1 := ev_vr hT h1 k1
  have e2 := ev_vr hT h2 k2
  simp only [opW] at h
  split at h
  · rename_i r hr
    refine Does.pure hR ?_ (.v r) h
    have := binV_run (P := P) hr e1 e2 t x y
    simp only [execOp, ho]
    rw [Sem.run_bind, this]
    rfl
  · exact h.elim

theorem exec_bin {op : BinOp} {t t' : TypeId} {x y : Operand} {vx vy r : Value} (ho : o.op = .binOp op t x y t') (hx : a.eval x = vx) (hy : a.eval y = vy)
    (h1 : (eqGuard op t x y vx vy).run P w = .ok () w) (h2 : (binOp op t vx vy).run P w = .ok r w) : (execOp a.eval o).run P w = .ok (.value r) w := by
  simp only [execOp, ho, hx, hy]
  rw [Sem.run_bind, Sem.run_bind, h1]
  simp only [Result.andThen_ok]
  rw [h2]
  rfl

/-- '==' and '!=' by what Op.equal says. -/
theorem eq_of_equal {neg : Bool} {t t' : TypeId} {x y : Operand} {vx vy : Value} {r : Bool} (ho : o.op = .binOp (if neg then .neq else .eql) t x y t') (hx : a.eval x = vx) (hy : a.eval y = vy)
    (hg : ∀ op, (eqGuard op t x y vx vy).run P w = .ok () w) (he : (Op.equal t vx vy).run P w = .ok r w)
    (hb : binOp .eql t vx vy = (do pure (.bool (← Op.equal t vx vy)) : Sem Value)) (hn : binOp .neq t vx vy = (do pure (.bool (!(← Op.equal t vx vy))) : Sem Value)) :
    (execOp a.eval o).run P w = .ok (.value (.bool (if neg then !r else r))) w := by
  cases neg with
  | false =>
    refine exec_bin ho hx hy (hg _) ?_
    simp only [Bool.false_eq_true, if_false, hb]
    rw [Sem.run_bind, he]; rfl
  | true =>
    refine exec_bin ho hx hy (hg _) ?_
    simp only [if_true, hn]
    rw [Sem.run_bind, he]; rfl

theorem equal_succ (t : TypeId) (x y : Value) : Op.equal t x y = Op.equalIn (9999 + 1) t x y := rfl

theorem s_eqb (hR : Rel P F w H) (hT : TR F w n τ a.tmps) {neg : Bool} {t t' : TypeId} {x y : Operand} {rx ry : RO} (ho : o.op = .binOp (if neg then .neq else .eql) t x y t')
    (hu : P.underlying t = some .bool) (h1 : rO x = some rx) (h2 : rO y = some ry) (k1 : okO n rx = true) (k2 : okO n ry = true) (h : opW P C (.eqb neg rx ry) τ H K) : Does P F w H a o K := by
  have e1 := ev_vr hT h1 k1
  have e2 := ev_vr hT h2 k2
  simp only [opW] at h
  split at h
  · rename_i p q hp hq
    rw [hp] at e1
    rw [hq] at e2
    generalize hvx : a.eval x = vx at *
    generalize hvy : a.eval y = vy at *
    cases e1
    cases e2
    refine Does.pure hR (eq_of_equal ho hvx hvy (fun op => by cases op <;> rfl) (r := p == q) ?_ rfl rfl) (.v _) h
    rw [equal_succ, Op.equalIn, Sem.run_bind, run_underlying hu]
    rfl
  · exact h.elim

theorem s_eqp (hR : Rel P F w H) (hT : TR F w n τ a.tmps) {neg : Bool} {t t' e : TypeId} {x y : Operand} {rx ry : RO} (ho : o.op = .binOp (if neg then .neq else .eql) t x y t')
    (hu : P.underlying t = some (.pointer e)) (hs : (szT P e).getD 0 ≠ 0) (h1 : rO x = some rx) (h2 : rO y = some ry) (k1 : okO n rx = true) (k2 : okO n ry = true)
    (h : opW P C (.eqp neg rx ry) τ H K) : Does P F w H a o K := by
  have e1 := ev_vr hT h1 k1
  have e2 := ev_vr hT h2 k2
  have hsz : ∃ k, szT P e = some k ∧ k ≠ 0 := by
    cases hz : szT P e with
    | none => rw [hz] at hs; exact absurd rfl hs
    | some k => rw [hz] at hs; exact ⟨k, rfl, hs⟩
  obtain ⟨k, hk, hk0⟩ := hsz
  simp only [opW] at h
  generalize hvx : a.eval x = vx at *
  generalize hvy : a.eval y = vy at *
  split at h
  · rename_i q hp hq
    rw [hp] at e1
    rw [hq] at e2
    cases e1
    cases e2
    refine Does.pure hR (eq_of_equal ho hvx hvy (fun op => by cases op <;> rfl) (r := q.isNone) ?_ rfl rfl) (.v _) h
    rw [equal_succ, Op.equalIn, Sem.run_bind, run_underlying hu]
    rfl
  · rename_i q _ hp hq
    rw [hp] at e1
    rw [hq] at e2
    cases e1
    cases e2
    refine Does.pure hR (eq_of_equal ho hvx hvy (fun op => by cases op <;> rfl) (r := q.isNone) ?_ rfl rfl) (.v _) h
    rw [equal_succ, Op.equalIn, Sem.run_bind, run_underlying hu]
    cases q <;> rfl
  · rename_i hp hq
    rw [hp] at e1
    rw [hq] at e2
    cases e2
    cases e1 with
    | fpt u hF hc hr' =>
      refine Does.pure hR (eq_of_equal ho hvx hvy (fun op => by cases op <;> rfl) (r := false) ?_ rfl rfl) (.v _) (by cases neg <;> exact h)
      rw [equal_succ, Op.equalIn, Sem.run_bind, run_underlying hu]
      rfl
  · rename_i p q hp hq
    rw [hp] at e1
    rw [hq] at e2
    cases e1
    cases e2
    obtain ⟨hb, hK⟩ := h
    have hsame : (sameAddr p q).run P w = .ok (p == q) w := by simp [sameAddr, hb]
    refine Does.pure hR (eq_of_equal ho hvx hvy (fun op => by cases op <;> rfl) (r := p == q) ?_ rfl rfl) (.v _) hK
    rw [equal_succ, Op.equalIn, Sem.run_bind, run_underlying hu]
    simp only [Result.andThen_ok]
    rw [Sem.run_bind, run_sizeOf hk]
    simp only [Result.andThen_ok, hk0, ne_eq, not_false_eq_true, if_true]
    exact hsame
  · exact h.elim

theorem s_eqs (hR : Rel P F w H) (hT : TR F w n τ a.tmps) {neg : Bool} {t t' e : TypeId} {x : Operand} {k k' : Nat} {rx : RO} (ho : o.op = .binOp (if neg then .neq else .eql) t x (.const (.slice none k k')) t')
    (hu : P.underlying t = some (.slice e)) (h1 : rO x = some rx) (k1 : okO n rx = true) (h : opW P C (.eqs neg rx) τ H K) : Does P F w H a o K := by
  have e1 := ev_vr hT h1 k1
  simp only [opW] at h
  generalize hvx : a.eval x = vx at *
  have run : ∀ (A : Option Addr) (l c : Nat), vx = .slice A l c → (execOp a.eval o).run P w = .ok (.value (.bool (if neg then !A.isNone else A.isNone))) w := by
    rintro A l c rfl
    refine eq_of_equal ho hvx rfl (fun op => by cases op <;> rfl) (r := A.isNone) ?_ rfl rfl
    rw [equal_succ, Op.equalIn, Sem.run_bind, run_underlying hu]
    cases A <;> rfl
  split at h
  · rename_i A l c hp
    rw [hp] at e1
    cases e1
    exact Does.pure hR (run A l c rfl) (.v _) h
  · rename_i sz xs hp
    rw [hp] at e1
    cases e1 with
    | nil _ A c => exact absurd rfl h.1
    | fz u hsz hcap hF hc hr' =>
      have := run (some _) _ _ rfl
      exact Does.pure hR this (.v _) (by cases neg <;> simpa using h.2)
  · exact h.elim

theorem s_eqi (hR : Rel P F w H) (hT : TR F w n τ a.tmps) {neg : Bool} {t t' : TypeId} {ms : Array (String × TypeId)} {x : Operand} {rx : RO} (ho : o.op = .binOp (if neg then .neq else .eql) t x (.const .nilIface) t')
    (hu : P.underlying t = some (.interface ms)) (h1 : rO x = some rx) (k1 : okO n rx = true) (h : opW P C (.eqi neg rx) τ H K) : Does P F w H a o K := by
  have e1 := ev_vr hT h1 k1
  simp only [opW] at h
  generalize hvx : a.eval x = vx at *
  split at h
  · rename_i hp
    rw [hp] at e1
    cases e1
    refine Does.pure hR (eq_of_equal ho hvx rfl (fun op => by cases op <;> cases x <;> rfl) (r := true) ?_ rfl rfl) (.v _) (by cases neg <;> exact h)
    rw [equal_succ, Op.equalIn, Sem.run_bind, run_underlying hu]
    rfl
  · rename_i p q hp
    rw [hp] at e1
    cases e1
    refine Does.pure hR (eq_of_equal ho hvx rfl (fun op => by cases op <;> rfl) (r := false) ?_ rfl rfl) (.v _) (by cases neg <;> exact h)
    rw [equal_succ, Op.equalIn, Sem.run_bind, run_underlying hu]
    rfl
  · exact h.elim

theorem s_un (hR : Rel P F w H) (hT : TR F w n τ a.tmps) {op : UnOp} {t : TypeId} {x : Operand} {rx : RO} (ho : o.op = .unOp op t x)
    (h1 : rO x = some rx) (k1 : okO n rx = true) (h : opW P C (.un op rx) τ H K) : Does P F w H a o K := by
  have e1 := ev_vr hT h1 k1
  simp only [opW] at h
  generalize hvx : a.eval x = vx at *
  generalize rx.ev τ = d at *
  split at h
  · rename_i r hr
    refine Does.pure hR ?_ (.v r) h
    have : (Op.unary op vx).run P w = .ok r w := by
      cases e1 with
      | v =>
        cases op <;> cases vx <;> simp only [unV] at hr <;> first
          | (cases hr; rfl)
          | cases hr
      | _ => cases op <;> simp [unV] at hr
    simp [execOp, ho, hvx, this]
  · exact h.elim

theorem s_cvi (hR : Rel P F w H) (hT : TR F w n τ a.tmps) {s t : TypeId} {k0 k : IntKind} {x : Operand} {rx : RO} (ho : o.op = .convert s t x)
    (hs : P.underlying s = some (.int k0)) (ht : P.underlying t = some (.int k)) (h1 : rO x = some rx) (k1 : okO n rx = true) (h : opW P C (.cvi k rx) τ H K) : Does P F w H a o K := by
  have e1 := ev_vr hT h1 k1
  simp only [opW] at h
  split at h
  · rename_i j hj
    obtain ⟨k', hi⟩ := e1.intD hj
    refine Does.pure hR ?_ (.v _) h
    simp [execOp, ho, hi, convert, run_underlying hs, run_underlying ht, Conv.intToInt]
  · exact h.elim

theorem s_cvs (hR : Rel P F w H) (hT : TR F w n τ a.tmps) {s t : TypeId} {k0 : IntKind} {x : Operand} {rx : RO} (ho : o.op = .convert s t x)
    (hs : P.underlying s = some (.int k0)) (ht : P.underlying t = some .string) (h1 : rO x = some rx) (k1 : okO n rx = true) (h : opW P C (.cvs rx) τ H K) : Does P F w H a o K := by
  have e1 := ev_vr hT h1 k1
  simp only [opW] at h
  split at h
  · rename_i j hj
    obtain ⟨k', hi⟩ := e1.intD hj
    refine Does.pure hR ?_ (.v _) h
    simp [execOp, ho, hi, convert, run_underlying hs, run_underlying ht, Conv.intToString]
  · exact h.elim

theorem s_ext (hR : Rel P F w H) (hT : TR F w n τ a.tmps) {x : Operand} {i : Nat} {rx : RO} (ho : o.op = .extract x i)
    (h1 : rO x = some rx) (k1 : okO n rx = true) (h : opW P C (.ext rx i) τ H K) : Does P F w H a o K := by
  have e1 := ev_vr hT h1 k1
  simp only [opW] at h
  split at h
  · rename_i ds hd
    rw [hd] at e1
    generalize hvx : a.eval x = vx at *
    split at h
    · rename_i d hi
      obtain ⟨hlt, rfl⟩ := List.getElem?_eq_some_iff.1 hi
      cases e1 with
      | tup u hl hr =>
        have hlt' : i < u.length := by omega
        refine Does.pure hR (v := u[i]) ?_ (hr i hlt hlt') h
        simp [execOp, ho, hvx, Instr.extract, hlt']
    · exact h.elim
  · exact h.elim

theorem s_fld (hR : Rel P F w H) (hT : TR F w n τ a.tmps) {t : TypeId} {i k : Nat} {g : Bool} {fs : Array Field} {f : Field} {x : Operand} {rx : RO} (ho : o.op = .field t x i)
    (hu : P.underlying t = some (.struct fs)) (hf : fs[i]? = some f) (hg : aggT P f.type = some g) (hk : szT P f.type = some k)
    (h1 : rO x = some rx) (k1 : okO n rx = true) (h : opW P C (.fld g f.offset k rx) τ H K) : Does P F w H a o K := by
  have e1 := ev_vr hT h1 k1
  simp only [opW] at h
  split at h
  · rename_i cs hd
    rw [hd] at e1
    generalize hvx : a.eval x = vx at *
    split at h
    · rename_i d hrd
      cases e1 with
      | agg u hl hr =>
        have : ∃ v, (part f.type u.toArray f.offset).run P w = .ok v w ∧ VR F w d v := by
          cases g with
          | false =>
            simp only [rd, Bool.false_eq_true, if_false] at hrd
            obtain ⟨hlt, rfl⟩ := List.getElem?_eq_some_iff.1 hrd
            have hlt' : f.offset < u.length := by omega
            refine ⟨u[f.offset], ?_, hr _ hlt hlt'⟩
            simp [part, run_isAgg hg, hlt']
          | true =>
            simp only [rd, if_true] at hrd
            split at hrd
            · rename_i hle
              cases hrd
              refine ⟨.agg ((u.drop f.offset).take k).toArray, ?_, .agg _ (by simp [hl]) (fun j hj hj' => ?_)⟩
              · simp [part, run_isAgg hg, run_sizeOf hk]
              · simp only [List.length_take, List.length_drop] at hj hj'
                simp only [List.getElem_take, List.getElem_drop]
                exact hr _ (by omega) (by omega)
            · cases hrd
        obtain ⟨v, hv1, hv2⟩ := this
        refine Does.pure hR ?_ hv2 h
        simp [execOp, ho, hvx, Instr.field, run_underlying hu, hf, asAgg, hv1]
    · exact h.elim
  · exact h.elim

theorem s_idx (hR : Rel P F w H) (hT : TR F w n τ a.tmps) {t : TypeId} {x i : Operand} {rx ri : RO} (ho : o.op = .index t x i)
    (hu : P.underlying t = some .string) (h1 : rO x = some rx) (h2 : rO i = some ri) (k1 : okO n rx = true) (k2 : okO n ri = true) (h : opW P C (.idx rx ri) τ H K) : Does P F w H a o K := by
  have e1 := ev_vr hT h1 k1
  have e2 := ev_vr hT h2 k2
  simp only [opW] at h
  split at h
  · rename_i j s hj hs
    obtain ⟨k', hi⟩ := e2.intD hj
    rw [hs] at e1
    generalize hvx : a.eval x = vx at *
    cases e1
    split at h
    · rename_i b hb
      refine Does.pure hR ?_ (.v _) h
      simp only [execOp, ho, hvx, hi, Instr.index]
      simp [asIntOf, run_underlying hu, hb]
    · exact h.elim
  · exact h.elim

theorem s_aix (hR : Rel P F w H) (hT : TR F w n τ a.tmps) {t e : TypeId} {len k : Nat} {g : Bool} {x i : Operand} {rx ri : RO} (ho : o.op = .index t x i)
    (hu : P.underlying t = some (.array len e)) (hg : aggT P e = some g) (hk : szT P e = some k) (h1 : rO x = some rx) (h2 : rO i = some ri) (k1 : okO n rx = true) (k2 : okO n ri = true)
    (h : opW P C (.aix len k g rx ri) τ H K) : Does P F w H a o K := by
  have e1 := ev_vr hT h1 k1
  have e2 := ev_vr hT h2 k2
  simp only [opW] at h
  split at h
  · rename_i j cs hj hd
    obtain ⟨ki, hi⟩ := e2.intD hj
    rw [hd] at e1
    generalize hvx : a.eval x = vx at *
    obtain ⟨hj0, hj1, h⟩ := h
    split at h
    · rename_i d hrd
      cases e1 with
      | agg u hl hr =>
        have : ∃ v, (part e u.toArray (j.toNat * k)).run P w = .ok v w ∧ VR F w d v := by
          generalize j.toNat * k = off at *
          cases g with
          | false =>
            simp only [rd, Bool.false_eq_true, if_false] at hrd
            obtain ⟨hlt, rfl⟩ := List.getElem?_eq_some_iff.1 hrd
            have hlt' : off < u.length := by omega
            refine ⟨u[off], ?_, hr _ hlt hlt'⟩
            simp [part, run_isAgg hg, hlt']
          | true =>
            simp only [rd, if_true] at hrd
            split at hrd
            · rename_i hle
              cases hrd
              refine ⟨.agg ((u.drop off).take k).toArray, ?_, .agg _ (by simp [hl]) (fun j hj hj' => ?_)⟩
              · simp [part, run_isAgg hg, run_sizeOf hk]
              · simp only [List.length_take, List.length_drop] at hj hj'
                simp only [List.getElem_take, List.getElem_drop]
                exact hr _ (by omega) (by omega)
            · cases hrd
        obtain ⟨v, hv1, hv2⟩ := this
        refine Does.pure hR ?_ hv2 h
        have hcond : (0 ≤ j ∧ j < (len : Int)) := ⟨hj0, hj1⟩
        simp [execOp, ho, hvx, hi, Instr.index, asIntOf, run_underlying hu, hcond, run_sizeOf hk, hv1]
    · exact h.elim
  · exact h.elim

theorem exec_builtin {b : Builtin} {xs : Array Operand} {ts : Array TypeId} {v : Value} {w' : World} (ho : o.op = .call { callee := .builtin b, args := xs, argTypes := ts })
    (h : (builtin b ts o.type (xs.map fun | .const _ => true | _ => false) (xs.map a.eval)).run P w = .ok (.value v) w') : (execOp a.eval o).run P w = .ok (.value v) w' := by
  simp only [execOp, ho, resolve]
  rw [Sem.run_bind]
  exact h

theorem s_len (hR : Rel P F w H) (hT : TR F w n τ a.tmps) {ts : Array TypeId} {t : TypeId} {x : Operand} {rx : RO} (ho : o.op = .call { callee := .builtin .len, args := #[x], argTypes := ts })
    (ht : ts[0]? = some t) {d : TypeDesc} (hu : P.underlying t = some d) (hd : d = .string ∨ ∃ e, d = .slice e) (h1 : rO x = some rx) (k1 : okO n rx = true)
    (h : opW P C (.len (d matches .string) rx) τ H K) : Does P F w H a o K := by
  have e1 := ev_vr hT h1 k1
  simp only [opW] at h
  have fin : ∀ {k : Nat}, (Builtin.len_ ts o.type #[a.eval x]).run P w = .ok (goInt k) w → K (.i k) H → Does P F w H a o K := by
    intro k hrun hK
    refine Does.pure hR (exec_builtin ho ?_) (.v _) hK
    simp only [builtin, List.map_toArray, List.map_cons, List.map_nil]
    rw [Sem.run_bind, hrun]
    rfl
  generalize hvx : a.eval x = vx at *
  split at h
  · rename_i s hs
    rw [hs] at e1
    cases e1
    obtain ⟨hb, hK⟩ := h
    refine fin ?_ hK
    rcases hd with rfl | ⟨e, rfl⟩
    · simp [Builtin.len_, ht, run_underlying hu]
    · simp at hb
  · rename_i A l c hs
    rw [hs] at e1
    cases e1
    obtain ⟨hb, hK⟩ := h
    refine fin ?_ hK
    rcases hd with rfl | ⟨e, rfl⟩
    · simp at hb
    · simp [Builtin.len_, ht, run_underlying hu]
  · rename_i sz xs hs
    rw [hs] at e1
    obtain ⟨hb, hK⟩ := h
    rcases hd with rfl | ⟨e, rfl⟩
    · simp at hb
    · cases e1 with
      | nil _ A c => exact fin (by simp [Builtin.len_, ht, run_underlying hu]) hK
      | fz u hsz hcap hF hc hr' => exact fin (by simp [Builtin.len_, ht, run_underlying hu]) hK
  · exact h.elim

end Go.Fsl
