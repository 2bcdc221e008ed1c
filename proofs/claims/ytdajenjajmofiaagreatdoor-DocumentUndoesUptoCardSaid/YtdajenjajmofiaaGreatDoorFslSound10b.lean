/- A part of our logic over the resolved code, or of a proof in it. -/
import Derived.Test.YtdajenjajmofiaaGreatDoorFslSound10
import Derived.Lib.UnsafeStr
import Derived.Lib.Builder
import Derived.Laws.Externs
import Derived.KernelRfl
set_option linter.unusedSimpArgs false
set_option linter.unusedVariables false
namespace Go.Fsl
variable {P : Program} {F : Fz} {w : World} {H : Heap} {n : Nat} {τ : Tmps} {a : Act} {K : D → Heap → Prop} {C : CallSem} {o : Oper}

theorem liesAt_self {u : TypeId} {k : Nat} (hc : P.cellsOf u = k) (hk : 0 < k) (count : Nat) (hn : 1 ≤ count) : liesAt P P.depth u count 0 u 1 = true := by
  have hd : P.depth = (2 * (P.types.size + Made.depth) + 1) + 1 := rfl
  rw [hd]
  simp only [liesAt, Bool.or_eq_true]
  left
  rw [hd]
  simp [rowAt, hc, hn, sameLayout]
  omega

theorem s_cvt (hR : Rel P F w H) (hT : TR F w n τ a.tmps) {src dst t : TypeId} {x : Operand} {rx : RO} (ho : o.op = .convert src dst x) (hs : P.underlying src = some (.pointer t))
    (hd : P.underlying dst = some .unsafePointer) (hz : ¬ (szT P t).getD 0 = 0) (h1 : rO x = some rx) (k1 : okO n rx = true) (h : opW P C (.cvt rx) τ H K) : Does P F w H a o K := by
  have e1 := ev_vr hT h1 k1
  simp only [opW] at h
  split at h
  · rename_i b off hx
    rw [hx] at e1
    generalize hvx : a.eval x = vx at *
    cases e1
    split at h
    · rename_i cs frz room ty hb
      obtain ⟨hlt, hK⟩ := h
      obtain ⟨arr, e, lo, hi, g1, g2, _⟩ := hR.own b _ hb
      obtain ⟨j, hj, hj0⟩ : ∃ j, P.info? t = some j ∧ j.size ≠ 0 := by
        simp only [szT] at hz
        cases hi : P.info? t with
        | none => rw [hi] at hz; simp at hz
        | some j => rw [hi] at hz; exact ⟨j, rfl, by simpa using hz⟩
      have hrun := Lib.run_to_unsafe (P := P) w (src := src) (dst := dst) (t := t) (e := e.1) (j := j) (cells := arr.size) ⟨b, off, none⟩ hs hd hj hj0 (by simp [World.shape?, g1]) (by show off < arr.size; omega)
      refine Does.pure hR (v := .pointer (some ⟨b, off, none⟩)) ?_ (.v _) hK
      simp only [execOp, ho]
      exact exec_val (by rw [hvx]; exact hrun)
    · exact h.elim
  · exact h.elim

theorem s_cvu (hR : Rel P F w H) (hT : TR F w n τ a.tmps) {src dst u : TypeId} {x : Operand} {rx : RO} (ho : o.op = .convert src dst x) (hs : P.underlying src = some .unsafePointer)
    (hd : P.underlying dst = some (.pointer u)) (hz : ¬ (P.cellsOf u = 0 ∨ (szT P u).isNone = true)) (h1 : rO x = some rx) (k1 : okO n rx = true) (h : opW P C (.cvu (P.cellsOf u) u rx) τ H K) : Does P F w H a o K := by
  have e1 := ev_vr hT h1 k1
  simp only [opW] at h
  split at h
  · rename_i b hx
    rw [hx] at e1
    generalize hvx : a.eval x = vx at *
    cases e1
    split at h
    · rename_i cs frz room ty hb
      obtain ⟨rfl, hn, hle, hK⟩ := h
      obtain ⟨arr, e, lo, hi, g1, g2, _⟩ := hR.own b _ hb
      have he : e.1 = u := e.2 u rfl
      rw [he] at g1
      obtain ⟨j, hj⟩ : ∃ j, P.info? u = some j := by
        simp only [szT, not_or] at hz
        cases hi : P.info? u with
        | none => rw [hi] at hz; simp at hz
        | some j => exact ⟨j, rfl⟩
      have hrun := Lib.run_from_unsafe (P := P) w (src := src) (dst := dst) (u := u) (e := u) (j := j) (cells := arr.size) ⟨b, 0, none⟩ hs hd hj (by simp [World.shape?, g1])
        (liesAt_self rfl hn _ ((Nat.le_div_iff_mul_le hn).2 (by omega)))
      refine Does.pure hR (v := .pointer (some ⟨b, 0, none⟩)) ?_ (.v _) hK
      simp only [execOp, ho]
      exact exec_val (by rw [hvx]; exact hrun)
    · exact h.elim
  · exact h.elim

theorem s_usd (hR : Rel P F w H) (hT : TR F w n τ a.tmps) {ts : Array TypeId} {x : Operand} {rx : RO} (ho : o.op = .call { callee := .builtin .unsafeSliceData, args := #[x], argTypes := ts })
    (h1 : rO x = some rx) (k1 : okO n rx = true) (h : opW P C (.usd rx) τ H K) : Does P F w H a o K := by
  have e1 := ev_vr hT h1 k1
  have fin : ∀ {v : Value}, (Builtin.unsafeSliceData_ ts o.type #[a.eval x]).run P w = .ok v w → K (.v v) H → Does P F w H a o K := by
    intro v hrun hK
    refine Does.pure hR (exec_builtin ho ?_) (.v _) hK
    simp only [builtin, List.map_toArray, List.map_cons, List.map_nil]
    rw [Sem.run_bind, hrun]
    rfl
  simp only [opW] at h
  generalize hvx : a.eval x = vx at *
  split at h
  · rename_i hx
    rw [hx] at e1
    cases e1
    exact fin (Lib.run_unsafeSliceData_nil w ts o.type _ _) h
  · rename_i A m c hx
    rw [hx] at e1
    cases e1
    exact fin (Lib.run_unsafeSliceData_row w ts o.type A m c h.1) h.2
  · exact h.elim

theorem s_ust (hR : Rel P F w H) (hT : TR F w n τ a.tmps) {ts : Array TypeId} {t it u : TypeId} {p x : Operand} {rp rx : RO} (ho : o.op = .call { callee := .builtin .unsafeString, args := #[p, x], argTypes := ts })
    (hts : ts = #[t, it]) (ht : P.underlying t = some (.pointer u)) (hc1 : P.cellsOf u = 1) (h1 : rO p = some rp) (k1 : okO n rp = true) (h2 : rO x = some rx) (k2 : okO n rx = true)
    (h : opW P C (.ust u rp rx) τ H K) : Does P F w H a o K := by
  have e1 := ev_vr hT h1 k1
  have e2 := ev_vr hT h2 k2
  have fin : ∀ {v : Value} {w' : World}, (Builtin.unsafeString_ ts o.type #[a.eval p, a.eval x]).run P w = .ok v w' → (execOp a.eval o).run P w = .ok (.value v) w' := by
    intro v w' hrun
    refine exec_builtin ho ?_
    simp only [builtin, List.map_toArray, List.map_cons, List.map_nil]
    rw [Sem.run_bind, hrun]; rfl
  have hint : ∀ (ty : TypeId) (q : Option Addr) (k : IntKind) (m : Int), (Builtin.unsafeString_ #[t, it] ty #[.pointer q, .int k m]).run P w = (Builtin.unsafeString_ #[t, it] ty #[.pointer q, .int .i64 m]).run P w := fun ty q k m => rfl
  simp only [opW] at h
  split at h
  · rename_i m hm
    obtain ⟨k, hk⟩ := e2.intD hm
    have hai : ∀ w, (asInt (a.eval x)).run P w = .ok m w := by intro w; rw [hk]; rfl
    split at h
    · rename_i h0
      subst h0
      split at h
      · rename_i A hp
        rw [hp] at e1
        generalize hvp : a.eval p = vp at *
        cases e1
        refine Does.pure hR (fin (v := .string .empty) ?_) (.v _) h
        rw [hk, hts, hint]
        exact Lib.run_unsafeString_none w t it o.type A
      · exact h.elim
    · rename_i h0
      obtain ⟨hge, hlt, h⟩ := h
      split at h
      · rename_i b hp
        rw [hp] at e1
        generalize hvp : a.eval p = vp at *
        cases e1
        split at h
        · rename_i cs frz room ty hb
          obtain ⟨rfl, hle, hfl, l, hl, hK⟩ := h
          obtain ⟨arr, e, lo, hi, g1, g2, g3, g4, uu, g5⟩ := hR.own b _ hb
          have he : e.1 = u := e.2 u rfl
          rw [he] at g1
          have hll : l.length = m.toNat := by
            have := congrArg List.length hl
            rw [List.length_take, List.length_map] at this
            omega
          have hcell : ∀ j x, l[j]? = some x → w.cell? ((⟨b, 0, none⟩ : Addr).add j) = some (.int .u8 x.toNat) := by
            intro j x hj
            obtain ⟨hlt2, rfl⟩ := List.getElem?_eq_some_iff.1 hj
            have hj2 : j < cs.length := by omega
            have e3 : cs[j]? = some (byteD l[j]) := by
              have : (cs.take m.toNat)[j]? = some (byteD l[j]) := by rw [hl, List.getElem?_map, hj]; rfl
              rw [List.getElem?_take] at this
              split at this
              · exact this
              · cases this
            rw [List.getElem?_eq_getElem hj2] at e3
            obtain ⟨q1, q2⟩ := g5 j hj2
            rw [Option.some.inj e3] at q2
            have ea : (⟨b, 0, none⟩ : Addr).add j = ⟨b, j, none⟩ := by
              unfold Addr.add
              by_cases hj0 : j = 0
              · subst hj0; simp
              · simp [hj0]
            rw [ea, cell_of g1, q1]
            generalize uu j = v at q2
            cases q2
            rfl
          have hm' : a.eval x = .int k m := hk
          have hrun := Lib.run_unsafeString_row (P := P) w t it o.type u ht hc1 b arr.size (by simp [World.shape?, g1]) l (by rintro rfl; simp at hll; omega) (by omega) (by omega) hcell
          have hcellw : ∀ c i, (w.freeze ⟨b, 0, none⟩ l.length).cell? ⟨c, i, none⟩ = w.cell? ⟨c, i, none⟩ := by
            intro c i
            unfold World.freeze
            split
            · rfl
            · by_cases ec : c = b
              · subst ec
                simp only [World.cell?, Array.getElem?_modify, if_true, g1, Option.map_some]
              · simp only [World.cell?, Array.getElem?_modify, if_neg (Ne.symm ec)]
          have hoth : ∀ c, c ≠ b → (w.freeze ⟨b, 0, none⟩ l.length).heap[c]? = w.heap[c]? := by
            intro c hc
            unfold World.freeze
            split
            · rfl
            · simp only [Array.getElem?_modify, if_neg (Ne.symm hc)]
          have hsize : (w.freeze ⟨b, 0, none⟩ l.length).heap.size = w.heap.size := by
            unfold World.freeze
            split
            · rfl
            · simp
          have hq : Quiet w (w.freeze ⟨b, 0, none⟩ l.length) := by
            unfold World.freeze
            split
            · exact ⟨rfl, rfl⟩
            · exact ⟨rfl, rfl⟩
          have hkeep : KeepF F w (w.freeze ⟨b, 0, none⟩ l.length) := fun c i v _ hv => by rw [hcellw]; exact hv
          refine ⟨_, .string ⟨l.toArray⟩, _, w.freeze ⟨b, 0, none⟩ l.length, H.era b, F, fin ?_, .inl rfl, ?_, ?_, .v _, hK⟩
          · rw [hm', hts, hint]
            rw [show m = (l.length : Int) by omega]
            exact hrun
          · exact { sub := SubF.refl F, keep := hkeep, size := by rw [hsize]; exact Nat.le_refl _, rest := fun c _ hn => hoth c (by rintro rfl; rw [hb] at hn; cases hn),
                    dom := fun c _ hn => by simp only [Heap.era]; split <;> first | rfl | exact hn
                    newF := fun _ _ h => .inl h, quiet := hq, ro := fun c p hc hcp hr => by
                      have e : c ≠ b := by rintro rfl; rw [hb] at hcp; cases hcp; obtain ⟨_, _, _, _, e1, e2⟩ := hr; cases e1; omega
                      exact ⟨hoth c e, .inl (by simp only [Heap.era, if_neg e]; exact hcp)⟩ }
          · refine ⟨fun c q hc => ?_, fun c i hf => ⟨?_, fun q hc => ?_⟩⟩
            · have hne : c ≠ b := by rintro rfl; simp [Heap.era] at hc
              have hc' : H c = some q := by simpa [Heap.era, hne] using hc
              exact (hR.own c q hc').mono (SubF.refl F) hkeep (hoth c hne)
            · obtain ⟨v, hv⟩ := (hR.fz c i hf).1
              exact ⟨v, by rw [hcellw]; exact hv⟩
            · have hne : c ≠ b := by rintro rfl; simp [Heap.era] at hc
              have hc' : H c = some q := by simpa [Heap.era, hne] using hc
              exact (hR.fz c i hf).2 q hc'
        · exact h.elim
      · exact h.elim
  · exact h.elim
theorem find_noesc {fd : Func} (h : fd.name = "internal/abi.NoEscape") : Extern.find fd = some Extern.AbiNoEscape.same := by
  have e1 : Extern.allGenericRows.lookup "internal/abi.NoEscape" = none := by kernel_rfl
  have e2 : Extern.allTypedRows.lookup "internal/abi.NoEscape" = none := by kernel_rfl
  have e3 : Extern.allRows.lookup "internal/abi.NoEscape" = some Extern.AbiNoEscape.same := by kernel_rfl
  simp [Extern.find, h, e1, e2, e3]
theorem find_idxb {fd : Func} (h : fd.name = "internal/bytealg.IndexByteString") : Extern.find fd = some Extern.BytealgIndexByte.indexByte := by
  have e1 : Extern.allGenericRows.lookup "internal/bytealg.IndexByteString" = none := by kernel_rfl
  have e2 : Extern.allTypedRows.lookup "internal/bytealg.IndexByteString" = none := by kernel_rfl
  have e3 : Extern.allRows.lookup "internal/bytealg.IndexByteString" = some Extern.BytealgIndexByte.indexByte := by kernel_rfl
  simp [Extern.find, h, e1, e2, e3]
theorem find_cnts {fd : Func} (h : fd.name = "internal/bytealg.CountString") : Extern.find fd = some Extern.BytealgCount.count := by
  have e1 : Extern.allGenericRows.lookup "internal/bytealg.CountString" = none := by kernel_rfl
  have e2 : Extern.allTypedRows.lookup "internal/bytealg.CountString" = none := by kernel_rfl
  have e3 : Extern.allRows.lookup "internal/bytealg.CountString" = some Extern.BytealgCount.count := by kernel_rfl
  simp [Extern.find, h, e1, e2, e3]
theorem find_add64 {fd : Func} (h : fd.name = "math/bits.Add64") : Extern.find fd = some (fun args => do
    let (x, y, c) ← Extern.MathBitsCarry.three "Add64" args
    pure (Extern.MathBitsCarry.pair ((x + y + c) % Extern.MathBitsCarry.m64) ((x + y + c) / Extern.MathBitsCarry.m64))) := by
  have e1 : Extern.allGenericRows.lookup "math/bits.Add64" = none := by kernel_rfl
  have e2 : Extern.allTypedRows.lookup "math/bits.Add64" = none := by kernel_rfl
  have e3 : Extern.allRows.lookup "math/bits.Add64" = some (fun args => do
    let (x, y, c) ← Extern.MathBitsCarry.three "Add64" args
    pure (Extern.MathBitsCarry.pair ((x + y + c) % Extern.MathBitsCarry.m64) ((x + y + c) / Extern.MathBitsCarry.m64))) := by kernel_rfl
  simp [Extern.find, h, e1, e2, e3]
theorem findNext_ext {fd : Func} (ho : fd.origin = "") (h : fd.name = "internal/abi.NoEscape" ∨ fd.name = "internal/bytealg.IndexByteString" ∨ fd.name = "internal/bytealg.CountString" ∨ fd.name = "math/bits.Add64") : Extern.findNext fd = none := by
  have e0 : Extern.allNextRows.lookup "" = none := by kernel_rfl
  have e1 : Extern.allNextRows.lookup "internal/abi.NoEscape" = none := by kernel_rfl
  have e2 : Extern.allNextRows.lookup "internal/bytealg.IndexByteString" = none := by kernel_rfl
  have e3 : Extern.allNextRows.lookup "internal/bytealg.CountString" = none := by kernel_rfl
  have e4 : Extern.allNextRows.lookup "math/bits.Add64" = none := by kernel_rfl
  rcases h with h | h | h | h <;> simp [Extern.findNext, h, ho, e0, e1, e2, e3, e4]

theorem s_pext (hR : Rel P F w H) (hT : TR F w n τ a.tmps) {f : FuncId} {args : Array Operand} {ats : Array TypeId} {rs : List RO} {k : EK} (ho : o.op = .call { callee := .value (.func f), args := args, argTypes := ats })
    (hk : extK P f = some k) (h1 : rOs args.toList = some rs) (k1 : okOs n rs = true) (h : opW P C (.pext k rs) τ H K) : Does P F w H a o K := by
  have hv := evs_vr hT h1 k1
  have hmap : (args.toList.map a.eval).toArray = args.map a.eval := by simp [← Array.toList_map]
  obtain ⟨fd, hfd, hb, horg, hnm⟩ : ∃ fd, P.funcs[f]? = some fd ∧ fd.body.isNone = true ∧ fd.origin = "" ∧
      ((fd.name = "internal/abi.NoEscape" ∧ k = .noesc) ∨ (fd.name = "internal/bytealg.IndexByteString" ∧ k = .idxb) ∨ (fd.name = "internal/bytealg.CountString" ∧ k = .cnts) ∨ (fd.name = "math/bits.Add64" ∧ k = .add64)) := by
    simp only [extK] at hk
    split at hk
    · cases hk
    · rename_i fd hfd
      refine ⟨fd, hfd, ?_⟩
      split at hk
      · rename_i hc
        simp only [Bool.and_eq_true, beq_iff_eq] at hc
        refine ⟨hc.1, hc.2, ?_⟩
        split at hk
        · rename_i h1; cases hk; exact .inl ⟨by simpa using h1, rfl⟩
        · split at hk
          · rename_i h1; cases hk; exact .inr (.inl ⟨by simpa using h1, rfl⟩)
          · split at hk
            · rename_i h1; cases hk; exact .inr (.inr (.inl ⟨by simpa using h1, rfl⟩))
            · split at hk
              · rename_i h1; cases hk; exact .inr (.inr (.inr ⟨by simpa using h1, rfl⟩))
              · cases hk
      · cases hk
  have hname : (fd.name == "runtime.NumGoroutine") = false := by rcases hnm with ⟨h, _⟩ | ⟨h, _⟩ | ⟨h, _⟩ | ⟨h, _⟩ <;> rw [h] <;> decide
  have hnext : Extern.findNext fd = none := findNext_ext horg (by rcases hnm with ⟨h, _⟩ | ⟨h, _⟩ | ⟨h, _⟩ | ⟨h, _⟩ <;> simp [h])
  have fin : ∀ {e : Array Value → Sem Value} {v : Value} {d : D}, Extern.find fd = some e → (e (args.map a.eval)).run P w = .ok v w → VR F w d v → K d H → Does P F w H a o K := by
    intro e v d he hrun hd hK
    refine Does.pure hR (v := v) ?_ hd hK
    have := run_callFunc_extern (P := P) hfd hname hb hnext he (args.map a.eval) w
    rw [hrun] at this
    simp only [execOp, ho, resolve, Act.eval, Deferred.ofValue]
    simpa [invoke, Act.eval] using this
  simp only [opW] at h
  generalize hds : rs.map (·.ev τ) = ds at h hv
  rw [← hmap] at fin
  generalize args.toList.map a.eval = vs at hv fin
  split at h
  · rename_i d hd
    rcases hnm with ⟨hn, rfl⟩ | ⟨hn, rfl⟩ | ⟨hn, rfl⟩ | ⟨hn, rfl⟩
    · match ds, hd with
      | [x], hd =>
        cases hd
        match vs, hv with
        | [v], hv => exact fin (find_noesc hn) rfl hv.head h
    · match ds, hd with
      | [.v (.string s), .v (.int .u8 c)], hd =>
        cases hd
        match vs, hv with
        | [v1, v2], hv =>
          have g1 := hv.2 0 (by simp) (by simp)
          have g2 := hv.2 1 (by simp) (by simp)
          simp only [List.getElem_cons_zero, List.getElem_cons_succ] at g1 g2
          cases g1
          cases g2
          refine fin (v := .int .i64 (idxByteV s c.toNat.toUInt8)) (find_idxb hn) ?_ (.v _) h
          change ((match (List.range s.size).find? (fun i => s[i]! == c.toNat.toUInt8) with | some i => pure (goInt i) | none => pure (goInt (-1)) : Sem Value)).run P w = _
          unfold idxByteV
          cases (List.range s.size).find? (fun i => s[i]! == c.toNat.toUInt8) <;> rfl
    · match ds, hd with
      | [.v (.string s), .v (.int .u8 c)], hd =>
        cases hd
        match vs, hv with
        | [v1, v2], hv =>
          have g1 := hv.2 0 (by simp) (by simp)
          have g2 := hv.2 1 (by simp) (by simp)
          simp only [List.getElem_cons_zero, List.getElem_cons_succ] at g1 g2
          cases g1
          cases g2
          refine fin (v := .int .i64 (cntByteV s c.toNat.toUInt8)) (find_cnts hn) ?_ (.v _) h
          rfl
    · match ds, hd with
      | [.v (.int .u64 x), .v (.int .u64 y), .v (.int .u64 c)], hd =>
        simp only [extV] at hd
        split at hd
        · rename_i hc
          cases hd
          match vs, hv with
          | [v1, v2, v3], hv =>
            have g1 := hv.2 0 (by simp) (by simp)
            have g2 := hv.2 1 (by simp) (by simp)
            have g3 := hv.2 2 (by simp) (by simp)
            simp only [List.getElem_cons_zero, List.getElem_cons_succ] at g1 g2 g3
            cases g1
            cases g2
            cases g3
            refine fin (v := .tuple #[.int .u64 (Int.ofNat ((x.toNat + y.toNat + c.toNat) % 2 ^ 64)), .int .u64 (Int.ofNat ((x.toNat + y.toNat + c.toNat) / 2 ^ 64))]) (find_add64 hn) ?_ ?_ h
            · have hthree : ∀ (Q : Nat × Nat × Nat → Sem Value), (Extern.MathBitsCarry.three "Add64" #[.int .u64 x, .int .u64 y, .int .u64 c] >>= Q).run P w = (if c.toNat > 1 then (unsupported (.noEntry ("extern/math/bits." ++ "Add64" ++ ": a carry that is neither 0 nor 1")) >>= Q : Sem Value) else Q (x.toNat, y.toNat, c.toNat)).run P w := by
                intro Q
                change ((if c.toNat > 1 then (unsupported (.noEntry ("extern/math/bits." ++ "Add64" ++ ": a carry that is neither 0 nor 1")) : Sem (Nat × Nat × Nat)) else pure (x.toNat, y.toNat, c.toNat)) >>= Q).run P w = _
                split <;> rfl
              rw [hthree, if_neg (by omega)]
              rfl
            · exact .tup [.int .u64 (Int.ofNat ((x.toNat + y.toNat + c.toNat) % 2 ^ 64)), .int .u64 (Int.ofNat ((x.toNat + y.toNat + c.toNat) / 2 ^ 64))] rfl (fun i h h' => by
                match i, h, h' with
                | 0, _, _ => exact .v _
                | 1, _, _ => exact .v _)
        · cases hd
  · exact h.elim
end Go.Fsl
