/- A part of our logic over the resolved code, or of a proof in it. -/
import Derived.Test.YtdajenjajmofiaaGreatDoorFslSound1
import Derived.Lib.Strings
set_option linter.unusedSimpArgs false
set_option linter.unusedVariables false
namespace Go.Fsl
variable {P : Program} {F : Fz} {w w' : World} {H : Heap}

theorem flatten_length {sz : Nat} : ∀ {xs : List (List D)}, (∀ x ∈ xs, x.length = sz) → xs.flatten.length = xs.length * sz
  | [], _ => by simp
  | x :: xs, h => by
    rw [List.flatten_cons, List.length_append, flatten_length (fun y hy => h y (List.mem_cons_of_mem _ hy)), h x (List.mem_cons_self ..), List.length_cons, Nat.succ_mul, Nat.add_comm]

theorem byteD_vr (b : UInt8) : VR F w (byteD b) (.int .u8 b.toNat) := .v _

theorem src_sound (hR : Rel P F w H) {d : D} {x : Value} (hx : VR F w d x) {sz k : Nat} {ys : List D} (hs : srcCells H sz d = some (k, ys)) (hl : ys.length = k * sz)
    (h1 : ys.all D.one = true) {tx : TypeId} (hk : (∃ e', P.underlying tx = some (.slice e')) ∨ P.underlying tx = some .string) :
    ∃ news, Src P sz tx x k news w ∧ VRs F w ys news := by
  have one : ∀ {news : List Value}, VRs F w ys news → ∀ u ∈ news, u.oneCell' = true := by
    intro news hv u hu
    obtain ⟨i, hi, rfl⟩ := List.mem_iff_getElem.1 hu
    have hi' : i < ys.length := by rw [← hv.1]; exact hi
    have ho := List.all_eq_true.1 h1 _ (List.getElem_mem hi')
    have hr := hv.2 i hi' hi
    generalize ys[i] = e at *
    generalize news[i] = v at *
    cases hr with
    | v => cases v <;> first | rfl | (simp [D.one, oneV] at ho)
    | nil => rfl
    | fz => rfl
    | fpt => rfl
    | fn => rfl
    | agg => simp [D.one] at ho
    | tup => simp [D.one] at ho
  -- a row of cells at an address
  have row : ∀ (b o c : Nat) (u : Nat → Value), (∀ i (h : i < ys.length), w.cell? ⟨b, o + i, none⟩ = some (u i) ∧ VR F w (ys[i]) (u i)) → x = .slice (some ⟨b, o, none⟩) k c →
      ∃ news, Src P sz tx x k news w ∧ VRs F w ys news := by
    rintro b o c u hu rfl
    have hv : VRs F w ys ((List.range ys.length).map u) := ⟨by simp, fun i hi hi' => by simpa using (hu i hi).2⟩
    have hnews : ∀ j v, ((List.range ys.length).map u)[j]? = some v → w.cell? ((⟨b, o, none⟩ : Addr).add j) = some v := by
      intro j v hj
      obtain ⟨hlt, rfl⟩ := List.getElem?_eq_some_iff.1 hj
      rw [Addr.add_mid]
      simpa using (hu j (by simpa using hlt)).1
    exact ⟨_, ⟨hk, fun _ => rfl, run_firstCells_some w sz k _ k c _ (by simp [hl]) hnews, run_firstCells_some w.drew sz k _ k c _ (by simp [hl]) (by simpa using hnews), by simp [hl], one hv⟩, hv⟩
  have nil : ∀ (A : Option Addr) (c : Nat), k = 0 → x = .slice A 0 c → ∃ news, Src P sz tx x k news w ∧ VRs F w ys news := by
    rintro A c rfl rfl
    have hy : ys = [] := List.eq_nil_of_length_eq_zero (by simpa using hl)
    subst hy
    refine ⟨[], ⟨hk, fun _ => rfl, ?_, ?_, by simp, fun _ h => by cases h⟩, VRs.nil F w⟩
    · cases A <;> simp [Builtin.firstCells, loadCells, loadCellsFrom]
    · cases A <;> simp [Builtin.firstCells, loadCells, loadCellsFrom]
  cases hx with
  | nil sz' A c =>
    simp only [srcCells, or_true, if_true] at hs
    cases hs
    exact nil A c rfl rfl
  | fz u hsz hcap hF hc hr =>
    rename_i sz' xs b o c
    simp only [srcCells] at hs
    split at hs
    · cases hs
      exact row b o c u (fun i h => ⟨hc i h, hr i h⟩) rfl
    · cases hs
  | v =>
    cases x with
    | string s =>
      simp only [srcCells] at hs
      split at hs
      · rename_i hz
        subst hz
        cases hs
        have hv : VRs F w (List.map byteD s.data.toList) (byteCells s) := by
          refine ⟨by simp [byteCells], fun i hi hi' => ?_⟩
          simp only [byteCells, List.getElem_map]
          exact .v _
        exact ⟨_, ⟨hk, fun _ => rfl, firstCells_string s w, firstCells_string s w.drew, by rw [byteCells_length, Nat.mul_one], one hv⟩, hv⟩
      · cases hs
    | slice A n c =>
      cases A with
      | none =>
        simp only [srcCells] at hs
        split at hs
        · rename_i hn
          subst hn
          cases hs
          exact nil none c rfl rfl
        · cases hs
      | some a =>
        obtain ⟨b, o, sp⟩ := a
        cases sp with
        | some _ => simp [srcCells] at hs
        | none =>
          simp only [srcCells] at hs
          cases hb : H b with
          | none => rw [hb] at hs; cases hs
          | some ob =>
            rw [hb] at hs
            cases ob with
            | cells cs frz room =>
              simp only at hs
              split at hs
              · rename_i hle
                cases hs
                obtain ⟨u, hu⟩ := hR.cellsAt hb
                refine row b o c (fun i => u (o + i)) (fun i hi => ?_) rfl
                have hi' : i < k * sz := by rw [hl] at hi; exact hi
                have := hu (o + i) (by omega)
                simpa using this
              · cases hs
            | _ => cases hs
    | _ => cases hs
  | _ => cases hs

theorem growBy_le (n : Nat) : ∀ r c, c ≤ 2 * n + 192 → Builtin.growBy n r c ≤ 2 * n + 192
  | 0, c, h => h
  | r + 1, c, h => by
    rw [Builtin.growBy]
    split
    · exact h
    · exact growBy_le n r _ (by omega)
theorem nextslicecap_le (n c : Nat) (h : c < n) : Builtin.nextslicecap n c ≤ 2 * n + 192 := by
  unfold Builtin.nextslicecap
  split
  · omega
  · split
    · omega
    · exact growBy_le n 4 c (by omega)

theorem append_sound (hR : Rel P F w H) {t tx ty e : TypeId} {sz bytes : Nat} {zero : List D} (ht : P.underlying t = some (.slice e)) (hsz : szT P e = some sz) (hby : bytesT P e = some bytes)
    (hz : zeroT P e = some zero) (hzl : zero.length = sz) (hs0 : 0 < sz) (hb0 : 0 < bytes) (hb1 : bytes ≤ 65536)
    (hk : (∃ e', P.underlying tx = some (.slice e')) ∨ P.underlying tx = some .string) {d : D} {x : Value} (hx : VR F w d x) {k : Nat} {ys : List D}
    (hs : srcCells H sz d = some (k, ys)) (hl : ys.length = k * sz) (h1 : ys.all D.one = true) :
    (0 < k → k * bytes ≤ 2 ^ 46 → ∃ b c w', (Builtin.append_ #[t, tx] ty #[.slice none 0 0, x]).run P w = .ok (.slice (some ⟨b, 0, none⟩) k c) w' ∧ H b = none ∧ k ≤ c ∧
      Rel P F w' (H.ins b (.cells ys 0 (c * sz) (some e))) ∧ Step F w H F w' (H.ins b (.cells ys 0 (c * sz) (some e)))) ∧
    (k = 0 → (Builtin.append_ #[t, tx] ty #[.slice none 0 0, x]).run P w = .ok (.slice none 0 0) w) ∧
    (∀ b off n c cs frz room ty', H b = some (.cells cs frz room ty') → off + n * sz ≤ cs.length → off + c * sz ≤ room → (n + k) * bytes ≤ 2 ^ 46 →
      (n + k ≤ c → k = 0 → (Builtin.append_ #[t, tx] ty #[.slice (some ⟨b, off, none⟩) n c, x]).run P w = .ok (.slice (some ⟨b, off, none⟩) n c) w) ∧
      (n + k ≤ c → 0 < k → frz ≤ off + n * sz → ∃ w', (Builtin.append_ #[t, tx] ty #[.slice (some ⟨b, off, none⟩) n c, x]).run P w = .ok (.slice (some ⟨b, off, none⟩) (n + k) c) w' ∧
        Rel P F w' (H.ins b (.cells (cs.take (off + n * sz) ++ ys) frz room ty')) ∧ Step F w H F w' (H.ins b (.cells (cs.take (off + n * sz) ++ ys) frz room ty'))) ∧
      (c < n + k → ∃ b' c' w', (Builtin.append_ #[t, tx] ty #[.slice (some ⟨b, off, none⟩) n c, x]).run P w = .ok (.slice (some ⟨b', 0, none⟩) (n + k) c') w' ∧ H b' = none ∧ n + k ≤ c' ∧
      Rel P F w' (H.ins b' (.cells ((cs.drop off).take (n * sz) ++ ys) 0 (c' * sz) (some e))) ∧ Step F w H F w' (H.ins b' (.cells ((cs.drop off).take (n * sz) ++ ys) 0 (c' * sz) (some e))))) := by
  obtain ⟨news, hsrc, hv⟩ := src_sound hR hx hs hl h1 hk
  obtain ⟨i, hi, rfl⟩ : ∃ i, P.info? e = some i ∧ i.size = sz := by
    simp only [szT, Option.map_eq_some_iff] at hsz; exact hsz
  have hib : i.bytes = bytes := by simp only [bytesT, hi, Option.map_some] at hby; exact Option.some.inj hby
  subst hib
  obtain ⟨z, hzv, hzm⟩ : ∃ z, i.zero = some z ∧ z.cells.toList.mapM leafV = some zero := by
    simp only [zeroT, hi, Option.bind_some] at hz
    cases hzz : i.zero with
    | none => rw [hzz] at hz; cases hz
    | some z => rw [hzz] at hz; exact ⟨z, rfl, hz⟩
  have hzs : z.cells.size = i.size := by have := (mapM_some hzm).1; rw [hzl] at this; simpa using this
  have hnl : news.length = k * i.size := by rw [hv.1, hl]
  -- what growing leaves
  have grown : ∀ (olds : List D) (ovs : List Value) (m need : Nat), VRs F w olds ovs → need * i.size = olds.length + ys.length → ∀ frz, 
      let c := grownCap w need m e
      let w1 := w.drew.alloc (.cells ((ovs ++ news).toArray ++ Builtin.zeroCells z.cells (c - need)) e)
      need ≤ c → (∀ j, F w.heap.size j → False) → OR P F w1 w.heap.size (.cells (olds ++ ys) frz (c * i.size) (some e)) := by
    intro olds ovs m need ho hneed frz c w1 hc hnF
    have hvs := ho.append hv
    have hk : KeepF F w w1 := by
      intro b j x hf hx
      have hlt := World.block_lt_of_cell? w _ hx
      have : w1.heap[b]? = w.heap[b]? := heap_alloc_old w.drew _ hlt
      rw [cell_congr this]; exact hx
    have hlen : (ovs ++ news).length = need * i.size := by rw [hvs.1, List.length_append]; omega
    have hsize : ((ovs ++ news).toArray ++ Builtin.zeroCells z.cells (c - need)).size = c * i.size := by
      rw [Array.size_append, List.size_toArray, hlen, size_zeroCells, hzs, ← Nat.add_mul]
      congr 1; omega
    refine ⟨_, TyIn.at e, 0, 0, heap_alloc_new w.drew _, ?_, by rw [hsize]; exact Nat.le_refl _, fun j _ _ => by omega, fun j => ((ovs ++ news)[j]?).getD undef, fun j hj => ?_⟩
    · rw [hsize, ← hvs.1, hlen]; exact Nat.mul_le_mul_right _ hc
    · have hj' : j < (ovs ++ news).length := by rw [hvs.1]; exact hj
      refine ⟨?_, ?_⟩
      · rw [Array.getElem?_append_left (by simpa using hj')]
        simp [List.getElem?_eq_getElem hj']
      · have := (hvs.2 j hj hj').mono (SubF.refl F) hk
        simpa [List.getElem?_eq_getElem hj'] using this
  have noF : ∀ j, F w.heap.size j → False := fun j hf => by
    obtain ⟨v, hv⟩ := (hR.fz _ j hf).1
    exact absurd (World.block_lt_of_cell? w _ hv) (Nat.lt_irrefl _)
  have hnone := hR.none_of_ge (Nat.le_refl w.heap.size)
  have big : ∀ m : Nat, m * i.bytes ≤ 2 ^ 46 → m ≤ 2 ^ 46 := fun m h => Nat.le_trans (Nat.le_mul_of_pos_right m hb0) h
  have fit : ∀ m c : Nat, c < m → m * i.bytes ≤ 2 ^ 46 → Builtin.nextslicecap m c * i.bytes ≤ 281474976710656 := by
    intro m c hc hm
    have h2 : Builtin.nextslicecap m c * i.bytes ≤ (2 * m + 192) * i.bytes := Nat.mul_le_mul_right _ (nextslicecap_le m c hc)
    have h3 : (2 * m + 192) * i.bytes = 2 * (m * i.bytes) + 192 * i.bytes := by rw [Nat.add_mul, Nat.mul_assoc]
    omega
  refine ⟨fun hk0 hkb => ?_, fun hk0 => ?_, fun b off n c cs frz room ty' hb hcl hcr hnb => ?_⟩
  · have hrun := run_append_grow_src (P := P) w t tx ty e i z ht hi hzv none 0 0 [] (run_firstCells_none w.drew i.size 0 0 0) x k news hsrc (by omega) (by have := big k hkb; omega)
      (by rw [Nat.zero_add]; exact fit k 0 hk0 hkb)
    simp only [Nat.zero_add, List.nil_append] at hrun
    have hge := grownCap_ge w k 0 e
    have ho := grown [] [] 0 k (VRs.nil F w) (by simp [hl]) 0 hge noF
    simp only [List.nil_append] at ho
    have hp := hR.push (w' := w.drew.alloc (.cells (news.toArray ++ Builtin.zeroCells z.cells (grownCap w k 0 e - k)) e)) rfl ho
    exact ⟨_, _, _, hrun, hnone, hge, hp.1, hp.2⟩
  · subst hk0
    have : news = [] := List.eq_nil_of_length_eq_zero (by simpa using hnl)
    subst this
    rcases hsrc.kind with ⟨e', hk⟩ | hk <;> simp [Builtin.append_, run_underlying ht, run_underlying hk, sizeOf, typeInfo, hi, hsrc.len, hsrc.cells]
  · obtain ⟨arr, el, lo, hi', g1, g2, g3, g4, u, g5⟩ := hR.own b _ hb
    refine ⟨fun hroom hk0 => ?_, fun hroom hk0 hfz => ?_, fun hgt => ?_⟩
    · subst hk0
      have : news = [] := List.eq_nil_of_length_eq_zero (by simpa using hnl)
      subst this
      have hrun := run_append_room_src (P := P) w t tx ty e i ht hi b off n c x 0 [] hsrc hroom (fun j hj => absurd hj (by simp)) (fun j hj => absurd hj (by simp))
      simpa [World.setCells] using hrun
    · have hfit : off + n * i.size + news.length ≤ arr.size := by
        have := Nat.mul_le_mul_right i.size hroom
        rw [Nat.add_mul] at this
        omega
      have hrun := run_append_room_src (P := P) w t tx ty e i ht hi b off n c x k news hsrc hroom
        (fun j hj => by rw [cell_of g1]; simp; omega)
        (fun j hj => by
          rw [frozen_of g1]
          have := g4 (off + n * i.size + j) (by omega) (by omega)
          simp only [Bool.and_eq_false_iff, decide_eq_false_iff_not]; omega)
      generalize hat : off + n * i.size = at_ at *
      have hheap := heap_setCells news at_ w arr g1
      have hsize := size_arrMany news arr at_
      have hk : KeepF F w (w.setCells b at_ news) := by
        intro q j x hfi hx
        by_cases ec : q = b
        · subst ec
          obtain ⟨cs', frz', room', ty2, e1, e2⟩ := (hR.fz q j hfi).2 _ hb
          cases e1
          rw [cell_of hheap, getElem?_arrMany _ _ _ _ (by omega), if_neg (by omega), ← cell_of g1]
          exact hx
        · rw [cell_congr (heap_setCells_ne b ec _ _ _)]; exact hx
      have hle : (n + k) * i.size ≤ c * i.size := Nat.mul_le_mul_right _ hroom
      have hnk : (n + k) * i.size = n * i.size + k * i.size := Nat.add_mul ..
      have ho : OR P F (w.setCells b at_ news) b (.cells (cs.take at_ ++ ys) frz room ty') := by
        refine ⟨_, el, lo, hi', hheap, by rw [hsize, List.length_append, List.length_take]; omega, by rw [hsize]; omega, fun j => by rw [hsize]; exact g4 j,
          fun j => if j < at_ then u j else (news[j - at_]?).getD undef, fun j hj => ?_⟩
        have hlt0 : (cs.take at_).length = at_ := by rw [List.length_take]; omega
        rw [List.length_append, hlt0] at hj
        rw [getElem?_arrMany _ _ _ _ (by omega)]
        by_cases hlt : j < at_
        · rw [if_neg (by omega), List.getElem_append_left (by omega), List.getElem_take]
          simp only [if_pos hlt]
          exact ⟨(g5 j (by omega)).1, (g5 j (by omega)).2.mono (SubF.refl F) hk⟩
        · have hj2 : j - at_ < news.length := by omega
          rw [if_pos (by omega), List.getElem_append_right (by omega)]
          simp only [if_neg hlt, List.getElem?_eq_getElem hj2, Option.getD_some]
          refine ⟨trivial, ?_⟩
          have := (hv.2 (j - at_) (by omega) hj2).mono (SubF.refl F) hk
          simpa only [hlt0] using this
      have hu := hR.upd hb (size_setCells b _ _ _) (fun c hc => heap_setCells_ne b hc _ _ _)
        (fun j x hfi hx => hk b j x hfi hx) ho (fun j hfi => by
          obtain ⟨cs', frz', room', ty2, e1, e2⟩ := (hR.fz b j hfi).2 _ hb
          cases e1
          exact ⟨_, _, _, _, rfl, e2⟩) (by rintro ⟨_, _, _, _, e1, e2⟩; cases e1; omega) (quiet_setCells _ _ _ _)
      exact ⟨_, hrun, hu.1, hu.2⟩
    · have hmax := big (n + k) hnb
      let olds := (cs.drop off).take (n * i.size)
      let ovs := (List.range olds.length).map fun j => u (off + j)
      have hol : olds.length = n * i.size := by simp only [olds, List.length_take, List.length_drop]; omega
      have hov : VRs F w olds ovs := ⟨by simp [ovs], fun j hj hj' => by
        have hj2 : off + j < cs.length := by rw [hol] at hj; omega
        simpa [ovs, olds] using (g5 (off + j) hj2).2⟩
      have hold : (Builtin.firstCells i.size n (.slice (some ⟨b, off, none⟩) n c)).run P w.drew = .ok ovs.toArray w.drew := by
        refine run_firstCells_some w.drew i.size n _ n c ovs (by simp [ovs, hol]) (fun j v hj => ?_)
        obtain ⟨hlt, rfl⟩ := List.getElem?_eq_some_iff.1 hj
        have hlt' : j < olds.length := by simpa [ovs] using hlt
        have hj2 : off + j < cs.length := by rw [hol] at hlt'; omega
        rw [Addr.add_mid]
        show w.cell? _ = _
        rw [cell_of g1, (g5 (off + j) hj2).1]
        simp [ovs]
      have hrun := run_append_grow_src (P := P) w t tx ty e i z ht hi hzv (some ⟨b, off, none⟩) n c ovs hold x k news hsrc hgt (by omega) (fit (n + k) c hgt hnb)
      have hge := grownCap_ge w (n + k) c e
      have ho := grown olds ovs c (n + k) hov (by rw [hol, hl, Nat.add_mul]) 0 hge noF
      have hp := hR.push (w' := w.drew.alloc (.cells ((ovs ++ news).toArray ++ Builtin.zeroCells z.cells (grownCap w (n + k) c e - (n + k))) e)) rfl ho
      exact ⟨_, _, _, hrun, hnone, hge, hp.1, hp.2⟩

end Go.Fsl
