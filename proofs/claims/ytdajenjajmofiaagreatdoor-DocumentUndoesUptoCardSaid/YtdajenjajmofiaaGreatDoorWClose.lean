/- A part of our logic over the resolved code, or of a proof in it. -/
import Derived.Test.YtdajenjajmofiaaGreatDoorWLaw
import Derived.Test.YtdajenjajmofiaaGreatDoorFslRead
import Derived.Test.YtdajenjajmofiaaGreatDoorCards
import Derived.Test.YtdajenjajmofiaaGreatDoorTie
set_option linter.unusedSimpArgs false
set_option linter.unusedVariables false
set_option maxRecDepth 100000
namespace Go.Proofs.YtdajenjajmofiaaGreatDoor
open Go Go.Fsl Go.ChangeShapes Go.WideShapes Go.ChangeAt Go.RowKit
section
variable {H : Type} {enc : TypeId × Value → H} {W : World} {sp : Nat → Bool} {held : Bool}

theorem cells26 : Tryz.prog.cellsOf 26 = 5 := by kernel_rfl
theorem cells3 : Tryz.prog.cellsOf 3 = 1 := by kernel_rfl
theorem cells9 : Tryz.prog.cellsOf 9 = 1 := by kernel_rfl
theorem under22 : Tryz.prog.underlying 22 = some (.slice 26) := by kernel_rfl

/-- One change, opened. -/
theorem open_ch {n : Nat} {cs : List Value} {d : DataW H} {p : List MemPlace} (h : DataW.trod enc Tryz.prog W 0 sp held n 26 cs = some (d, p)) :
    ∃ c : Ch, c.ok ∧ cs.map D.v = c.d ∧ Rows.uptoBulk d = c.old.size + c.new.size + 6 := by
  obtain ⟨xs, m, _, hx, hl, hlen, hf⟩ := DataW.trod_struct Tryz.underlying26 h
  rw [cells26] at hl
  match cs, hl with
  | [v0, v1, v2, v3, v4], _ =>
    have h0 := hf 0 _ rfl
    have h1 := hf 1 _ rfl
    have h2 := hf 2 _ rfl
    have h3 := hf 3 _ rfl
    have h4 := hf 4 _ rfl
    simp [cells3, cells9] at h0
    simp [cells3, cells9] at h1
    simp [cells3, cells9] at h2
    simp [cells3, cells9] at h3
    simp [cells3, cells9] at h4
    match xs, hlen with
    | [x0, x1, x2, x3, x4], _ =>
      simp only [List.getElem?_cons_zero, List.getElem?_cons_succ] at h0 h1 h2 h3 h4
      obtain ⟨a, e0, rfl, w0⟩ := DataW.trod_int Tryz.underlying3 h0
      obtain ⟨b, e1, rfl, w1⟩ := DataW.trod_int Tryz.underlying3 h1
      obtain ⟨s, e2, rfl, _⟩ := DataW.trod_string Tryz.underlying9 h2
      obtain ⟨t, e3, rfl, _⟩ := DataW.trod_string Tryz.underlying9 h3
      obtain ⟨q, e4, rfl, w4⟩ := DataW.trod_int Tryz.underlying3 h4
      cases e0; cases e1; cases e2; cases e3; cases e4
      simp only [Prod.mk.injEq] at hx
      obtain ⟨rfl, _⟩ := hx
      have b0 := bounds_i64 w0
      have b1 := bounds_i64 w1
      refine ⟨⟨a, b, s, t, q⟩, ⟨⟨b0.1, by show a < _; omega⟩, ⟨b1.1, by show b < _; omega⟩⟩, rfl, ?_⟩
      simp only [List.map_cons, List.map_nil, Rows.uptoBulk, Rows.uptoBulkAll]
      have e5 : s.data.toList.length = s.size := rfl
      have e6 : t.data.toList.length = t.size := rfl
      omega

theorem open_chs {n : Nat} : ∀ {rows : List (List Value)} {ds : List (DataW H)}, rows.length = ds.length → (∀ i (_ : i < rows.length) (_ : i < ds.length), rows[i].length = 5 ∧ ∃ p, DataW.trod enc Tryz.prog W 0 sp held n 26 rows[i] = some (ds[i], p)) →
    ∃ l : List Ch, (∀ c ∈ l, c.ok) ∧ (rows.map fun r => r.map D.v) = l.map Ch.d ∧ Rows.uptoBulkAll ds = tot l + 6 * l.length
  | [], [], _, _ => ⟨[], fun _ h => (by cases h), rfl, rfl⟩
  | r :: rows, d :: ds, hl, h => by
    obtain ⟨l, h1, h2, h3⟩ := open_chs (rows := rows) (ds := ds) (by simpa using hl) (fun i a b => h (i + 1) (by simpa using a) (by simpa using b))
    obtain ⟨_, p, h4⟩ := h 0 (by simp) (by simp)
    obtain ⟨c, c1, c2, c3⟩ := open_ch h4
    refine ⟨c :: l, fun x hx => ?_, ?_, ?_⟩
    · rcases List.mem_cons.1 hx with rfl | hx
      · exact c1
      · exact h1 x hx
    · simp only [List.getElem_cons_zero] at c2
      simp only [List.map_cons, c2, h2]
    · simp only [List.getElem_cons_zero] at c3
      simp only [Rows.uptoBulkAll, c3, h3, tot, List.length_cons]; omega
  | [], _ :: _, hl, _ => by simp at hl
  | _ :: _, [], hl, _ => by simp at hl

/-! ### The package-level rows -/
def HG : Heap := fun b => if b = 3 then some (.cells g3 (g3.length + 1) 0 none) else if b = 4 then some (.cells g4 (g4.length + 1) 0 none) else none
theorem glb : Glb HG := ⟨rfl, rfl⟩
theorem gFirst : Tryz.prog.globalNamed "unicode/utf8.first" = some 3 := by kernel_rfl
theorem gAcc : Tryz.prog.globalNamed "unicode/utf8.acceptRanges" = some 4 := by kernel_rfl

theorem tFirst : (Tryz.prog.globals[3]?).map (·.type) = some 192 := by kernel_rfl
theorem tAcc : (Tryz.prog.globals[4]?).map (·.type) = some 195 := by kernel_rfl
theorem cells5 : Tryz.prog.cellsOf 5 = 1 := by kernel_rfl
theorem cells192 : Tryz.prog.cellsOf 192 = 256 := by kernel_rfl
theorem cells194 : Tryz.prog.cellsOf 194 = 2 := by kernel_rfl
theorem cells195 : Tryz.prog.cellsOf 195 = 32 := by kernel_rfl

theorem u8s_map (l : List Nat) : (l.map fun n : Nat => Value.int .u8 n).map D.v = u8s l := by simp [u8s]

/-- A pair of bytes. -/
theorem open_pair8 {E : Type} {en : TypeId × Value → E} {n : Nat} {cs : List Value} {a b : Nat} {p : List MemPlace} (h : DataW.trod en Tryz.prog W 0 sp held n 194 cs = some (.agg [.lit (.int .u8 a), .lit (.int .u8 b)], p)) :
    cs = [.int .u8 a, .int .u8 b] := by
  obtain ⟨xs, m, _, hx, hl, hlen, hf⟩ := DataW.trod_struct Tryz.underlying194 h
  rw [cells194] at hl
  match cs, hl with
  | [v0, v1], _ =>
    have h0 := hf 0 _ rfl
    have h1 := hf 1 _ rfl
    simp [cells5] at h0
    simp [cells5] at h1
    match xs, hlen with
    | [x0, x1], _ =>
      simp only [List.getElem?_cons_zero, List.getElem?_cons_succ] at h0 h1
      obtain ⟨a', e0, rfl, _⟩ := DataW.trod_int Tryz.underlying5 h0
      obtain ⟨b', e1, rfl, _⟩ := DataW.trod_int Tryz.underlying5 h1
      cases e0; cases e1
      simp only [Prod.mk.injEq, DataW.agg.injEq, List.map_cons, List.map_nil, List.cons.injEq, DataW.lit.injEq, Lit.int.injEq, true_and, and_true] at hx
      rw [hx.1.1, hx.1.2]

theorem pairs_flat {E : Type} {en : TypeId × Value → E} {n : Nat} : ∀ {ab : List (Nat × Nat)} {cs : List Value} {xs : List (DataW E × List MemPlace)}, cs.length = ab.length * 2 →
    xs.map (·.1) = ab.map (fun x => .agg [.lit (.int .u8 x.1), .lit (.int .u8 x.2)]) →
    (∀ i, i < ab.length → DataW.trod en Tryz.prog W 0 sp held n 194 ((cs.drop (i * 2)).take 2) = xs[i]?) → cs = (ab.flatMap fun x => [x.1, x.2]).map fun n : Nat => Value.int .u8 n
  | [], cs, _, hl, _, _ => by simpa using hl
  | (a, b) :: ab, cs, xs, hl, hx, h => by
    cases xs with
    | nil => simp at hx
    | cons x xs =>
      simp only [List.map_cons, List.cons.injEq] at hx
      have h0 := h 0 (by simp)
      simp only [Nat.zero_mul, List.drop_zero, List.getElem?_cons_zero] at h0
      obtain ⟨d, p⟩ := x
      simp only at hx
      rw [hx.1] at h0
      have h1 := open_pair8 h0
      have h2 := pairs_flat (ab := ab) (cs := cs.drop 2) (xs := xs) (by rw [List.length_drop, hl, List.length_cons]; omega) hx.2 (fun i hi => by
        have := h (i + 1) (by simpa using hi)
        simp only [List.getElem?_cons_succ] at this
        rw [List.drop_drop]
        rw [show (i + 1) * 2 = 2 + i * 2 by omega] at this
        exact this)
      have h3 : cs = cs.take 2 ++ cs.drop 2 := (List.take_append_drop 2 cs).symm
      rw [h3, h1, h2]
      rfl

theorem open_glob {L : List (String × DataW Unit)} (hL0 : L = [("unicode/utf8.acceptRanges", Rows.laid_unicode_utf8_acceptRanges), ("unicode/utf8.first", Rows.laid_unicode_utf8_first)]) (h : laidMet Tryz.prog L W) :
    ∀ b o, HG b = some o → ∃ cs arr e fr, o = .cells cs (cs.length + 1) 0 none ∧ W.heap[b]? = some (.cells arr e fr) ∧ arr.toList.map D.v = cs := by
  subst hL0
  obtain ⟨ps, ⟨ga, ta, csa, fa, pa, qa, hga, hta, hva, hda, ⟨gf, tf, csf, ff, pf, qf, hgf, htf, hvf, hdf, _, _⟩, _⟩, _⟩ := h
  obtain rfl := Option.some.inj (gAcc.symm.trans hga)
  obtain rfl := Option.some.inj (tAcc.symm.trans hta)
  obtain rfl := Option.some.inj (gFirst.symm.trans hgf)
  obtain rfl := Option.some.inj (tFirst.symm.trans htf)
  have heap : ∀ {name : String} {g : Nat} {cs : Array Value}, Tryz.prog.globalNamed name = some g → W.var? Tryz.prog name = some cs → ∃ e fr, W.heap[g]? = some (.cells cs e fr) := by
    intro name g cs hg hv
    simp only [World.var?, hg, Option.bind_some] at hv
    split at hv
    · rename_i c e fr hh; cases hv; exact ⟨e, fr, hh⟩
    · cases hv
  have first : csf.toList.map D.v = g3 := by
    have hd' : DataW.trod (fun _ => ()) Tryz.prog W 0 (fun _ => true) false ff 192 csf.toList = some (Lib.tabData .u8 (Go.Pinned.utf8FirstZ.map fun n : Nat => (n : Int)), pf) := by
      rw [hdf]
      congr 2
    have := Lib.cells_of_tab (k := .u8) Tryz.underlying192 Tryz.underlying5 cells5 cells192 hd'
    rw [this, g3, List.map_map, ← u8s_map]
    rfl
  have acc : csa.toList.map D.v = g4 := by
    obtain ⟨xs, m, _, hx, hl, hlen, hf⟩ := DataW.trod_array Tryz.underlying195 hda
    rw [cells195] at hl
    have := pairs_flat (W := W) (sp := fun _ => true) (held := false) (en := fun _ => ()) (n := m) (ab := [(128, 191), (160, 191), (128, 159), (144, 191), (128, 143), (0, 0), (0, 0), (0, 0), (0, 0), (0, 0), (0, 0), (0, 0), (0, 0), (0, 0), (0, 0), (0, 0)]) (cs := csa.toList) (xs := xs) (by rw [hl]; rfl)
      (by
        simp only [Prod.mk.injEq, Rows.laid_unicode_utf8_acceptRanges, DataW.agg.injEq] at hx
        rw [← hx.1]; rfl)
      (fun i hi => by
        have := hf i (by simpa using hi)
        rwa [cells194] at this)
    rw [this, u8s_map]
    rfl
  intro b o hb
  simp only [HG] at hb
  split at hb
  · rename_i e
    subst e
    cases hb
    obtain ⟨e, fr, hh⟩ := heap gFirst hvf
    exact ⟨g3, csf, e, fr, rfl, hh, first⟩
  · split at hb
    · rename_i e
      subst e
      cases hb
      obtain ⟨e, fr, hh⟩ := heap gAcc hva
      exact ⟨g4, csa, e, fr, rfl, hh, acc⟩
    · cases hb

end
end Go.Proofs.YtdajenjajmofiaaGreatDoor
