/- A part of our logic over the resolved code, or of a proof in it. -/
import Derived.Test.YtdajenjajmofiaaGreatDoorFslCall
set_option linter.unusedSimpArgs false
set_option linter.unusedVariables false
namespace Go.Fsl

/-! ### What an operation reads -/
section
variable {τ τ' : Tmps}
def Agree (l : List Nat) (τ τ' : Tmps) : Prop := ∀ t ∈ l, τ t = τ' t
theorem Agree.left {l l' : List Nat} (h : Agree (l ++ l') τ τ') : Agree l τ τ' := fun t ht => h t (List.mem_append_left _ ht)
theorem Agree.right {l l' : List Nat} (h : Agree (l ++ l') τ τ') : Agree l' τ τ' := fun t ht => h t (List.mem_append_right _ ht)
theorem ev_agree {x : RO} (h : Agree x.rds τ τ') : x.ev τ = x.ev τ' := by
  cases x with
  | t n => exact h n (by simp [RO.rds])
  | c d => rfl
theorem evs_agree : ∀ {xs : List RO}, Agree (xs.flatMap (·.rds)) τ τ' → xs.map (·.ev τ) = xs.map (·.ev τ')
  | [], _ => rfl
  | x :: xs, h => by
    simp only [List.flatMap_cons] at h
    simp only [List.map_cons, ev_agree h.left, evs_agree h.right]
theorem opt_agree {x : Option RO} {d : Nat} (h : Agree (rdsOpt x) τ τ') : optInt τ d x = optInt τ' d x := by
  cases x with
  | none => rfl
  | some x => simp only [optInt, ev_agree (show Agree x.rds τ τ' from h)]
theorem build_agree : ∀ {ps : List (Nat × Nat × RO)} {cs : List D}, Agree (ps.flatMap (·.2.2.rds)) τ τ' → buildCells τ cs ps = buildCells τ' cs ps
  | [], _, _ => rfl
  | (off, n, x) :: ps, cs, h => by
    simp only [List.flatMap_cons] at h
    simp only [buildCells, ev_agree (x := x) h.left]
    cases (x.ev τ').cells with
    | none => rfl
    | some ds =>
      simp only
      split
      · exact build_agree h.right
      · rfl

theorem op_agree {P : Program} {C : CallSem} {o : ROp} (h : Agree o.rds τ τ') (H : Heap) (K : D → Heap → Prop) : opW P C o τ H K = opW P C o τ' H K := by
  cases o with
  | alloc => rfl
  | mkmap => rfl
  | dead => rfl
  | build zs ps => simp only [opW, build_agree (ps := ps) h]
  | bslice sz zs len ps => simp only [opW, build_agree (ps := ps) h]
  | slc str sz x a b c =>
    simp only [ROp.rds] at h
    simp only [opW, ev_agree h.left.left.left, opt_agree (x := a) h.left.left.right, opt_agree (x := b) h.left.right, opt_agree (x := c) h.right]
  | mnx mx xs => simp only [opW, evs_agree (xs := xs) h]
  | pext k xs => simp only [opW, evs_agree (xs := xs) h]
  | mkfn f xs => simp only [opW, evs_agree (xs := xs) h]
  | call c xs =>
    cases c with
    | fn f => simp only [opW, evs_agree (xs := xs) h]
    | val x =>
      simp only [ROp.rds] at h
      simp only [opW, ev_agree h.left, evs_agree (xs := xs) h.right]
  | pick a b c => simp only [ROp.rds] at h; simp only [opW, ev_agree h.left.left, ev_agree h.left.right, ev_agree h.right]
  | mapupd kd a b c => simp only [ROp.rds] at h; simp only [opW, ev_agree h.left.left, ev_agree h.left.right, ev_agree h.right]
  | next str x => cases str <;> simp only [opW, ev_agree (x := x) h]
  | store _ a b => simp only [ROp.rds] at h; simp only [opW, ev_agree h.left, ev_agree h.right]
  | iaddr _ a b => simp only [ROp.rds] at h; simp only [opW, ev_agree h.left, ev_agree h.right]
  | aiaddr _ _ a b => simp only [ROp.rds] at h; simp only [opW, ev_agree h.left, ev_agree h.right]
  | bin _ a b => simp only [ROp.rds] at h; simp only [opW, ev_agree h.left, ev_agree h.right]
  | eqb _ a b => simp only [ROp.rds] at h; simp only [opW, ev_agree h.left, ev_agree h.right]
  | eqp _ a b => simp only [ROp.rds] at h; simp only [opW, ev_agree h.left, ev_agree h.right]
  | eqa _ _ a b => simp only [ROp.rds] at h; simp only [opW, ev_agree h.left, ev_agree h.right]
  | idx a b => simp only [ROp.rds] at h; simp only [opW, ev_agree h.left, ev_agree h.right]
  | aix _ _ _ a b => simp only [ROp.rds] at h; simp only [opW, ev_agree h.left, ev_agree h.right]
  | append _ _ _ _ a b => simp only [ROp.rds] at h; simp only [opW, ev_agree h.left, ev_agree h.right]
  | mkslice _ _ _ a b => simp only [ROp.rds] at h; simp only [opW, ev_agree h.left, ev_agree h.right]
  | lookup _ _ _ a b => simp only [ROp.rds] at h; simp only [opW, ev_agree h.left, ev_agree h.right]
  | ust _ a b => simp only [ROp.rds] at h; simp only [opW, ev_agree h.left, ev_agree h.right]
  | _ => simp only [ROp.rds] at h; simp only [opW, ev_agree h]

theorem wanted_agree {g : Option (Nat × Bool)} (h : Agree (rdsGuard g) τ τ') : wanted τ g = wanted τ' g := by
  cases g with
  | none => rfl
  | some p => simp only [wanted, h p.1 (by simp [rdsGuard])]
end

/-! ### Operations that are done in one way, and turn nothing -/
def pureV (o : ROp) (τ : Tmps) : Option D :=
  match o with
  | .mov x => some (x.ev τ)
  | .pick c a b => match c.ev τ with
    | .v (.bool t) => some (if t then a.ev τ else b.ev τ)
    | _ => none
  | .faddr off a => match a.ev τ with
    | .v (.pointer (some ⟨b, o, none⟩)) => some (.ptr b (o + off))
    | .fpt cs o => some (.fpt cs (o + off))
    | _ => none
  | .nilck x => match x.ev τ with
    | .v (.pointer (some a)) => some (.v (.pointer (some a)))
    | .fpt cs o => some (.fpt cs o)
    | .fn f caps => some (.fn f caps)
    | _ => none
  | .iaddr sz x i => match intD (i.ev τ) with
    | some i => match x.ev τ with
      | .fz sz' xs => match (if 0 ≤ i then xs[i.toNat]? else none) with
        | some cs => if sz' = sz then some (.fpt cs 0) else none
        | none => none
      | .v (.slice (some ⟨b, off, none⟩) n _) => if 0 ≤ i ∧ i < n then some (.ptr b (off + i.toNat * sz)) else none
      | _ => none
    | none => none
  | .aiaddr n sz x i => match intD (i.ev τ) with
    | some i => match x.ev τ with
      | .v (.pointer (some ⟨b, off, none⟩)) => if 0 ≤ i ∧ i < n then some (.ptr b (off + i.toNat * sz)) else none
      | .fpt cs off => if 0 ≤ i ∧ i < n then some (.fpt cs (off + i.toNat * sz)) else none
      | _ => none
    | none => none
  | .bin op x y => (binV op (x.ev τ) (y.ev τ)).map .v
  | .eqb neg x y => match x.ev τ, y.ev τ with
    | .v (.bool a), .v (.bool b) => some (.b (if neg then !(a == b) else (a == b)))
    | _, _ => none
  | .eqp neg x y => match x.ev τ, y.ev τ with
    | .v (.pointer none), .v (.pointer b) => some (.b (if neg then !b.isNone else b.isNone))
    | .v (.pointer a), .v (.pointer none) => some (.b (if neg then !a.isNone else a.isNone))
    | .fpt .., .v (.pointer none) => some (.b neg)
    | .v (.pointer (some a)), .v (.pointer (some b)) => if a.block = b.block then some (.b (if neg then !(a == b) else (a == b))) else none
    | _, _ => none
  | .eqs neg x => match x.ev τ with
    | .v (.slice a _ _) => some (.b (if neg then !a.isNone else a.isNone))
    | .fz _ xs => match xs with | [] => none | _ :: _ => some (.b neg)
    | _ => none
  | .eqi neg x => match x.ev τ with
    | .v .nilIface => some (.b !neg)
    | .v (.iface _ _) => some (.b neg)
    | _ => none
  | .eqa neg ks x y => match x.ev τ, y.ev τ with
    | .agg a, .agg b => match cellsEq ks a b with
      | some r => some (.b (if neg then !r else r))
      | none => none
    | _, _ => none
  | .un op x => (unV op (x.ev τ)).map .v
  | .cvi k x => (intD (x.ev τ)).map fun n => .v (.int k (k.wrap n))
  | .cvs x => (intD (x.ev τ)).map fun n => .s (Utf8.encode n)
  | .build zs parts => (buildCells τ zs parts).map .agg
  | .ext x i => match x.ev τ with
    | .tup ds => ds[i]?
    | _ => none
  | .fld g off n x => match x.ev τ with
    | .agg cs => rd g n off cs
    | _ => none
  | .idx x i => match intD (i.ev τ), x.ev τ with
    | some i, .v (.string s) => (if 0 ≤ i then s[i.toNat]? else none).map byteD
    | _, _ => none
  | .aix n sz g x i => match intD (i.ev τ), x.ev τ with
    | some i, .agg cs => if 0 ≤ i ∧ i < n then rd g sz (i.toNat * sz) cs else none
    | _, _ => none
  | .slc str sz x lo hi mx => match x.ev τ with
    | .v (.string s) => match optInt τ 0 lo, optInt τ s.size hi with
      | some l, some h => if str = true ∧ mx.isNone = true ∧ 0 ≤ l ∧ l ≤ h ∧ h ≤ s.size then some (.s (s.extract l.toNat h.toNat)) else none
      | _, _ => none
    | .fz sz' xs => match optInt τ 0 lo, optInt τ xs.length hi, optInt τ xs.length mx with
      | some l, some h, some m => if str = false ∧ sz' = sz ∧ 0 ≤ l ∧ l ≤ h ∧ h ≤ m ∧ m ≤ xs.length then some (.fz sz' ((xs.take h.toNat).drop l.toNat)) else none
      | _, _, _ => none
    | .v (.slice (some ⟨b, off, none⟩) n c) => match optInt τ 0 lo, optInt τ n hi, optInt τ c mx with
      | some l, some h, some m => if str = false ∧ 0 ≤ l ∧ l ≤ h ∧ h ≤ m ∧ m ≤ c then
          some (.v (.slice (some (if m = l then ⟨b, off, none⟩ else ⟨b, off + l.toNat * sz, none⟩)) (h.toNat - l.toNat) (m.toNat - l.toNat))) else none
      | _, _, _ => none
    | .v (.slice none 0 0) => match optInt τ 0 lo, optInt τ 0 hi, optInt τ 0 mx with
      | some l, some h, some m => if str = false ∧ l = 0 ∧ h = 0 ∧ m = 0 then some (.v (.slice none 0 0)) else none
      | _, _, _ => none
    | _ => none
  | .len str x => match x.ev τ with
    | .v (.string s) => if str = true then some (.i s.size) else none
    | .v (.slice _ n _) => if str = false then some (.i n) else none
    | .fz _ xs => if str = false then some (.i xs.length) else none
    | _ => none
  | .mnx mx xs => match (xs.map (·.ev τ) : List D) with
    | D.v x :: rest => (mnxF mx x rest).map .v
    | _ => none
  | .mkfn f caps => some (.fn f (caps.map (·.ev τ)))
  | .iface t x => match x.ev τ with
    | .v x => some (.v (.iface t x))
    | _ => none
  | .pext k xs => extV k (xs.map (·.ev τ))
  | .usd x => match x.ev τ with
    | .v (.slice none _ _) => some .nilp
    | .v (.slice (some a) _ c) => if c ≠ 0 then some (.v (.pointer (some a))) else none
    | _ => none
  | _ => none

/-- A load: the block that it reads. -/
def loadB (o : ROp) (τ : Tmps) : Nat :=
  match o with
  | .load _ _ a => match a.ev τ with
    | .v (.pointer (some ⟨b, _, none⟩)) => b
    | _ => 0
  | .lookup _ _ _ m _ => match m.ev τ with
    | .v (.map (some r)) => r
    | _ => 0
  | .cvbs x => match x.ev τ with
    | .v (.slice (some ⟨b, _, none⟩) _ _) => b
    | _ => 0
  | .mlen x => match x.ev τ with
    | .v (.map (some r)) => r
    | _ => 0
  | _ => 0

/-- Only block b. -/
def justH (b : Nat) (oo : Option O) : Heap := fun c => if c = b then oo else none

def isStr : D → Bool
  | .v (.string _) => true
  | _ => false
theorem isStr_iff {d : D} : (∀ s, d ≠ .v (.string s)) ↔ isStr d = false := by
  cases d with
  | v x => cases x <;> simp [isStr]
  | _ => simp [isStr]

def loadV (o : ROp) (τ : Tmps) (oo : Option O) : Option D :=
  match o with
  | .load g n a => match a.ev τ with
    | .v (.pointer (some ⟨_, off, none⟩)) => match oo with
      | some (.cells cs _ _ _) => rd g n off cs
      | _ => none
    | .fpt cs off => rd g n off cs
    | _ => none
  | .lookup kd zero ok m k => if keyOk kd (k.ev τ) = true then match m.ev τ with
    | .v (.map none) => some (if ok then .tup [zero, .b false] else zero)
    | .v (.map (some _)) => match oo with
      | some (.map es _) => match findE kd (k.ev τ) es 0 with
        | some (some (_, d)) => some (if ok then .tup [d, .b true] else d)
        | some none => some (if ok then .tup [zero, .b false] else zero)
        | none => none
      | _ => none
    | _ => none else none
  | .cvbs x => if isStr (x.ev τ) = true then none else match srcCells (justH (loadB (.cvbs x) τ) oo) 1 (x.ev τ) with
      | some (k, cs) => match bytesOf cs with
        | some l => if cs.length = k ∧ cs.all D.one = true then some (.s ⟨l.toArray⟩) else none
        | none => none
      | none => none
  | .mlen x => match x.ev τ with
    | .v (.map none) => some (.i 0)
    | .v (.map (some _)) => match oo with
      | some (.map es _) => some (.i es.length)
      | _ => none
    | _ => none
  | o => pureV o τ

theorem pure_spec {P : Program} {C : CallSem} {o : ROp} (ho : o.cls = .pure) (τ : Tmps) (H : Heap) (K : D → Heap → Prop) : opW P C o τ H K ↔ ∃ d, pureV o τ = some d ∧ K d H := by
  cases o <;> simp only [ROp.cls, reduceCtorEq] at ho
  all_goals simp only [opW, pureV]
  case eqs neg x =>
    generalize x.ev τ = d
    cases d with
    | v v => cases v <;> simp
    | fz sz xs => cases xs <;> simp
    | _ => simp
  all_goals (repeat' split)
  all_goals first
    | (simp_all [and_assoc, Option.map]; done)
    | (simp_all [and_assoc, Option.map]; intros; omega)
    | grind

end Go.Fsl
