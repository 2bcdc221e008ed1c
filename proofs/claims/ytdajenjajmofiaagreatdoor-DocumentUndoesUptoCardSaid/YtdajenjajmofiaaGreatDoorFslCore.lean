/- A part of our logic over the resolved code, or of a proof in it. -/
import Derived.RangeFuncLeaves
import Derived.WalkKit
set_option linter.unusedSimpArgs false
set_option linter.unusedVariables false
namespace Go.Fsl

/-- Values of the logic. -/
inductive D where
  | v (x : Value)
  | fz (sz : Nat) (xs : List (List D))
  | fpt (cs : List D) (off : Nat)
  | agg (cs : List D)
  | tup (vs : List D)
  | fn (f : FuncId) (caps : List D)
  deriving Inhabited

abbrev D.undef : D := .tup []
abbrev D.i (n : Int) : D := .v (.int .i64 n)
abbrev D.b (t : Bool) : D := .v (.bool t)
abbrev D.s (x : ByteArray) : D := .v (.string x)
abbrev D.nils : D := .v (.slice none 0 0)
abbrev D.nilp : D := .v (.pointer none)
abbrev D.ptr (b off : Nat) : D := .v (.pointer (some ⟨b, off, none⟩))

inductive X where
  | n
  | x (id : Nat)
  | r
  deriving DecidableEq, Inhabited

def X.code : X → Option Code
  | .n => none
  | .x id => some (.exit id)
  | .r => some .ret

inductive RO where
  | t (n : Nat)
  | c (d : D)
  deriving Inhabited

inductive BK where
  | b
  | i
  | s
  deriving DecidableEq
inductive KK where
  | one (k : BK)
  | flat (ks : List BK)
  deriving DecidableEq

/-- Functions without a body that the machine runs itself. -/
inductive EK where
  | noesc
  | idxb
  | cnts
  | add64
  deriving DecidableEq
inductive RCal where
  | fn (f : FuncId)
  | val (x : RO)

inductive ROp where
  | mov (x : RO)
  | pick (c a b : RO)
  | alloc (cs : List D) (t : TypeId)
  | box (x : RO)
  | load (agg : Bool) (n : Nat) (a : RO)
  | store (n : Nat) (a x : RO)
  | faddr (off : Nat) (a : RO)
  | nilck (x : RO)
  | iaddr (sz : Nat) (x i : RO)
  | aiaddr (len sz : Nat) (x i : RO)
  | bin (op : BinOp) (x y : RO)
  | eqb (neg : Bool) (x y : RO)
  | eqp (neg : Bool) (x y : RO)
  | eqs (neg : Bool) (x : RO)
  | eqi (neg : Bool) (x : RO)
  | eqa (neg : Bool) (ks : List BK) (x y : RO)
  | un (op : UnOp) (x : RO)
  | cvi (k : IntKind) (x : RO)
  | cvs (x : RO)
  | cvbs (x : RO)
  | cvsb (x : RO)
  | build (zs : List D) (parts : List (Nat × Nat × RO))
  | bslice (sz : Nat) (zs : List D) (len : Nat) (parts : List (Nat × Nat × RO))
  | ext (x : RO) (i : Nat)
  | fld (agg : Bool) (off n : Nat) (x : RO)
  | idx (x i : RO)
  | aix (len sz : Nat) (agg : Bool) (x i : RO)
  | mlen (x : RO)
  | entry (it : RO)
  | slc (str : Bool) (sz : Nat) (x : RO) (lo hi mx : Option RO)
  | len (str : Bool) (x : RO)
  | append (sz bytes : Nat) (zero : List D) (e : TypeId) (a x : RO)
  | mnx (max : Bool) (xs : List RO)
  | mkslice (sz bytes : Nat) (zero : List D) (l c : RO)
  | mkmap
  | mkfn (f : FuncId) (caps : List RO)
  | lookup (kd : KK) (zero : D) (ok : Bool) (m k : RO)
  | mapupd (kd : KK) (m k x : RO)
  | srange (x : RO)
  | mrange (x : RO)
  | next (str : Bool) (it : RO)
  | call (c : RCal) (args : List RO)
  | iface (t : TypeId) (x : RO)
  | cvt (x : RO)
  | cvu (n : Nat) (u : TypeId) (x : RO)
  | usd (x : RO)
  | ust (u : TypeId) (p n : RO)
  | pext (k : EK) (xs : List RO)
  | dead

structure ROper where
  dst : Option Nat
  op : ROp
  guard : Option (Nat × Bool)
  /-- in a region that draws its order: the loads that may also stand behind this effect -/
  re : List (Nat × ROp × Option (Nat × Bool)) := []

inductive RCode where
  | skip
  | reg (ops : List ROper)
  | seq (a b : RCode)
  | cond (c : RO) (a b : RCode)
  | block (id : Nat) (b : RCode)
  | loop (b : RCode)
  | rangef (f : RO) (ps : List Nat) (asg body : RCode)
  | exit (id : Nat)
  | scope (b : RCode)
  | ret
  | dead
  deriving Inhabited

abbrev Tmps := Nat → D
def Tmps.put (τ : Tmps) (t : Nat) (d : D) : Tmps := fun s => if s = t then d else τ s
@[simp] theorem Tmps.put_same (τ : Tmps) (t : Nat) (d : D) : τ.put t d t = d := by simp [Tmps.put]
theorem Tmps.put_other (τ : Tmps) {t s : Nat} (d : D) (h : s ≠ t) : τ.put t d s = τ s := by simp [Tmps.put, h]

/-- What is owned. -/
inductive O where
  | cells (cs : List D) (frz room : Nat) (ty : Option TypeId)
  | map (es : List (Nat × D × D)) (clock : Nat)
  | siter (s : ByteArray) (pos : Nat)
  | miter (m since : Nat) (seen : List Nat) (stepped : Nat)
  | loop (st : LoopState) (pend : Option X) (τ : Tmps) (n : Nat) (ps : List Nat) (asg body : RCode)

abbrev Heap := Nat → Option O
def Heap.ins (H : Heap) (b : Nat) (o : O) : Heap := fun c => if c = b then some o else H c
def Heap.era (H : Heap) (b : Nat) : Heap := fun c => if c = b then none else H c
@[simp] theorem Heap.ins_same (H : Heap) (b : Nat) (o : O) : H.ins b o b = some o := by simp [Heap.ins]
theorem Heap.ins_other (H : Heap) {b c : Nat} (o : O) (h : c ≠ b) : H.ins b o c = H c := by simp [Heap.ins, h]
theorem Heap.ins_comm (H : Heap) {b c : Nat} (o p : O) (h : b ≠ c) : (H.ins b o).ins c p = (H.ins c p).ins b o := by
  funext x
  simp only [Heap.ins]
  by_cases h1 : x = c
  · subst h1
    simp [Ne.symm h]
  · simp [h1]
theorem Heap.ins_ins (H : Heap) (b : Nat) (o p : O) : (H.ins b o).ins b p = H.ins b p := by
  funext x
  simp only [Heap.ins]
  by_cases h1 : x = b <;> simp [h1]
theorem Heap.era_ins (H : Heap) {b : Nat} (o : O) (h : H b = none) : (H.ins b o).era b = H := by
  funext x
  simp only [Heap.ins, Heap.era]
  by_cases h1 : x = b
  · subst h1; simp [h]
  · simp [h1]

/-- Frozen cells: block, offset. -/
abbrev Fz := Nat → Nat → Prop

inductive VR (F : Fz) (w : World) : D → Value → Prop
  | v (x : Value) : VR F w (.v x) x
  | nil (sz : Nat) (A : Option Addr) (c : Nat) : VR F w (.fz sz []) (.slice A 0 c)
  | fz {sz : Nat} {xs : List (List D)} {b o c : Nat} (u : Nat → Value) (hsz : ∀ x ∈ xs, x.length = sz) (hcap : xs.length ≤ c)
      (hF : ∀ i, i < xs.flatten.length → F b (o + i))
      (hc : ∀ i, i < xs.flatten.length → w.cell? ⟨b, o + i, none⟩ = some (u i))
      (hr : ∀ i (h : i < xs.flatten.length), VR F w (xs.flatten[i]) (u i)) :
      VR F w (.fz sz xs) (.slice (some ⟨b, o, none⟩) xs.length c)
  | fpt {cs : List D} {b o off : Nat} (u : Nat → Value)
      (hF : ∀ i, i < cs.length → F b (o + i))
      (hc : ∀ i, i < cs.length → w.cell? ⟨b, o + i, none⟩ = some (u i))
      (hr : ∀ i (h : i < cs.length), VR F w (cs[i]) (u i)) :
      VR F w (.fpt cs off) (.pointer (some ⟨b, o + off, none⟩))
  | agg {cs : List D} (u : List Value) (hl : u.length = cs.length) (hr : ∀ i (h : i < cs.length) (h' : i < u.length), VR F w (cs[i]) (u[i])) :
      VR F w (.agg cs) (.agg u.toArray)
  | tup {cs : List D} (u : List Value) (hl : u.length = cs.length) (hr : ∀ i (h : i < cs.length) (h' : i < u.length), VR F w (cs[i]) (u[i])) :
      VR F w (.tup cs) (.tuple u.toArray)
  | fn {f : FuncId} {cs : List D} (u : List Value) (hl : u.length = cs.length) (hr : ∀ i (h : i < cs.length) (h' : i < u.length), VR F w (cs[i]) (u[i])) :
      VR F w (.fn f cs) (.func (.func f) #[] u.toArray)

theorem VR.mono {F F' : Fz} {w w' : World} (hF : ∀ b i, F b i → F' b i) (hw : ∀ b i v, F b i → w.cell? ⟨b, i, none⟩ = some v → w'.cell? ⟨b, i, none⟩ = some v) {d : D} {v : Value} (h : VR F w d v) : VR F' w' d v := by
  induction h with
  | v x => exact .v x
  | nil sz A c => exact .nil sz A c
  | fz u hsz hcap hf hc hr ih => exact .fz u hsz hcap (fun i h => hF _ _ (hf i h)) (fun i h => hw _ _ _ (hf i h) (hc i h)) ih
  | fpt u hf hc hr ih => exact .fpt u (fun i h => hF _ _ (hf i h)) (fun i h => hw _ _ _ (hf i h) (hc i h)) ih
  | agg u hl hr ih => exact .agg u hl ih
  | tup u hl hr ih => exact .tup u hl ih
  | fn u hl hr ih => exact .fn u hl ih

end Go.Fsl
