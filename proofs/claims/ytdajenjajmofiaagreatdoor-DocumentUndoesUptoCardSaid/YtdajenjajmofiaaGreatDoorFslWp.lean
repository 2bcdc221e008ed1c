/- A part of our logic over the resolved code, or of a proof in it. -/
import Derived.Test.YtdajenjajmofiaaGreatDoorFslRel
set_option linter.unusedSimpArgs false
set_option linter.unusedVariables false
namespace Go.Fsl

def RO.ev (τ : Tmps) : RO → D
  | .t n => τ n
  | .c d => d

def oneV : Value → Bool
  | .agg _ | .tuple _ => false
  | _ => true
def D.cells : D → Option (List D)
  | .agg cs => some cs
  | .tup _ => none
  | .v x => if oneV x then some [.v x] else none
  | d => some [d]
def D.one : D → Bool
  | .v x => oneV x
  | .agg _ | .tup _ => false
  | _ => true

def rd (agg : Bool) (n off : Nat) (cs : List D) : Option D :=
  if agg then (if off + n ≤ cs.length then some (.agg ((cs.drop off).take n)) else none) else cs[off]?
def setMany (cs : List D) (off : Nat) : List D → List D
  | [] => cs
  | d :: ds => setMany (cs.set off d) (off + 1) ds

def byteD (b : UInt8) : D := .v (.int .u8 b.toNat)
def byteOf : D → Option UInt8
  | .v (.int .u8 n) => some (UInt8.ofNat n.toNat)
  | _ => none
def bytesOf (cs : List D) : Option (List UInt8) := cs.mapM byteOf

def intB (op : BinOp) (k : IntKind) (a : Int) (k' : IntKind) (b : Int) : Option Value :=
  match op with
  | .shl => if b < 0 then none else some (.int k (k.wrap (a * 2 ^ (min b.toNat k.bits))))
  | .shr => if b < 0 then none else some (.int k (a.fdiv (2 ^ (min b.toNat k.bits))))
  | _ => if k ≠ k' then none else match op with
    | .add => some (.int k (k.wrap (a + b)))
    | .sub => some (.int k (k.wrap (a - b)))
    | .mul => some (.int k (k.wrap (a * b)))
    | .quo => if b = 0 then none else some (.int k (k.wrap (a.tdiv b)))
    | .rem => if b = 0 then none else some (.int k (a.tmod b))
    | .and => some (.int k (k.wrap (BitVec.ofInt k.bits a &&& BitVec.ofInt k.bits b).toNat))
    | .or => some (.int k (k.wrap (BitVec.ofInt k.bits a ||| BitVec.ofInt k.bits b).toNat))
    | .xor => some (.int k (k.wrap (BitVec.ofInt k.bits a ^^^ BitVec.ofInt k.bits b).toNat))
    | .andNot => some (.int k (k.wrap (BitVec.ofInt k.bits a &&& ~~~ BitVec.ofInt k.bits b).toNat))
    | .eql => some (.bool (a == b))
    | .neq => some (.bool (a != b))
    | .lss => some (.bool (a < b))
    | .leq => some (.bool (a ≤ b))
    | .gtr => some (.bool (a > b))
    | .geq => some (.bool (a ≥ b))
    | _ => none
def strB (op : BinOp) (x y : ByteArray) : Option Value :=
  match op with
  | .add => if ((x.size + y.size : Nat) : Int) > IntKind.i64.max then none else some (.string (x ++ y))
  | .eql => some (.bool (x.data.toList == y.data.toList))
  | .neq => some (.bool !(x.data.toList == y.data.toList))
  | .lss => some (.bool (Op.bytesLess x.data.toList y.data.toList))
  | .leq => some (.bool (Op.bytesLess x.data.toList y.data.toList || x.data.toList == y.data.toList))
  | .gtr => some (.bool !(Op.bytesLess x.data.toList y.data.toList || x.data.toList == y.data.toList))
  | .geq => some (.bool !(Op.bytesLess x.data.toList y.data.toList))
  | _ => none
def binV (op : BinOp) : D → D → Option Value
  | .v (.int k a), .v (.int k' b) => intB op k a k' b
  | .v (.string x), .v (.string y) => strB op x y
  | _, _ => none
def unV : UnOp → D → Option Value
  | .neg, .v (.int k n) => some (.int k (k.wrap (0 - n)))
  | .xor, .v (.int k n) => some (.int k (k.wrap (BitVec.ofInt k.bits (if k.signed then -1 else k.max) ^^^ BitVec.ofInt k.bits n).toNat))
  | .not, .v (.bool b) => some (.bool !b)
  | _, _ => none
/-- '==' of keys and of flat structs. -/
def rawEq : BK → Value → Value → Option Bool
  | .i, .int k a, .int k' b => if k = k' then some (a == b) else none
  | .s, .string a, .string b => some (a == b)
  | .b, .bool a, .bool b => some (a == b)
  | _, _, _ => none
def cellEq (k : BK) : D → D → Option Bool
  | .v x, .v y => rawEq k x y
  | _, _ => none
def cellsEq : List BK → List D → List D → Option Bool
  | [], [], [] => some true
  | k :: ks, x :: xs, y :: ys => match cellEq k x y with
    | some true => cellsEq ks xs ys
    | some false => match cellsEq ks xs ys with | some _ => some false | none => none
    | none => none
  | _, _, _ => none
def isKey : BK → D → Bool
  | .i, .v (.int _ _) => true
  | .s, .v (.string _) => true
  | .b, .v (.bool _) => true
  | _, _ => false
def areKeys : List BK → List D → Bool
  | [], [] => true
  | k :: ks, d :: ds => isKey k d && areKeys ks ds
  | _, _ => false
def keyOk : KK → D → Bool
  | .one k, d => isKey k d
  | .flat ks, .agg cs => areKeys ks cs
  | _, _ => false
def keyEq : KK → D → D → Option Bool
  | .one k, x, y => cellEq k x y
  | .flat ks, .agg xs, .agg ys => cellsEq ks xs ys
  | _, _, _ => none
def findE (kd : KK) (k : D) : List (Nat × D × D) → Nat → Option (Option (Nat × D))
  | [], _ => some none
  | e :: es, i => match keyEq kd k e.2.1 with
    | some true => some (some (i, e.2.2))
    | some false => findE kd k es (i + 1)
    | none => none

/-- What an append takes: how many, and their cells. -/
def srcCells (H : Heap) (sz : Nat) : D → Option (Nat × List D)
  | .fz sz' xs => if sz' = sz ∨ xs = [] then some (xs.length, xs.flatten) else none
  | .v (.string s) => if sz = 1 then some (s.size, s.data.toList.map byteD) else none
  | .v (.slice none n _) => if n = 0 then some (0, []) else none
  | .v (.slice (some ⟨b, o, none⟩) n _) => match H b with
    | some (.cells cs _ _ _) => if o + n * sz ≤ cs.length then some (n, (cs.drop o).take (n * sz)) else none
    | _ => none
  | _ => none

def intD : D → Option Int
  | .v (.int _ n) => some n
  | _ => none
def optInt (τ : Tmps) (dflt : Nat) : Option RO → Option Int
  | none => some dflt
  | some x => intD (x.ev τ)

def mnxV (mx : Bool) : Value → Value → Option Value
  | .int k x, .int _ y => if mx then some (.int k (if y > x then y else x)) else some (.int k (if y < x then y else x))
  | _, _ => none
def mnxF (mx : Bool) : Value → List D → Option Value
  | a, [] => some a
  | a, .v x :: xs => (mnxV mx a x).bind fun c => mnxF mx c xs
  | _, _ => none

def buildCells (τ : Tmps) (cs : List D) : List (Nat × Nat × RO) → Option (List D)
  | [] => some cs
  | (off, n, x) :: rest => match (x.ev τ).cells with
    | some ds => if ds.length = n ∧ off + n ≤ cs.length ∧ ds.all D.one then buildCells τ (setMany cs off ds) rest else none
    | none => none

def idxByteV (s : ByteArray) (c : UInt8) : Int :=
  match (List.range s.size).find? fun i => s[i]! == c with
  | some i => i
  | none => -1
def cntByteV (s : ByteArray) (c : UInt8) : Int := s.foldl (fun n x => if x == c then n + 1 else n) ((0 : Nat) : Int)
def extV : EK → List D → Option D
  | .noesc, [x] => some x
  | .idxb, [.v (.string s), .v (.int .u8 c)] => some (.i (idxByteV s c.toNat.toUInt8))
  | .cnts, [.v (.string s), .v (.int .u8 c)] => some (.i (cntByteV s c.toNat.toUInt8))
  | .add64, [.v (.int .u64 x), .v (.int .u64 y), .v (.int .u64 c)] => if c.toNat ≤ 1 then
      some (.tup [.v (.int .u64 (Int.ofNat ((x.toNat + y.toNat + c.toNat) % 2 ^ 64))), .v (.int .u64 (Int.ofNat ((x.toNat + y.toNat + c.toNat) / 2 ^ 64)))]) else none
  | _, _ => none

inductive Cal where
  | fn (f : FuncId)
  | yld (l : Nat)

abbrev CallSem := Cal → List D → Heap → (D → Heap → Prop) → Prop

def VRs (F : Fz) (w : World) (ds : List D) (vs : List Value) : Prop :=
  vs.length = ds.length ∧ ∀ i (h : i < ds.length) (h' : i < vs.length), VR F w (ds[i]) (vs[i])

/-- Nothing is done; what is known is told otherwise. -/
def Ghost (P : Program) (ds : List D) (H : Heap) (ds' : List D) (H' : Heap) : Prop :=
  (∀ b, H b = none → H' b = none) ∧ ∀ (F : Fz) (w : World) (vs : List Value), Rel P F w H → VRs F w ds vs →
    ∃ F', Step F w H F' w H' ∧ Rel P F' w H' ∧ VRs F' w ds' vs

variable (P : Program) (C : CallSem)

/-- One operation. -/
def opW (o : ROp) (τ : Tmps) (H : Heap) (K : D → Heap → Prop) : Prop :=
  match o with
  | .mov x => K (x.ev τ) H
  | .pick c a b => match c.ev τ with
    | .v (.bool t) => K (if t then a.ev τ else b.ev τ) H
    | _ => False
  | .alloc cs t => ∀ b, H b = none → K (.ptr b 0) (H.ins b (.cells cs 0 0 (some t)))
  | .box x => match (x.ev τ).cells with
    | some cs => ∀ b, H b = none → K (.ptr b 0) (H.ins b (.cells cs 0 0 none))
    | none => False
  | .load g n a => match a.ev τ with
    | .v (.pointer (some ⟨b, off, none⟩)) => match H b with
      | some (.cells cs _ _ _) => match rd g n off cs with
        | some d => K d H
        | none => False
      | _ => False
    | .fpt cs off => match rd g n off cs with
      | some d => K d H
      | none => False
    | _ => False
  | .store n a x => match a.ev τ with
    | .v (.pointer (some ⟨b, off, none⟩)) => match H b with
      | some (.cells cs frz room ty) => match (x.ev τ).cells with
        | some ds => ds.length = n ∧ frz ≤ off ∧ off + n ≤ cs.length ∧ ds.all D.one = true ∧ K .undef (H.ins b (.cells (setMany cs off ds) frz room ty))
        | none => False
      | _ => False
    | _ => False
  | .faddr off a => match a.ev τ with
    | .v (.pointer (some ⟨b, o, none⟩)) => K (.ptr b (o + off)) H
    | .fpt cs o => K (.fpt cs (o + off)) H
    | _ => False
  | .nilck x => match x.ev τ with
    | .v (.pointer (some a)) => K (.v (.pointer (some a))) H
    | .fpt cs o => K (.fpt cs o) H
    | .fn f caps => K (.fn f caps) H
    | _ => False
  | .iaddr sz x i => match intD (i.ev τ) with
    | some i => match x.ev τ with
      | .fz sz' xs => match (if 0 ≤ i then xs[i.toNat]? else none) with
        | some cs => sz' = sz ∧ K (.fpt cs 0) H
        | none => False
      | .v (.slice (some ⟨b, off, none⟩) n _) => 0 ≤ i ∧ i < n ∧ K (.ptr b (off + i.toNat * sz)) H
      | _ => False
    | none => False
  | .aiaddr n sz x i => match intD (i.ev τ) with
    | some i => match x.ev τ with
      | .v (.pointer (some ⟨b, off, none⟩)) => 0 ≤ i ∧ i < n ∧ K (.ptr b (off + i.toNat * sz)) H
      | .fpt cs off => 0 ≤ i ∧ i < n ∧ K (.fpt cs (off + i.toNat * sz)) H
      | _ => False
    | none => False
  | .bin op x y => match binV op (x.ev τ) (y.ev τ) with
    | some r => K (.v r) H
    | none => False
  | .eqb neg x y => match x.ev τ, y.ev τ with
    | .v (.bool a), .v (.bool b) => K (.b (if neg then !(a == b) else (a == b))) H
    | _, _ => False
  | .eqp neg x y => match x.ev τ, y.ev τ with
    | .v (.pointer none), .v (.pointer b) => K (.b (if neg then !b.isNone else b.isNone)) H
    | .v (.pointer a), .v (.pointer none) => K (.b (if neg then !a.isNone else a.isNone)) H
    | .fpt .., .v (.pointer none) => K (.b neg) H
    | .v (.pointer (some a)), .v (.pointer (some b)) => a.block = b.block ∧ K (.b (if neg then !(a == b) else (a == b))) H
    | _, _ => False
  | .eqs neg x => match x.ev τ with
    | .v (.slice a _ _) => K (.b (if neg then !a.isNone else a.isNone)) H
    | .fz _ xs => xs ≠ [] ∧ K (.b neg) H
    | _ => False
  | .eqi neg x => match x.ev τ with
    | .v .nilIface => K (.b !neg) H
    | .v (.iface _ _) => K (.b neg) H
    | _ => False
  | .eqa neg ks x y => match x.ev τ, y.ev τ with
    | .agg a, .agg b => match cellsEq ks a b with
      | some r => K (.b (if neg then !r else r)) H
      | none => False
    | _, _ => False
  | .un op x => match unV op (x.ev τ) with
    | some r => K (.v r) H
    | none => False
  | .cvi k x => match intD (x.ev τ) with
    | some n => K (.v (.int k (k.wrap n))) H
    | none => False
  | .cvs x => match intD (x.ev τ) with
    | some n => K (.s (Utf8.encode n)) H
    | none => False
  | .cvbs x => (∀ s, x.ev τ ≠ .v (.string s)) ∧ match srcCells H 1 (x.ev τ) with
    | some (k, cs) => match bytesOf cs with
      | some l => cs.length = k ∧ cs.all D.one = true ∧ K (.s ⟨l.toArray⟩) H
      | none => False
    | none => False
  | .cvsb x => match x.ev τ with
    | .v (.string s) => ∀ b c, H b = none → s.size ≤ c → K (.v (.slice (some ⟨b, 0, none⟩) s.size c)) (H.ins b (.cells (s.data.toList.map byteD) 0 c none))
    | _ => False
  | .build zs parts => match buildCells τ zs parts with
    | some cs => K (.agg cs) H
    | none => False
  | .bslice sz zs n parts => match buildCells τ (List.replicate n zs).flatten parts with
    | some cs => zs.length = sz ∧ ∀ b, H b = none → K (.v (.slice (some ⟨b, 0, none⟩) n n)) (H.ins b (.cells cs 0 (n * sz) none))
    | none => False
  | .ext x i => match x.ev τ with
    | .tup ds => match ds[i]? with
      | some d => K d H
      | none => False
    | _ => False
  | .fld g off n x => match x.ev τ with
    | .agg cs => match rd g n off cs with
      | some d => K d H
      | none => False
    | _ => False
  | .idx x i => match intD (i.ev τ), x.ev τ with
    | some i, .v (.string s) => match (if 0 ≤ i then s[i.toNat]? else none) with
      | some b => K (byteD b) H
      | none => False
    | _, _ => False
  | .aix n sz g x i => match intD (i.ev τ), x.ev τ with
    | some i, .agg cs => 0 ≤ i ∧ i < n ∧ match rd g sz (i.toNat * sz) cs with
      | some d => K d H
      | none => False
    | _, _ => False
  | .mlen x => match x.ev τ with
    | .v (.map none) => K (.i 0) H
    | .v (.map (some r)) => match H r with
      | some (.map es _) => K (.i es.length) H
      | _ => False
    | _ => False
  | .entry it => match it.ev τ with
    | .v (.pointer (some ⟨r, 0, none⟩)) => match H r with
      | some (.miter m _ seen stepped) => match H m, seen.getLast? with
        | some (.map es clock), some k => clock = stepped ∧ match es.find? (·.1 == k) with
          | some e => K (.tup [e.2.1, e.2.2]) H
          | none => False
        | _, _ => False
      | _ => False
    | _ => False
  | .slc str sz x lo hi mx => match x.ev τ with
    | .v (.string s) => match optInt τ 0 lo, optInt τ s.size hi with
      | some l, some h => str = true ∧ mx.isNone = true ∧ 0 ≤ l ∧ l ≤ h ∧ h ≤ s.size ∧ K (.s (s.extract l.toNat h.toNat)) H
      | _, _ => False
    | .fz sz' xs => match optInt τ 0 lo, optInt τ xs.length hi, optInt τ xs.length mx with
      | some l, some h, some m => str = false ∧ sz' = sz ∧ 0 ≤ l ∧ l ≤ h ∧ h ≤ m ∧ m ≤ xs.length ∧ K (.fz sz' ((xs.take h.toNat).drop l.toNat)) H
      | _, _, _ => False
    | .v (.slice (some ⟨b, off, none⟩) n c) => match optInt τ 0 lo, optInt τ n hi, optInt τ c mx with
      | some l, some h, some m => str = false ∧ 0 ≤ l ∧ l ≤ h ∧ h ≤ m ∧ m ≤ c ∧
          K (.v (.slice (some (if m = l then ⟨b, off, none⟩ else ⟨b, off + l.toNat * sz, none⟩)) (h.toNat - l.toNat) (m.toNat - l.toNat))) H
      | _, _, _ => False
    | .v (.slice none 0 0) => match optInt τ 0 lo, optInt τ 0 hi, optInt τ 0 mx with
      | some l, some h, some m => str = false ∧ l = 0 ∧ h = 0 ∧ m = 0 ∧ K (.v (.slice none 0 0)) H
      | _, _, _ => False
    | _ => False
  | .len str x => match x.ev τ with
    | .v (.string s) => str = true ∧ K (.i s.size) H
    | .v (.slice _ n _) => str = false ∧ K (.i n) H
    | .fz _ xs => str = false ∧ K (.i xs.length) H
    | _ => False
  | .append sz bytes _ e a x => match srcCells H sz (x.ev τ) with
    | some (k, ys) => ys.length = k * sz ∧ ys.all D.one = true ∧ match a.ev τ with
      | .v (.slice none 0 0) => (k = 0 → K .nils H) ∧
          (0 < k → k * bytes ≤ 2 ^ 46 ∧ ∀ b c, H b = none → k ≤ c → K (.v (.slice (some ⟨b, 0, none⟩) k c)) (H.ins b (.cells ys 0 (c * sz) (some e))))
      | .v (.slice (some ⟨b, off, none⟩) n c) => match H b with
        | some (.cells cs frz room ty) => off + n * sz ≤ cs.length ∧ off + c * sz ≤ room ∧ (n + k) * bytes ≤ 2 ^ 46 ∧
            (n + k ≤ c → k = 0 → K (.v (.slice (some ⟨b, off, none⟩) n c)) H) ∧
            (n + k ≤ c → 0 < k → frz ≤ off + n * sz ∧ K (.v (.slice (some ⟨b, off, none⟩) (n + k) c)) (H.ins b (.cells (cs.take (off + n * sz) ++ ys) frz room ty))) ∧
            (c < n + k → ∀ b' c', H b' = none → n + k ≤ c' → K (.v (.slice (some ⟨b', 0, none⟩) (n + k) c')) (H.ins b' (.cells ((cs.drop off).take (n * sz) ++ ys) 0 (c' * sz) (some e))))
        | _ => False
      | _ => False
    | none => False
  | .mnx mx xs => match (xs.map (·.ev τ) : List D) with
    | D.v x :: rest => match mnxF mx x rest with
      | some r => K (.v r) H
      | none => False
    | _ => False
  | .mkslice sz bytes zero l c => match intD (l.ev τ), intD (c.ev τ) with
    | some l, some c => 0 ≤ l ∧ l ≤ c ∧ c * bytes ≤ 2 ^ 46 ∧ c ≤ 2 ^ 46 ∧ zero.length = sz ∧
        ∀ b, H b = none → K (.v (.slice (some ⟨b, 0, none⟩) l.toNat c.toNat)) (H.ins b (.cells (List.replicate l.toNat zero).flatten 0 (c.toNat * sz) none))
    | _, _ => False
  | .mkmap => ∀ b, H b = none → K (.v (.map (some b))) (H.ins b (.map [] 0))
  | .mkfn f caps => K (.fn f (caps.map (·.ev τ))) H
  | .lookup kd zero ok m k => keyOk kd (k.ev τ) = true ∧ match m.ev τ with
    | .v (.map none) => K (if ok then .tup [zero, .b false] else zero) H
    | .v (.map (some r)) => match H r with
      | some (.map es _) => match findE kd (k.ev τ) es 0 with
        | some (some (_, d)) => K (if ok then .tup [d, .b true] else d) H
        | some none => K (if ok then .tup [zero, .b false] else zero) H
        | none => False
      | _ => False
    | _ => False
  | .mapupd kd m k x => keyOk kd (k.ev τ) = true ∧ match m.ev τ with
    | .v (.map (some r)) => match H r with
      | some (.map es clock) => match findE kd (k.ev τ) es 0 with
        | some (some (i, _)) => K .undef (H.ins r (.map (es.modify i fun e => (e.1, k.ev τ, x.ev τ)) clock))
        | some none => K .undef (H.ins r (.map (es ++ [(clock, k.ev τ, x.ev τ)]) (clock + 1)))
        | none => False
      | _ => False
    | _ => False
  | .srange x => match x.ev τ with
    | .v (.string s) => ∀ it, H it = none → K (.ptr it 0) (H.ins it (.siter s 0))
    | _ => False
  | .mrange x => match x.ev τ with
    | .v (.map (some m)) => match H m with
      | some (.map _ clock) => ∀ it, H it = none → K (.ptr it 0) (H.ins it (.miter m clock [] clock))
      | _ => False
    | _ => False
  | .next true it => match it.ev τ with
    | .v (.pointer (some ⟨r, 0, none⟩)) => match H r with
      | some (.siter s pos) =>
        if pos < s.size then K (.tup [.b true, .i pos, .v (.int .i32 (Utf8.decode s pos).1)]) (H.ins r (.siter s (pos + (Utf8.decode s pos).2)))
        else K (.tup [.b false]) H
      | _ => False
    | _ => False
  | .next false it => match it.ev τ with
    | .v (.pointer (some ⟨r, 0, none⟩)) => match H r with
      | some (.miter m since seen stepped) => match H m with
        | some (.map es clock) => (seen = [] ∨ es = [] ∨ ∃ e ∈ es, e.1 < stepped) ∧ (∀ e ∈ es, e.1 < since) ∧
            (∀ e ∈ es, e.1 ∉ seen → K (.tup [.b true, e.2.1, e.2.2]) (H.ins r (.miter m since (seen ++ [e.1]) clock))) ∧
            ((∀ e ∈ es, e.1 ∈ seen) → K (.tup [.b false]) H)
        | _ => False
      | _ => False
    | _ => False
  | .call (.fn f) args => ∃ ds H1, Ghost P (args.map (·.ev τ)) H ds H1 ∧ C (.fn f) ds H1 K
  | .call (.val x) args => match x.ev τ with
    | .fn f caps => ∃ ds H1, Ghost P (args.map (·.ev τ) ++ caps) H ds H1 ∧ C (.fn f) ds H1 K
    | .v (.func (.yield l) first caps) => first = #[] ∧ caps = #[] ∧ C (.yld l) (args.map (·.ev τ)) H K
    | _ => False
  | .iface t x => match x.ev τ with
    | .v x => K (.v (.iface t x)) H
    | _ => False
  | .cvt x => match x.ev τ with
    | .v (.pointer (some ⟨b, off, none⟩)) => match H b with
      | some (.cells cs _ _ _) => off < cs.length ∧ K (.ptr b off) H
      | _ => False
    | _ => False
  | .cvu n u x => match x.ev τ with
    | .v (.pointer (some ⟨b, 0, none⟩)) => match H b with
      | some (.cells cs _ _ ty) => ty = some u ∧ 0 < n ∧ n ≤ cs.length ∧ K (.ptr b 0) H
      | _ => False
    | _ => False
  | .usd x => match x.ev τ with
    | .v (.slice none _ _) => K .nilp H
    | .v (.slice (some a) _ c) => c ≠ 0 ∧ K (.v (.pointer (some a))) H
    | _ => False
  | .ust u p n => match intD (n.ev τ) with
    | some n => if n = 0 then (match p.ev τ with
        | .v (.pointer _) => K (.s .empty) H
        | _ => False)
      else 0 ≤ n ∧ n < 2 ^ 62 ∧ match p.ev τ with
        | .v (.pointer (some ⟨b, 0, none⟩)) => match H b with
          | some (.cells cs frz _ ty) => ty = some u ∧ n ≤ cs.length ∧ frz ≤ cs.length ∧ ∃ l : List UInt8, cs.take n.toNat = l.map byteD ∧ K (.s ⟨l.toArray⟩) (H.era b)
          | _ => False
        | _ => False
    | none => False
  | .pext k xs => match extV k (xs.map (·.ev τ)) with
    | some d => K d H
    | none => False
  | .dead => False

def wanted (τ : Tmps) : Option (Nat × Bool) → Bool
  | none => true
  | some (t, want) => match τ t with
    | .v (.bool b) => b == want
    | _ => false

def Tmps.putO (τ : Tmps) : Option Nat → D → Tmps
  | none, _ => τ
  | some t, d => τ.put t d

/-- A load reads the same still. -/
def still (τ : Tmps) (H : Heap) (r : Nat × ROp × Option (Nat × Bool)) : Prop :=
  wanted τ r.2.2 = true → opW P C r.2.1 τ H fun d _ => d = τ r.1

def opsW : List ROper → Tmps → Heap → (Tmps → Heap → Prop) → Prop
  | [], τ, H, Q => Q τ H
  | o :: os, τ, H, Q =>
    if wanted τ o.guard then opW P C o.op τ H fun d H' => (∀ r ∈ o.re, still P C (τ.putO o.dst d) H' r) ∧ opsW os (τ.putO o.dst d) H' Q
    else opsW os (τ.putO o.dst .undef) H Q

def wp (ro : Option Nat) (n : Nat) : RCode → Tmps → Heap → (X → Tmps → Heap → Prop) → Prop
  | .skip, τ, H, Q => Q .n τ H
  | .reg ops, τ, H, Q => opsW P C ops τ H fun τ' H' => Q .n τ' H'
  | .seq a b, τ, H, Q => wp ro n a τ H fun x τ' H' => match x with
    | .n => wp ro n b τ' H' Q
    | x => Q x τ' H'
  | .cond c a b, τ, H, Q => match c.ev τ with
    | .v (.bool t) => if t = true then wp ro n a τ H Q else wp ro n b τ H Q
    | _ => False
  | .block id b, τ, H, Q => wp ro n b τ H fun x τ' H' => match x with
    | .x id' => if id' = id then Q .n τ' H' else Q (.x id') τ' H'
    | x => Q x τ' H'
  | .loop b, τ, H, Q => ∃ (I : Nat → Tmps → Heap → Prop) (k : Nat), I k τ H ∧ ∀ k τ H, I k τ H →
      wp ro n b τ H fun x τ' H' => match x with
        | .n => ∃ k' H1, k' < k ∧ HSub H1 H' ∧ I k' τ' H1
        | x => Q x τ' H'
  | .rangef f ps asg body, τ, H, Q => match f.ev τ with
    | .fn g caps => (∀ l0, ro = some l0 → ∃ st pend τ n ps asg body, H l0 = some (.loop st pend τ n ps asg body)) ∧
        ∀ l, H l = none → C (.fn g) (.v (.func (.yield l) #[] #[]) :: caps) (H.ins l (.loop .ready none τ n ps asg body)) fun _ H' =>
          ∃ st pend τ' n' ps' asg' body', H' l = some (.loop st pend τ' n' ps' asg' body') ∧ st ≠ .busy ∧ 
            Q (pend.getD .n) τ (H'.era l)
    | _ => False
  | .exit id, τ, H, Q => Q (.x id) τ H
  | .scope b, τ, H, Q => wp ro n b τ H Q
  | .ret, τ, H, Q => Q .r τ H
  | .dead, _, _, _ => False

end Go.Fsl
