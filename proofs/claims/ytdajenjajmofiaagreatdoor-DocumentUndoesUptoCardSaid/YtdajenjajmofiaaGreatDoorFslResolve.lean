/- A part of our logic over the resolved code, or of a proof in it. -/
import Derived.Test.YtdajenjajmofiaaGreatDoorFslCore
set_option linter.unusedSimpArgs false
set_option linter.unusedVariables false
namespace Go.Fsl

def leafV : Value → Option D
  | .agg _ | .tuple _ => none
  | .func (.func f) first caps => if first.isEmpty && caps.isEmpty then some (.fn f []) else none
  | .func .. => none
  | x => some (.v x)
def ofV : Value → Option D
  | .agg cs => (cs.toList.mapM leafV).map .agg
  | .tuple cs => if cs.isEmpty then some .undef else none
  | x => leafV x

section
variable (P : Program)
def szT (t : TypeId) : Option Nat := (P.info? t).map (·.size)
def bytesT (t : TypeId) : Option Nat := (P.info? t).map (·.bytes)
def aggT (t : TypeId) : Option Bool :=
  match P.underlying t with
  | some (.struct _) | some (.array ..) => some true
  | some _ => some false
  | none => none
def zeroT (t : TypeId) : Option (List D) := (P.info? t).bind fun i => i.zero.bind fun z => z.cells.toList.mapM leafV
def zeroD (t : TypeId) : Option D := (P.info? t).bind fun i => i.zero.bind ofV

def rO : Operand → Option RO
  | .tmp t => some (.t t)
  | .const v => (ofV v).map .c
  | .global g => some (.c (.ptr g 0))
  | .func f => some (.c (.fn f []))
def rOs (xs : List Operand) : Option (List RO) := xs.mapM rO
def rOpt : Option Operand → Option (Option RO)
  | none => some none
  | some x => (rO x).map some

/-- A type all of whose parts are bools, whole numbers, strings, without gaps: '==' asks cell by cell. Its cells. -/
def flatFs (g : TypeId → Option (List BK)) : List Field → Nat → Option (List BK)
  | [], _ => some []
  | f :: fs, acc => if f.name = "_" ∨ f.offset ≠ acc then none else match g f.type with
    | some k => (flatFs g fs (acc + k.length)).map (k ++ ·)
    | none => none
def flatN : Nat → TypeId → Option (List BK)
  | 0, _ => none
  | d + 1, t =>
    match P.underlying t with
    | some .bool => if szT P t = some 1 then some [.b] else none
    | some (.int _) => if szT P t = some 1 then some [.i] else none
    | some .string => if szT P t = some 1 then some [.s] else none
    | some (.struct fs) => if P.stoodInHeld t then none else
      match flatFs (flatN d) fs.toList 0 with
      | some k => if szT P t = some k.length then some k else none
      | none => none
    | _ => none

def rPlaces (fs : Array Field) : Option (List (Nat × Nat)) := fs.toList.mapM fun f => (szT P f.type).map fun s => (f.offset, s)

def rBuildParts (place : Nat → Option (Nat × Nat)) (parts : List (Nat × Operand)) : Option (List (Nat × Nat × RO)) :=
  parts.mapM fun (i, x) => (place i).bind fun (off, s) => (rO x).map fun y => (off, s, y)

def rEq (op : BinOp) (neg : Bool) (t : TypeId) (x y : Operand) : Option ROp :=
  match P.underlying t with
  | some (.int _) | some .string => do pure (.bin op (← rO x) (← rO y))
  | some .bool => do pure (.eqb neg (← rO x) (← rO y))
  | some (.pointer e) => if (szT P e).getD 0 = 0 then none else do pure (.eqp neg (← rO x) (← rO y))
  | some (.slice _) => match y with | .const (.slice none _ _) => (rO x).map (.eqs neg) | _ => none
  | some (.interface _) => match y with | .const .nilIface => (rO x).map (.eqi neg) | _ => none
  | some (.struct _) => match flatN P 20 t with
    | some k => if P.eqGuardType P.depth t then none else do pure (.eqa neg k (← rO x) (← rO y))
    | none => none
  | _ => none

def extK (f : FuncId) : Option EK :=
  match P.funcs[f]? with
  | none => none
  | some fd => if fd.body.isNone && fd.origin == "" then
      (if fd.name == "internal/abi.NoEscape" then some .noesc else if fd.name == "internal/bytealg.IndexByteString" then some .idxb
        else if fd.name == "internal/bytealg.CountString" then some .cnts else if fd.name == "math/bits.Add64" then some .add64 else none) else none

def rOp (o : Oper) : Option ROp :=
  match o.op with
  | .move x | .assign x => (rO x).map .mov
  | .pick c a b => do pure (.pick (← rO c) (← rO a) (← rO b))
  | .alloc t => (zeroT P t).map (.alloc · t)
  | .box _ x => (rO x).map .box
  | .build t parts =>
    match P.underlying t with
    | some (.struct fs) => do
      let ps ← rPlaces P fs
      pure (.build (← zeroT P t) (← rBuildParts (ps[·]?) parts.toList))
    | some (.array _ e) => do
      let s ← szT P e
      pure (.build (← zeroT P t) (← rBuildParts (fun i => some (i * s, s)) parts.toList))
    | _ => none
  | .buildSlice t len parts =>
    match P.underlying t with
    | some (.slice e) => do
      let s ← szT P e
      if len * s > 2 ^ 24 then none else
      if s = 0 then none else
      pure (.bslice s (← zeroT P e) len (← rBuildParts (fun i => some (i * s, s)) parts.toList))
    | _ => none
  | .load t a => do
    let g ← aggT P t
    pure (.load g (← szT P t) (← rO a))
  | .store t a x => do pure (.store (← szT P t) (← rO a) (← rO x))
  | .nilCheck x => (rO x).map .nilck
  | .binOp op t x y _ =>
    match op with
    | .eql => rEq P .eql false t x y
    | .neq => rEq P .neq true t x y
    | _ => do pure (.bin op (← rO x) (← rO y))
  | .unOp op _ x => (rO x).map (.un op)
  | .convert s d x =>
    match P.underlying s, P.underlying d with
    | some (.int _), some (.int k) => (rO x).map (.cvi k)
    | some (.int _), some .string => (rO x).map .cvs
    | some (.slice e), some .string => match P.underlying e with | some (.int .u8) => (rO x).map .cvbs | _ => none
    | some .string, some (.slice e) => match P.underlying e with | some (.int .u8) => (rO x).map .cvsb | _ => none
    | some (.pointer t), some .unsafePointer => if (szT P t).getD 0 = 0 then none else (rO x).map .cvt
    | some .unsafePointer, some (.pointer u) => if P.cellsOf u = 0 ∨ (szT P u).isNone then none else (rO x).map (.cvu (P.cellsOf u) u)
    | _, _ => none
  | .makeInterface t x => match P.underlying t with
    | some (.interface _) | none => none
    | _ => (rO x).map (.iface t)
  | .makeFunc (.func f) first caps => if first.isEmpty then (rOs caps.toList).map (.mkfn f) else none
  | .makeMap t none => match P.underlying t with | some (.map ..) => some .mkmap | _ => none
  | .makeSlice t l c =>
    match P.underlying t with
    | some (.slice e) => do
      let s ← szT P e
      if s = 0 then none else
      pure (.mkslice s (← bytesT P e) (← zeroT P e) (← rO l) (← rO c))
    | _ => none
  | .slice t x lo hi mx =>
    if mx.isSome && hi.isNone then none else
    match P.underlying t with
    | some (.slice e) => do pure (.slc false (← szT P e) (← rO x) (← rOpt lo) (← rOpt hi) (← rOpt mx))
    | some .string => do pure (.slc true 0 (← rO x) (← rOpt lo) (← rOpt hi) (← rOpt mx))
    | _ => none
  | .fieldAddr s x f =>
    match P.underlying s with
    | some (.struct fs) => do
      let fl ← fs[f]?
      if (szT P fl.type).getD 0 = 0 then none else
      pure (.faddr fl.offset (← rO x))
    | _ => none
  | .field t x f =>
    match P.underlying t with
    | some (.struct fs) => do
      let fl ← fs[f]?
      let g ← aggT P fl.type
      pure (.fld g fl.offset (← szT P fl.type) (← rO x))
    | _ => none
  | .indexAddr t x i =>
    match P.underlying t with
    | some (.slice e) => do pure (.iaddr (← szT P e) (← rO x) (← rO i))
    | some (.array n e) => do pure (.aiaddr n (← szT P e) (← rO x) (← rO i))
    | _ => none
  | .index t x i =>
    match P.underlying t with
    | some .string => do pure (.idx (← rO x) (← rO i))
    | some (.array n e) => do pure (.aix n (← szT P e) (← aggT P e) (← rO x) (← rO i))
    | _ => none
  | .lookup t x k ok =>
    match P.underlying t with
    | some (.map kt et) => do
      let kd ← P.underlying kt
      match kd with
      | .int _ => pure (.lookup (.one .i) (← zeroD P et) ok (← rO x) (← rO k))
      | .string => pure (.lookup (.one .s) (← zeroD P et) ok (← rO x) (← rO k))
      | .struct _ => match flatN P 20 kt with | some z => pure (.lookup (.flat z) (← zeroD P et) ok (← rO x) (← rO k)) | none => none
      | _ => none
    | _ => none
  | .mapUpdate t m k x | .insert t m k x =>
    match P.underlying t with
    | some (.map kt _) => do
      let kd ← P.underlying kt
      match kd with
      | .int _ => pure (.mapupd (.one .i) (← rO m) (← rO k) (← rO x))
      | .string => pure (.mapupd (.one .s) (← rO m) (← rO k) (← rO x))
      | .struct _ => match flatN P 20 kt with | some z => pure (.mapupd (.flat z) (← rO m) (← rO k) (← rO x)) | none => none
      | _ => none
    | _ => none
  | .range t x =>
    match P.underlying t with
    | some .string => (rO x).map .srange
    | some (.map ..) => (rO x).map .mrange
    | _ => none
  | .next it str => (rO it).map (.next str)
  | .entry it => (rO it).map .entry
  | .extract t i => do pure (.ext (← rO t) i)
  | .call { callee := .value (.func f), args, .. } => match extK P f with
    | some k => (rOs args.toList).map (.pext k)
    | none => (rOs args.toList).map (.call (.fn f))
  | .call { callee := .value x, args, .. } => do pure (.call (.val (← rO x)) (← rOs args.toList))
  | .call { callee := .builtin b, args, argTypes } =>
    match b, args.toList with
    | .len, [x] =>
      match (argTypes[0]?).bind P.underlying with
      | some .string => (rO x).map (.len true)
      | some (.slice _) => (rO x).map (.len false)
      | some (.map ..) => (rO x).map .mlen
      | _ => none
    | .append, [a, x] =>
      match argTypes.toList with
      | [t, tx] =>
        match P.underlying t with
        | some (.slice e) =>
          match P.underlying tx with
          | some (.slice _) | some .string => do
            let s ← szT P e
            let b ← bytesT P e
            let z ← zeroT P e
            if s = 0 ∨ b = 0 ∨ b > 65536 ∨ z.length ≠ s then none else
            pure (.append s b z e (← rO a) (← rO x))
          | _ => none
        | _ => none
      | _ => none
    | .unsafeSliceData, [x] => (rO x).map .usd
    | .unsafeString, [p, n] =>
      match argTypes.toList with
      | [t, _] => match P.underlying t with
        | some (.pointer u) => if P.cellsOf u = 1 then do pure (.ust u (← rO p) (← rO n)) else none
        | _ => none
      | _ => none
    | .min, xs => (rOs xs).map (.mnx false)
    | .max, xs => (rOs xs).map (.mnx true)
    | _, _ => none
  | _ => none

/-- What is not resolved must not be come to. -/
def rOpD (o : Oper) : ROp := (rOp P o).getD .dead

def rOper (ops : Array Oper) (o : Oper) : Option ROper :=
  let r := rOpD P o
  match o.guard with
  | none => some { dst := o.dst, op := r, guard := none }
  | some (j, b) => match (ops[j]?).bind (·.dst) with
    | some t => some { dst := o.dst, op := r, guard := some (t, b) }
    | none => none

/-! ### A region that draws its order: one order that stands for all -/
def RO.rds : RO → List Nat
  | .t n => [n]
  | .c _ => []
def rdsOpt : Option RO → List Nat
  | none => []
  | some x => x.rds
def ROp.rds : ROp → List Nat
  | .mov x | .box x | .load _ _ x | .faddr _ x | .nilck x | .eqs _ x | .eqi _ x | .un _ x | .cvi _ x | .cvs x | .cvbs x | .cvsb x
  | .ext x _ | .fld _ _ _ x | .len _ x | .srange x | .mrange x | .next _ x | .iface _ x | .mlen x | .entry x | .cvt x | .cvu _ _ x | .usd x => x.rds
  | .pick a b c => a.rds ++ b.rds ++ c.rds
  | .alloc .. | .mkmap | .dead => []
  | .store _ a b | .iaddr _ a b | .aiaddr _ _ a b | .bin _ a b | .eqb _ a b | .eqp _ a b | .eqa _ _ a b | .idx a b | .aix _ _ _ a b | .append _ _ _ _ a b
  | .mkslice _ _ _ a b | .lookup _ _ _ a b | .ust _ a b => a.rds ++ b.rds
  | .build _ ps => ps.flatMap (·.2.2.rds)
  | .bslice _ _ _ ps => ps.flatMap (·.2.2.rds)
  | .slc _ _ x a b c => x.rds ++ rdsOpt a ++ rdsOpt b ++ rdsOpt c
  | .mnx _ xs | .pext _ xs => xs.flatMap (·.rds)
  | .mkfn _ xs => xs.flatMap (·.rds)
  | .mapupd _ a b c => a.rds ++ b.rds ++ c.rds
  | .call (.fn _) xs => xs.flatMap (·.rds)
  | .call (.val x) xs => x.rds ++ xs.flatMap (·.rds)
def rdsGuard : Option (Nat × Bool) → List Nat
  | none => []
  | some (t, _) => [t]
def ROper.rds (o : ROper) : List Nat := o.op.rds ++ rdsGuard o.guard

inductive Cls where
  | pure
  | load
  | alloc
  | eff
  deriving DecidableEq
def ROp.cls : ROp → Cls
  | .mov _ | .pick .. | .faddr .. | .nilck _ | .iaddr .. | .aiaddr .. | .bin .. | .eqb .. | .eqp .. | .eqs .. | .eqi .. | .eqa .. | .un .. | .cvi .. | .cvs _
  | .build .. | .ext .. | .fld .. | .idx .. | .aix .. | .slc .. | .len .. | .mnx .. | .mkfn .. | .iface .. | .usd _ | .pext .. => .pure
  | .load .. | .lookup .. | .cvbs _ | .mlen _ => .load
  | .alloc .. | .box _ | .bslice .. | .mkslice .. | .mkmap | .srange _ | .cvsb _ => .alloc
  | .store .. | .append .. | .mapupd .. | .mrange _ | .next .. | .entry _ | .call .. | .dead | .cvt _ | .cvu .. | .ust .. => .eff

/-- An operation of a region: where it stands, what it waits for. -/
structure CI where
  idx : Nat
  o : ROper
  pre : List Nat

def notIn (d : Option Nat) (l : List Nat) : Bool :=
  match d with
  | none => true
  | some t => !l.contains t
def apartO (x i : ROper) : Bool := notIn x.dst i.rds && notIn i.dst x.rds && (match x.dst, i.dst with | some s, some t => s != t | _, _ => true)
def pairOK (x i : ROper) : Bool := apartO x i && (match x.op.cls, i.op.cls with
  | .eff, .load | .eff, .eff | .alloc, .eff => false
  | .load, .eff => x.dst.isSome
  | _, _ => true)

def preOf (o : Oper) : List Nat := (o.after.toList.filter (Region.binds .any)).map (·.on)
def mkCI (ops : Array Oper) (i : Nat) : Option CI := do
  let o ← ops[i]?
  let r ← rOper P ops o
  pure ⟨i, r, preOf o⟩

def prio : Cls → Nat
  | .load => 0
  | .pure => 1
  | .eff => 2
  | .alloc => 3
def bestOf (done : Nat) : List CI → Option CI
  | [] => none
  | c :: cs => match bestOf done cs with
    | none => if c.pre.all (done.testBit ·) then some c else none
    | some d => if c.pre.all (done.testBit ·) && decide (prio c.o.op.cls ≤ prio d.o.op.cls) then some c else some d
/-- An order is looked for. -/
def orderN : Nat → Nat → List CI → List CI
  | 0, _, _ => []
  | n + 1, done, cs => match bestOf done cs with
    | none => []
    | some c => c :: orderN n (done ||| 1 <<< c.idx) (cs.filter (·.idx != c.idx))

/-- What each waits for, in the end. -/
def ancs : List (Nat × Nat) → List CI → List (CI × Nat)
  | _, [] => []
  | tab, c :: cs =>
    let m := c.pre.foldl (fun m j => m ||| 1 <<< j ||| (tab.lookup j).getD 0) 0
    (c, m) :: ancs ((c.idx, m) :: tab) cs
/-- The later neither writes what the earlier reads nor where it writes. -/
def ssaOK (x y : ROper) : Bool := x.op.cls ≠ .load || notIn y.dst x.rds && (match x.dst, y.dst with | some s, some t => s != t | _, _ => true)
def selfOK (x : ROper) : Bool := notIn x.dst x.rds
def pairsOK : List (CI × Nat) → Bool
  | [] => true
  | (x, _) :: rest => selfOK x.o && rest.all (fun p => ssaOK x.o p.1.o && (p.2.testBit x.idx || pairOK x.o p.1.o)) && pairsOK rest
def topOK : List Nat → List CI → Bool
  | _, [] => true
  | done, c :: cs => c.pre.all (done.contains ·) && !done.contains c.idx && topOK (c.idx :: done) cs
/-- The loads that may stand behind an effect. -/
def reOf (before : List CI) (c : CI) (m : Nat) : List (Nat × ROp × Option (Nat × Bool)) :=
  if c.o.op.cls = .eff then before.filterMap fun x => if x.o.op.cls = .load && !m.testBit x.idx then x.o.dst.map fun d => (d, x.o.op, x.o.guard) else none else []
def fillRe : List CI → List (CI × Nat) → List ROper
  | _, [] => []
  | before, (c, m) :: rest => { c.o with re := reOf before c m } :: fillRe (before ++ [c]) rest

def rDraw (ops : Array Oper) : Option (List ROper) := do
  let cs ← (List.range ops.size).mapM (mkCI P ops)
  let l := orderN ops.size 0 cs
  if l.length = ops.size ∧ (List.range ops.size).all (fun i => l.any (·.idx == i)) = true ∧ topOK [] l = true ∧ pairsOK (ancs [] l) = true then some (fillRe [] (ancs [] l)) else none

def rCode : Code → Option RCode
  | .skip | .label _ => some .skip
  | .region _ ops false => (ops.toList.mapM (rOper P ops)).map .reg
  | .region _ ops true => (rDraw P ops).map .reg
  | .seq a b => do pure (.seq (← rCode a) (← rCode b))
  | .cond c a b => do pure (.cond (← rO c) (← rCode a) (← rCode b))
  | .block id b => (rCode b).map (.block id)
  | .loop b => (rCode b).map .loop
  | .rangeFunc f ps a b => do pure (.rangef (← rO f) ps.toList (← rCode a) (← rCode b))
  | .exit id => some (.exit id)
  | .scope b => (rCode b).map .scope
  | .ret => some .ret
  | .goto _ | .refuse _ => some .dead
end


/-! ### every temporary lies in the frame -/
def okO (n : Nat) : RO → Bool
  | .t t => t < n
  | .c _ => true
def okOs (n : Nat) (xs : List RO) : Bool := xs.all (okO n)
def okOpt (n : Nat) : Option RO → Bool
  | none => true
  | some x => okO n x
def okParts (n : Nat) (xs : List (Nat × Nat × RO)) : Bool := xs.all fun p => okO n p.2.2
def okOp (n : Nat) : ROp → Bool
  | .mov x | .box x | .load _ _ x | .faddr _ x | .nilck x | .eqs _ x | .eqi _ x | .un _ x | .cvi _ x | .cvs x | .cvbs x | .cvsb x
  | .ext x _ | .fld _ _ _ x | .len _ x | .srange x | .mrange x | .next _ x | .iface _ x | .mlen x | .entry x | .cvt x | .cvu _ _ x | .usd x => okO n x
  | .pick a b c => okO n a && okO n b && okO n c
  | .alloc .. | .mkmap | .dead => true
  | .store _ a b | .iaddr _ a b | .aiaddr _ _ a b | .bin _ a b | .eqb _ a b | .eqp _ a b | .eqa _ _ a b | .idx a b | .aix _ _ _ a b | .append _ _ _ _ a b
  | .mkslice _ _ _ a b | .lookup _ _ _ a b | .ust _ a b => okO n a && okO n b
  | .build _ ps => okParts n ps
  | .bslice _ _ _ ps => okParts n ps
  | .slc _ _ x a b c => okO n x && okOpt n a && okOpt n b && okOpt n c
  | .mnx _ xs | .pext _ xs => okOs n xs
  | .mkfn _ xs => okOs n xs
  | .mapupd _ a b c => okO n a && okO n b && okO n c
  | .call (.fn _) xs => okOs n xs
  | .call (.val x) xs => okO n x && okOs n xs
def okDst (n : Nat) : Option Nat → Bool
  | none => true
  | some d => d < n
def okGuard (n : Nat) : Option (Nat × Bool) → Bool
  | none => true
  | some (t, _) => t < n
def okOper (n : Nat) (o : ROper) : Bool := okDst n o.dst && okGuard n o.guard && okOp n o.op
def okCode (n : Nat) : RCode → Bool
  | .skip | .exit _ | .ret | .dead => true
  | .reg ops => ops.all (okOper n)
  | .seq a b => okCode n a && okCode n b
  | .cond c a b => okO n c && okCode n a && okCode n b
  | .block _ b | .loop b | .scope b => okCode n b
  | .rangef f ps a b => okO n f && ps.all (· < n) && okCode n a && okCode n b

end Go.Fsl
