/- A part of our logic over the resolved code, or of a proof in it. -/
import Derived.Test.YtdajenjajmofiaaGreatDoorFslDraw1
set_option linter.unusedSimpArgs false
set_option linter.unusedVariables false
namespace Go.Fsl

/-! ### A closed run, done by the kernel: the runner -/
inductive T (α : Type) where
  | leaf
  | node (l : T α) (v : Option α) (r : T α)

section
variable {α : Type}
def T.get : T α → Nat → Option α
  | .leaf, _ => none
  | .node l v r, k => bif k.beq 0 then v else bif (k % 2).beq 1 then l.get (k / 2) else r.get (k / 2 - 1)
def T.set : Nat → T α → Nat → Option α → T α
  | 0, t, _, _ => t
  | f + 1, .leaf, k, x => bif k.beq 0 then .node .leaf x .leaf else bif (k % 2).beq 1 then .node (T.set f .leaf (k / 2) x) none .leaf else .node .leaf none (T.set f .leaf (k / 2 - 1) x)
  | f + 1, .node l v r, k, x => bif k.beq 0 then .node l x r else bif (k % 2).beq 1 then .node (T.set f l (k / 2) x) v r else .node l v (T.set f r (k / 2 - 1) x)
def T.put (t : T α) (k : Nat) (x : α) : T α := T.set 32 t k (some x)
def T.del (t : T α) (k : Nat) : T α := T.set 32 t k none
end

/-- Objects, as the runner has them. -/
inductive AO where
  | cells (cs : List D) (sz : Nat) (ty : Option TypeId)
  | map (es : List (Nat × D × D)) (clock : Nat)
  | siter (s : ByteArray) (pos : Nat)
  | miter (m since : Nat) (seen : List Nat) (stepped : Nat)
  | loop (st : LoopState) (pend : Option X) (τ : T D) (n : Nat) (ps : List Nat) (asg body : RCode)
def AO.toO : AO → Option O
  | .cells cs sz ty => some (.cells cs 0 sz ty)
  | .map es c => some (.map es c)
  | _ => none

structure St where
  A : T AO
  N : Nat

def fr (τ : T D) : Tmps := fun t => (τ.get t).getD .undef

def plain1 : Value → Bool
  | .bool _ | .int .. | .string _ | .pointer none | .slice none _ _ | .map none | .nilFunc | .nilIface => true
  | _ => false
def plainV : Value → Bool
  | .iface _ x => plain1 x
  | x => plain1 x
def plainL : D → Bool
  | .v x => plainV x
  | .fn _ [] => true
  | _ => false
/-- What may stand in code. -/
def plainC (G : Nat) : D → Bool
  | .v (.pointer (some ⟨g, _, none⟩)) => Nat.blt g G
  | .tup [] => true
  | .agg cs => cs.all plainL
  | d => plainL d

def okRO (G : Nat) : RO → Bool
  | .t _ => true
  | .c d => plainC G d
def okROs (G : Nat) (xs : List RO) : Bool := xs.all (okRO G)
def okROo (G : Nat) : Option RO → Bool
  | none => true
  | some x => okRO G x
def okROp (G : Nat) (xs : List (Nat × Nat × RO)) : Bool := xs.all fun p => okRO G p.2.2
def okOpC (G : Nat) : ROp → Bool
  | .mov x | .box x | .load _ _ x | .faddr _ x | .nilck x | .eqs _ x | .eqi _ x | .un _ x | .cvi _ x | .cvs x | .cvbs x | .cvsb x
  | .ext x _ | .fld _ _ _ x | .len _ x | .srange x | .mrange x | .next _ x | .iface _ x | .mlen x | .entry x | .cvt x | .cvu _ _ x | .usd x => okRO G x
  | .pick a b c => okRO G a && okRO G b && okRO G c
  | .alloc cs _ => cs.all plainL
  | .mkmap | .dead => true
  | .store _ a b | .iaddr _ a b | .aiaddr _ _ a b | .bin _ a b | .eqb _ a b | .eqp _ a b | .eqa _ _ a b | .idx a b | .aix _ _ _ a b | .append _ _ _ _ a b | .ust _ a b => okRO G a && okRO G b
  | .mkslice _ _ z a b => z.all plainL && okRO G a && okRO G b
  | .lookup _ z _ a b => plainC G z && okRO G a && okRO G b
  | .build z ps => z.all plainL && okROp G ps
  | .bslice _ z _ ps => z.all plainL && okROp G ps
  | .slc _ _ x a b c => okRO G x && okROo G a && okROo G b && okROo G c
  | .mnx _ xs | .pext _ xs => okROs G xs
  | .mkfn _ xs => okROs G xs
  | .mapupd _ a b c => okRO G a && okRO G b && okRO G c
  | .call (.fn _) xs => okROs G xs
  | .call (.val x) xs => okRO G x && okROs G xs
def okOperC (G : Nat) (o : ROper) : Bool := (match o.dst with | none => true | some t => Nat.blt t 4000000000) && okOpC G o.op && o.re.all fun r => okOpC G r.2.1
def okCodeC (G : Nat) : RCode → Bool
  | .skip | .exit _ | .ret | .dead => true
  | .reg ops => ops.all (okOperC G)
  | .seq a b => okCodeC G a && okCodeC G b
  | .cond c a b => okRO G c && okCodeC G a && okCodeC G b
  | .block _ b | .loop b | .scope b => okCodeC G b
  | .rangef f ps a b => okRO G f && ps.all (Nat.blt · 4000000000) && okCodeC G a && okCodeC G b

abbrev Outs (α : Type) := Option (List α)
section
variable {α β : Type}
def one (x : α) : Outs α := some [x]
def bindL (f : α → Outs β) : List α → Outs β
  | [] => some []
  | a :: as => match f a with
    | none => none
    | some bs => match bindL f as with
      | none => none
      | some cs => some (bs ++ cs)
def bindO (x : Outs α) (f : α → Outs β) : Outs β :=
  match x with
  | none => none
  | some l => bindL f l
end

def St.new (st : St) (o : AO) : St := ⟨st.A.put st.N o, st.N + 1⟩
def mk (st : St) (o : AO) (d : D) : Outs (D × St) := bif Nat.blt st.N 4000000000 then one (d, st.new o) else none

def srcA (A : T AO) (sz : Nat) : D → Option (Nat × List D)
  | .v (.string s) => bif sz.beq 1 then some (s.size, s.data.toList.map byteD) else none
  | .v (.slice none n _) => bif n.beq 0 then some (0, []) else none
  | .v (.slice (some ⟨b, o, none⟩) n _) => bif n.beq 0 then (match A.get b with
    | some (.cells ..) => some (0, [])
    | _ => none) else match A.get b with
    | some (.cells cs _ _) => bif Nat.ble (o + n * sz) cs.length then some (n, (cs.drop o).take (n * sz)) else none
    | _ => none
  | _ => none

/-- A slice that an append made: its room is not told. -/
abbrev BIG : Nat := 4611686018427387904
def slcA (τ : T D) (A : T AO) (sz : Nat) (a off n c : Nat) (lo hi mx : Option RO) : Option D :=
  match A.get a with
  | some (.cells _ sz' _) => bif sz.beq sz' then (match mx with
    | none => match optInt (fr τ) 0 lo, optInt (fr τ) n hi with
      | some l, some h => if 0 ≤ l ∧ l ≤ h ∧ h ≤ n then
          (bif Nat.blt c BIG then some (.v (.slice (some (if (c : Int) = l then ⟨a, off, none⟩ else ⟨a, off + l.toNat * sz, none⟩)) (h.toNat - l.toNat) (c - l.toNat)))
          else bif c.beq BIG then some (.v (.slice (some ⟨a, off + l.toNat * sz, none⟩) (h.toNat - l.toNat) BIG)) else none) else none
      | _, _ => none
    | some mx => match optInt (fr τ) 0 lo, optInt (fr τ) n hi, intD (mx.ev (fr τ)) with
      | some l, some h, some m => if l = 0 ∧ h = 0 ∧ m = 0 ∧ (0 < n ∨ c < BIG) then some (.v (.slice (some ⟨a, off, none⟩) 0 0)) else none
      | _, _, _ => none) else none
  | _ => none

def strictB : D → Option UInt8
  | .v (.int .u8 n) => if 0 ≤ n ∧ n < 256 then some (UInt8.ofNat n.toNat) else none
  | _ => none
def strictL : List D → Option (List UInt8)
  | [] => some []
  | d :: ds => match strictB d, strictL ds with
    | some b, some l => some (b :: l)
    | _, _ => none
def isObj : ROp → Bool
  | .load .. | .lookup .. | .mlen .. => true
  | _ => false

abbrev Hnd := Cal → List D → St → Outs (D × St)

def optD (st : St) : Option D → Outs (D × St)
  | none => none
  | some d => one (d, st)

/-- One operation. -/
def exOp (G : Nat) (h : Hnd) (o : ROp) (τ : T D) (st : St) : Outs (D × St) :=
  match o with
  | .alloc cs t => mk st (.cells cs 0 (some t)) (.ptr st.N 0)
  | .box x => match (x.ev (fr τ)).cells with
    | some cs => mk st (.cells cs 0 none) (.ptr st.N 0)
    | none => none
  | .store n a x => match a.ev (fr τ) with
    | .v (.pointer (some ⟨b, off, none⟩)) => bif Nat.ble G b then (match st.A.get b with
      | some (.cells cs sz ty) => match (x.ev (fr τ)).cells with
        | some ds => bif ds.length.beq n && Nat.ble (off + n) cs.length && ds.all D.one then one (.undef, { st with A := st.A.put b (.cells (setMany cs off ds) sz ty) }) else none
        | none => none
      | _ => none) else none
    | _ => none
  | .cvsb x => match x.ev (fr τ) with
    | .v (.string s) => mk st (.cells (s.data.toList.map byteD) 1 none) (.v (.slice (some ⟨st.N, 0, none⟩) s.size BIG))
    | _ => none
  | .cvbs x => match x.ev (fr τ) with
    | .v (.string _) => none
    | d => match srcA st.A 1 d with
      | some (k, cs) => match bytesOf cs with
        | some l => bif cs.length.beq k && cs.all D.one then one (.s ⟨l.toArray⟩, st) else none
        | none => none
      | none => none
  | .bslice sz zs n parts => match buildCells (fr τ) (List.replicate n zs).flatten parts with
    | some cs => bif zs.length.beq sz && Nat.blt n BIG then mk st (.cells cs sz none) (.v (.slice (some ⟨st.N, 0, none⟩) n n)) else none
    | none => none
  | .append sz bytes _ e a x => match srcA st.A sz (x.ev (fr τ)) with
    | some (k, ys) => bif ys.length.beq (k * sz) && ys.all D.one && Nat.blt 0 sz then (match a.ev (fr τ) with
      | .v (.slice none 0 0) => bif k.beq 0 then one (.nils, st) else bif Nat.ble (k * bytes) 70368744177664 then mk st (.cells ys sz (some e)) (.v (.slice (some ⟨st.N, 0, none⟩) k BIG)) else none
      | .v (.slice (some ⟨b, off, none⟩) n c) => match st.A.get b with
        | some (.cells cs sz' ty) => bif (match ty with | none => true | some t => t.beq e) && Nat.ble G b && sz.beq sz' && Nat.blt 0 sz && Nat.ble (off + n * sz) cs.length && Nat.ble ((n + k) * bytes) 70368744177664 then
            (bif k.beq 0 then one (.v (.slice (some ⟨b, off, none⟩) n c), st) else
              mk (bif Nat.blt c BIG && Nat.blt c (n + k) then st else { st with A := st.A.del b }) (.cells ((cs.drop off).take (n * sz) ++ ys) sz (bif off.beq 0 then ty else none)) (.v (.slice (some ⟨st.N, 0, none⟩) (n + k) BIG))) else none
        | _ => none
      | _ => none) else none
    | none => none
  | .mkslice sz bytes zero l c => match intD (l.ev (fr τ)), intD (c.ev (fr τ)) with
    | some l, some c => if 0 ≤ l ∧ l ≤ c ∧ c * bytes ≤ 70368744177664 ∧ c ≤ 70368744177664 ∧ zero.length = sz then
        mk st (.cells (List.replicate l.toNat zero).flatten sz none) (.v (.slice (some ⟨st.N, 0, none⟩) l.toNat c.toNat)) else none
    | _, _ => none
  | .mkmap => mk st (.map [] 0) (.v (.map (some st.N)))
  | .mapupd kd m k x => bif keyOk kd (k.ev (fr τ)) then (match m.ev (fr τ) with
    | .v (.map (some r)) => bif Nat.ble G r then (match st.A.get r with
      | some (.map es clock) => match findE kd (k.ev (fr τ)) es 0 with
        | some (some (i, _)) => one (.undef, { st with A := st.A.put r (.map (es.modify i fun e => (e.1, k.ev (fr τ), x.ev (fr τ))) clock) })
        | some none => one (.undef, { st with A := st.A.put r (.map (es ++ [(clock, k.ev (fr τ), x.ev (fr τ))]) (clock + 1)) })
        | none => none
      | _ => none) else none
    | _ => none) else none
  | .srange x => match x.ev (fr τ) with
    | .v (.string s) => mk st (.siter s 0) (.ptr st.N 0)
    | _ => none
  | .mrange x => match x.ev (fr τ) with
    | .v (.map (some m)) => match st.A.get m with
      | some (.map _ clock) => mk st (.miter m clock [] clock) (.ptr st.N 0)
      | _ => none
    | _ => none
  | .next true it => match it.ev (fr τ) with
    | .v (.pointer (some ⟨r, 0, none⟩)) => bif Nat.ble G r then (match st.A.get r with
      | some (.siter s pos) => bif Nat.blt pos s.size then one (.tup [.b true, .i pos, .v (.int .i32 (Utf8.decode s pos).1)], { st with A := st.A.put r (.siter s (pos + (Utf8.decode s pos).2)) })
        else one (.tup [.b false], st)
      | _ => none) else none
    | _ => none
  | .next false it => match it.ev (fr τ) with
    | .v (.pointer (some ⟨r, 0, none⟩)) => bif Nat.ble G r then (match st.A.get r with
      | some (.miter m since seen stepped) => match st.A.get m with
        | some (.map es clock) => bif (seen.isEmpty || es.isEmpty || es.any fun e => Nat.blt e.1 stepped) && es.all (fun e => Nat.blt e.1 since) then
            some ((es.filter fun e => !seen.contains e.1).map (fun e => (.tup [.b true, e.2.1, e.2.2], { st with A := st.A.put r (.miter m since (seen ++ [e.1]) clock) })) ++
              bif es.all (fun e => seen.contains e.1) then [(.tup [.b false], st)] else []) else none
        | _ => none
      | _ => none) else none
    | _ => none
  | .entry it => match it.ev (fr τ) with
    | .v (.pointer (some ⟨r, 0, none⟩)) => match st.A.get r with
      | some (.miter m _ seen stepped) => match st.A.get m, seen.getLast? with
        | some (.map es clock), some k => bif clock.beq stepped then (match es.find? (·.1 == k) with
          | some e => one (.tup [e.2.1, e.2.2], st)
          | none => none) else none
        | _, _ => none
      | _ => none
    | _ => none
  | .call (.fn f) args => h (.fn f) (args.map (·.ev (fr τ))) st
  | .call (.val x) args => match x.ev (fr τ) with
    | .fn f caps => h (.fn f) (args.map (·.ev (fr τ)) ++ caps) st
    | .v (.func (.yield l) first caps) => bif first.isEmpty && caps.isEmpty then h (.yld l) (args.map (·.ev (fr τ))) st else none
    | _ => none
  | .iface t x => match x.ev (fr τ) with
    | .v x => bif plain1 x then one (.v (.iface t x), st) else none
    | _ => none
  | .slc str sz x lo hi mx => match x.ev (fr τ) with
    | .v (.slice (some ⟨a, off, none⟩) n c) => bif str then none else optD st (slcA τ st.A sz a off n c lo hi mx)
    | _ => optD st (pureV (.slc str sz x lo hi mx) (fr τ))
  | .cvt x => match x.ev (fr τ) with
    | .v (.pointer (some ⟨b, off, none⟩)) => match st.A.get b with
      | some (.cells cs _ _) => bif Nat.blt off cs.length then one (.ptr b off, st) else none
      | _ => none
    | _ => none
  | .cvu n u x => match x.ev (fr τ) with
    | .v (.pointer (some ⟨b, 0, none⟩)) => match st.A.get b with
      | some (.cells cs 0 (some t)) => bif t.beq u && Nat.blt 0 n && Nat.ble n cs.length then one (.ptr b 0, st) else none
      | _ => none
    | _ => none
  | .usd x => match x.ev (fr τ) with
    | .v (.slice none _ _) => one (.nilp, st)
    | .v (.slice (some a) n _) => bif Nat.blt 0 n then one (.v (.pointer (some a)), st) else none
    | _ => none
  | .ust u p n => match intD (n.ev (fr τ)) with
    | some n => if n = 0 then (match p.ev (fr τ) with
        | .v (.pointer _) => one (.s .empty, st)
        | _ => none)
      else if 0 ≤ n ∧ n < 4611686018427387904 then (match p.ev (fr τ) with
        | .v (.pointer (some ⟨b, 0, none⟩)) => bif Nat.ble G b then (match st.A.get b with
          | some (.cells cs _ (some t)) => if n ≤ cs.length ∧ t = u then (match strictL (cs.take n.toNat) with
            | some l => one (.s ⟨l.toArray⟩, { st with A := st.A.del b })
            | none => none) else none
          | _ => none) else none
        | _ => none) else none
    | none => none
  | .dead => none
  | o => bif isObj o then optD st (loadV o (fr τ) ((st.A.get (loadB o (fr τ))).bind AO.toO)) else optD st (pureV o (fr τ))

/-- Values that are told whole. -/
def eqDet1 : D → D → Bool
  | .v (.bool a), .v (.bool b) => a == b
  | .v (.int k a), .v (.int k' b) => k == k' && a == b
  | .v (.string a), .v (.string b) => a.data.toList == b.data.toList
  | .v (.pointer none), .v (.pointer none) => true
  | .v (.pointer (some ⟨a, o, none⟩)), .v (.pointer (some ⟨b, o', none⟩)) => a.beq b && o.beq o'
  | .v (.map (some a)), .v (.map (some b)) => a.beq b
  | .v (.map none), .v (.map none) => true
  | .v (.slice none 0 0), .v (.slice none 0 0) => true
  | .v (.slice (some ⟨a, o, none⟩) n c), .v (.slice (some ⟨a', o', none⟩) n' c') => a.beq a' && o.beq o' && n.beq n' && c.beq c' && (Nat.blt 0 n || Nat.blt c BIG)
  | _, _ => false
def eqDets : List D → List D → Bool
  | [], [] => true
  | a :: as, b :: bs => eqDet1 a b && eqDets as bs
  | _, _ => false
def eqDet : D → D → Bool
  | .agg a, .agg b => eqDets a b
  | a, b => eqDet1 a b
def stillA (G : Nat) (h : Hnd) (τ : T D) (st : St) (r : Nat × ROp × Option (Nat × Bool)) : Bool :=
  bif wanted (fr τ) r.2.2 then (bif isObj r.2.1 then (match exOp G h r.2.1 τ st with
    | some [(d, _)] => eqDet d (fr τ r.1)
    | _ => false) else false) else true

def putO (τ : T D) : Option Nat → D → T D
  | none, _ => τ
  | some t, d => τ.put t d

def exOps (G : Nat) (h : Hnd) : List ROper → T D → St → Outs (T D × St)
  | [], τ, st => one (τ, st)
  | o :: os, τ, st =>
    bif wanted (fr τ) o.guard then bindO (exOp G h o.op τ st) fun p =>
      bif o.re.all (stillA G h (putO τ o.dst p.1) p.2) then exOps G h os (putO τ o.dst p.1) p.2 else none
    else exOps G h os (putO τ o.dst .undef) st

abbrev CO := X × T D × St
def iter (f : T D → St → Outs CO) : Nat → T D → St → Outs CO
  | 0, _, _ => none
  | k + 1, τ, st => bindO (f τ st) fun p => match p.1 with
    | .n => iter f k p.2.1 p.2.2
    | x => one (x, p.2.1, p.2.2)

def isLoop : Option AO → Bool
  | some (.loop ..) => true
  | _ => false

def exC (G L : Nat) (h : Hnd) (ro : Option Nat) (n : Nat) : RCode → T D → St → Outs CO
  | .skip, τ, st => one (.n, τ, st)
  | .reg ops, τ, st => bindO (exOps G h ops τ st) fun p => one (.n, p.1, p.2)
  | .seq a b, τ, st => bindO (exC G L h ro n a τ st) fun p => match p.1 with
    | .n => exC G L h ro n b p.2.1 p.2.2
    | x => one (x, p.2.1, p.2.2)
  | .cond c a b, τ, st => match c.ev (fr τ) with
    | .v (.bool t) => bif t then exC G L h ro n a τ st else exC G L h ro n b τ st
    | _ => none
  | .block id b, τ, st => bindO (exC G L h ro n b τ st) fun p => match p.1 with
    | .x id' => bif id'.beq id then one (.n, p.2.1, p.2.2) else one (.x id', p.2.1, p.2.2)
    | x => one (x, p.2.1, p.2.2)
  | .loop b, τ, st => iter (exC G L h ro n b) L τ st
  | .rangef f ps asg body, τ, st => match f.ev (fr τ) with
    | .fn g caps => bif (match ro with | none => true | some l0 => isLoop (st.A.get l0)) && Nat.blt st.N 4000000000 then
        bindO (h (.fn g) (.v (.func (.yield st.N) #[] #[]) :: caps) (st.new (.loop .ready none τ n ps asg body))) fun p =>
          match p.2.A.get st.N with
          | some (.loop ls pend _ _ _ _ _) => match ls with
            | .busy => none
            | _ => one (pend.getD .n, τ, { p.2 with A := p.2.A.del st.N })
          | _ => none
        else none
    | _ => none
  | .exit id, τ, st => one (.x id, τ, st)
  | .scope b, τ, st => exC G L h ro n b τ st
  | .ret, τ, st => one (.r, τ, st)
  | .dead, _, _ => none

def argsT : List D → Nat → T D → T D
  | [], _, t => t
  | d :: ds, i, t => argsT ds (i + 1) (t.put i d)
def putPsT (τ : T D) : List Nat → List D → T D
  | p :: ps, d :: ds => putPsT (τ.put p d) ps ds
  | _, _ => τ

def resA (τ : T D) (st : St) : RRes → Option D
  | .t t => some (fr τ t)
  | .c a g n => match fr τ a with
    | .v (.pointer (some ⟨b, off, none⟩)) => match st.A.get b with
      | some (.cells cs _ _) => rd g n off cs
      | _ => none
    | _ => none
def resAs (τ : T D) (st : St) : List RRes → Option (List D)
  | [] => some []
  | r :: rs => match resA τ st r, resAs τ st rs with
    | some d, some ds => some (d :: ds)
    | _, _ => none
def resDA (τ : T D) (st : St) (rs : List RRes) : Option D :=
  match rs with
  | [r] => resA τ st r
  | rs => (resAs τ st rs).map .tup

/-- A call, so deep. -/
def ex (G L : Nat) (tbl : T RFn) : Nat → Hnd
  | 0, _, _, _ => none
  | k + 1, .fn f, args, st => match tbl.get f with
    | none => none
    | some fn => bif Nat.ble args.length fn.n && Nat.blt fn.n 4000000000 then
        bindO (exC G L (ex G L tbl k) none fn.n fn.body (argsT args 0 .leaf) st) fun p => match p.1 with
          | .x _ => none
          | _ => match resDA p.2.1 p.2.2 fn.res with
            | some d => one (d, p.2.2)
            | none => none
      else none
  | k + 1, .yld l, args, st => match st.A.get l with
    | some (.loop .ready pend τ n ps asg body) => bif Nat.ble G l && args.length.beq ps.length then
        bindO (exC G L (ex G L tbl k) (some l) n asg (putPsT τ ps args) st) fun p => match p.1 with
          | .n => match p.2.2.A.get l with
            | some (.loop .ready pend2 τ2 n2 ps2 asg2 body2) => bif pend2 == pend then
                bindO (exC G L (ex G L tbl k) (some l) n body p.2.1 { p.2.2 with A := p.2.2.A.put l (.loop .busy pend2 τ2 n2 ps2 asg2 body2) }) fun q =>
                  match q.2.2.A.get l with
                  | some (.loop .busy pend3 τ3 n3 ps3 asg3 body3) => bif pend3 == pend then
                      (match q.1 with
                      | .n => one (.b true, { q.2.2 with A := q.2.2.A.put l (.loop .ready none τ3 n3 ps3 asg3 body3) })
                      | x => one (.b false, { q.2.2 with A := q.2.2.A.put l (.loop .done (some x) τ3 n3 ps3 asg3 body3) })) else none
                  | _ => none
                else none
            | _ => none
          | _ => none
      else none
    | _ => none
end Go.Fsl
