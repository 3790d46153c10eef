/- The evaluator: its code, its memory, one operation. No program. -/
import Derived.Test.YtdpglpjahbiemaaGreatDoorEvBase
namespace Go.Proofs.YtdpglpjahbiemaaGreatDoor.Ev
open Go

/-! ### Code. -/

inductive Opd where
  | t (p : Pos)
  | c (v : AV)
  | bad

/-- Operations that read at most. -/
inductive NK where
  | bad | mv | pick
  | ld1 | ldn (n : Nat)
  | nilck
  | arith (op : BinOp) | shift (op : BinOp) | cmp (op : BinOp) | str (op : BinOp)
  | eqP (neg : Bool) | eqB (neg : Bool) | eqN (c : Nat) (neg : Bool) | eqA (neg : Bool) (at_ : List (Nat × Nat))
  | not | neg
  | cv (k : IntKind) | cvss | cvb2s
  | mkI (t : Nat) | mkF (fn : Pos) (first : Nat)
  | slS (lo hi : Bool) | slL (size : Nat) (lo hi mx : Bool) | slA (n size : Nat) (lo hi : Bool)
  | fa (off : Nat) | fld1 (off : Nat) | fldn (off n : Nat)
  | ixA (n size : Nat) | ixL (size : Nat) | ixV1 (n : Nat) | ixVn (n size : Nat) | ixS
  | look (kk : Nat) (zero : AV) (ok : Bool)
  | extr (i : Nat)
  | lenS | lenL | lenC (n : Nat) | lenM | capL
  | min | max
  | build (zero : List AV) (places : List (Nat × Nat))
  | entry
  | tAss (t : Nat)

/-- Operations that make one new thing. -/
inductive MK where
  | zero (cells : List AV)
  | box
  | bslice (n size : Nat) (zero : List AV) (places : List (Nat × Nat))
  | map
  | slice (size : Nat) (zero : List AV) (bytes : Nat)
  | s2b
  | rngS | rngM

/-- Operations that turn something. -/
inductive XK where
  | st (n : Nat)
  | mapUp (kk : Nat) | del (kk : Nat)
  | append (size : Nat) (zero : List AV) (bytes : Nat)
  | appendZ (size : Nat) (zero : List AV) (bytes : Nat)
  | copy (size : Nat)
  | clear (size : Nat) (zero : List AV)
  | nextS | nextM
  | same
  | call

inductive OpK where
  | n (k : NK) | m (k : MK) | x (k : XK)

structure AOp where
  dst : Option Pos
  k : OpK
  args : List Opd
  guard : Option (Pos × Bool)
  pre : Nat  -- those ahead of it, as a row of bits

inductive ACode where
  | skip | bad
  | scope (a : ACode)
  | region (ops : List AOp) (draw : Bool)
  | seq (a b : ACode)
  | cond (c : Opd) (a b : ACode)
  | block (id : Nat) (a : ACode)
  | loop (a : ACode)
  | rangeFunc (f : Opd) (ps : List Pos) (as body : ACode)
  | exit (id : Nat)
  | ret

inductive AExit where
  | normal | exit (id : Nat) | ret

/-! ### Memory. -/

inductive LS where
  | ready | busy | done
  deriving DecidableEq

inductive AO where
  | cells (c : List AV) (plain : Bool)
  | map (es : List (AV × AV × Nat)) (clock : Nat)
  | strIter (s : List Nat) (pos : Nat)
  | mapIter (m : Pos) (since : Nat) (seen : List Nat) (stepped : Nat)
  | loop (st : LS) (pend : AExit) (t : T AV) (ps : List Pos) (as body : ACode)

structure St where
  h : T AO
  nx : Pos

def Opd.get (t : T AV) : Opd → Option AV
  | .t p => T.get p t
  | .c v => some v
  | .bad => none
def getAll (t : T AV) : List Opd → Option (List AV)
  | [] => some []
  | o :: l => match o.get t with
    | some v => match getAll t l with
      | some vs => some (v :: vs)
      | none => none
    | none => none

def St.look (s : St) (id : Pos) : Option AO := T.get id s.h
def lcells (h : T AO) (id : Pos) : Option (List AV) :=
  match T.get id h with
  | some (.cells c _) => some c
  | _ => none
def lmap (h : T AO) (id : Pos) : Option (List (AV × AV × Nat) × Nat) :=
  match T.get id h with
  | some (.map es c) => some (es, c)
  | _ => none

/-! ### What reads at most. -/

def wrapI (k : IntKind) (n : Int) : Int := k.wrap n

def eqS : List Nat → List Nat → Bool
  | [], [] => true
  | a :: l, b :: m => if Nat.beq a b then eqS l m else false
  | _, _ => false
def ltS : List Nat → List Nat → Bool
  | _, [] => false
  | [], _ :: _ => true
  | a :: l, b :: m => if Nat.blt a b then true else if Nat.beq a b then ltS l m else false
def kindEq : IntKind → IntKind → Bool
  | .i8, .i8 | .i16, .i16 | .i32, .i32 | .i64, .i64 | .u8, .u8 | .u16, .u16 | .u32, .u32 | .u64, .u64 => true
  | _, _ => false
def intEq : Int → Int → Bool
  | .ofNat a, .ofNat b => Nat.beq a b
  | .negSucc a, .negSucc b => Nat.beq a b
  | _, _ => false
def intLt : Int → Int → Bool
  | .ofNat a, .ofNat b => Nat.blt a b
  | .negSucc _, .ofNat _ => true
  | .ofNat _, .negSucc _ => false
  | .negSucc a, .negSucc b => Nat.blt b a
def bEq : Bool → Bool → Bool
  | true, true | false, false => true
  | _, _ => false

/-- Are two plain values the same (integers of one kind, truths, texts)? -/
def eqLeaf : AV → AV → Option Bool
  | .i k a, .i k' b => if kindEq k k' then some (intEq a b) else none
  | .b a, .b b => some (bEq a b)
  | .s a, .s b => some (eqS a b)
  | _, _ => none
def isKey : Nat → AV → Bool
  | 0, .i _ _ => true
  | 1, .s _ => true
  | 2, .b _ => true
  | _, _ => false
/-- Are two rows of cells the same at some places (of what kind, is told)? -/
def eqAt (x y : List AV) : List (Nat × Nat) → Option Bool
  | [] => some true
  | i :: l => match x[i.1]? with
    | none => none
    | some a => match y[i.1]? with
      | none => none
      | some b => if isKey i.2 a then (match eqLeaf a b with
        | none => none
        | some r => match eqAt x y l with
          | none => none
          | some q => some (r && q)) else none
def xorb (neg b : Bool) : Bool := if neg then !b else b

def arithI (op : BinOp) (k : IntKind) (a b : Int) : Option Int :=
  match op with
  | .add => some (k.wrap (a + b))
  | .sub => some (k.wrap (a - b))
  | .mul => some (k.wrap (a * b))
  | .quo => if intEq b 0 then none else some (k.wrap (a.tdiv b))
  | .rem => if intEq b 0 then none else some (a.tmod b)
  | .and | .or | .xor | .andNot => some (bits op k a b)
  | _ => none
where
  bits (op : BinOp) (k : IntKind) (x y : Int) : Int :=
    let a := BitVec.ofInt k.bits x
    let b := BitVec.ofInt k.bits y
    match op with
    | .and => k.wrap (a &&& b).toNat
    | .or => k.wrap (a ||| b).toNat
    | .xor => k.wrap (a ^^^ b).toNat
    | _ => k.wrap (a &&& ~~~b).toNat
def cmpI (op : BinOp) (a b : Int) : Option Bool :=
  match op with
  | .eql => some (intEq a b)
  | .neq => some (!intEq a b)
  | .lss => some (intLt a b)
  | .leq => some (!intLt b a)
  | .gtr => some (intLt b a)
  | .geq => some (!intLt a b)
  | _ => none
def strI (op : BinOp) (a b : List Nat) : Option AV :=
  match op with
  | .add => if Nat.blt (a.length + b.length) 1000000 then some (.s (a ++ b)) else none
  | .eql => some (.b (eqS a b))
  | .neq => some (.b (!eqS a b))
  | .lss => some (.b (ltS a b))
  | .gtr => some (.b (!(ltS a b || eqS a b)))
  | .leq => some (.b (ltS a b || eqS a b))
  | .geq => some (.b (!ltS a b))
  | _ => none

/-- Bounds: low ≤ high ≤ the last. -/
def bounds (lo hi : Option Int) (len cap : Nat) : Option (Nat × Nat) :=
  let h : Option Nat := match hi with
    | none => some len
    | some n => if intLt n 0 then none else if Nat.ble n.toNat cap then some n.toNat else none
  match h with
  | none => none
  | some h => match lo with
    | none => some (0, h)
    | some n => if intLt n 0 then none else if Nat.ble n.toNat h then some (n.toNat, h) else none

def asI : AV → Option Int
  | .i _ n => some n
  | _ => none
/-- The bounds among the operands, as the flags say. -/
def loHi (lo hi : Bool) (vs : List AV) : Option (Option Int × Option Int) :=
  match lo, hi, vs with
  | false, false, [] => some (none, none)
  | true, false, [a] => (asI a).map fun x => (some x, none)
  | false, true, [b] => (asI b).map fun y => (none, some y)
  | true, true, [a, b] => match asI a, asI b with
    | some x, some y => some (some x, some y)
    | _, _ => none
  | _, _, _ => none

def keyEq : AV → AV → Option Bool
  | .i k a, .i k' b => if kindEq k k' then some (intEq a b) else none
  | .b a, .b b => some (bEq a b)
  | .s a, .s b => some (eqS a b)
  | _, _ => none
def findK (k : AV) : List (AV × AV × Nat) → Nat → Option (Option (Nat × AV))
  | [], _ => some none
  | e :: es, i => match keyEq k e.1 with
    | some true => some (some (i, e.2.1))
    | some false => findK k es (i + 1)
    | none => none

/-- Parts are laid into cells, each at its place, if they are as long as they should be. -/
def setAll : List AV → Nat → List AV → List AV
  | c, _, [] => c
  | c, o, v :: vs => setAll (c.set o v) (o + 1) vs
def cellsOfAV : AV → List AV
  | .agg cs => cs
  | v => [v]
def fillA (c : List AV) : List (Nat × Nat) → List AV → Option (List AV)
  | [], [] => some c
  | p :: ps, v :: vs =>
    if Nat.beq (cellsOfAV v).length p.2 && Nat.ble (p.1 + p.2) c.length then fillA (setAll c p.1 (cellsOfAV v)) ps vs else none
  | _, _ => none

def takeN (c : List AV) (o n : Nat) : Option (List AV) := if Nat.ble (o + n) c.length then some ((c.drop o).take n) else none

def bytesOfCells : List AV → Option (List Nat)
  | [] => some []
  | .i .u8 (.ofNat n) :: l => if Nat.blt n 256 then (match bytesOfCells l with | some x => some (n :: x) | none => none) else none
  | _ => none

def nMv : List AV → Option AV
  | [a] => some a
  | _ => none
def nPick : List AV → Option AV
  | [.b c, x, y] => some (if c then x else y)
  | _ => none
def nLd1 (h : T AO) : List AV → Option AV
  | [.p id o] => match lcells h id with
    | some c => c[o]?
    | none => none
  | _ => none
def nLdn (h : T AO) (n : Nat) : List AV → Option AV
  | [.p id o] => match lcells h id with
    | some c => match takeN c o n with
      | some l => some (.agg l)
      | none => none
    | none => none
  | _ => none
def nNil : List AV → Option AV
  | [.p id o] => some (.p id o)
  | [.f a b c] => some (.f a b c)
  | [.y l] => some (.y l)
  | _ => none
def nArith (op : BinOp) : List AV → Option AV
  | [.i k a, .i k' b] => if kindEq k k' then (match arithI op k a b with | some n => some (.i k n) | none => none) else none
  | _ => none
def nShift (op : BinOp) : List AV → Option AV
  | [.i k a, .i _ b] => if intLt b 0 then none else
    match op with
    | .shl => some (.i k (k.wrap (a * 2 ^ (Nat.min b.toNat k.bits))))
    | .shr => some (.i k (a.fdiv (2 ^ (Nat.min b.toNat k.bits))))
    | _ => none
  | _ => none
def nCmp (op : BinOp) : List AV → Option AV
  | [.i k a, .i k' b] => if kindEq k k' then (match cmpI op a b with | some x => some (.b x) | none => none) else none
  | _ => none
def nStr (op : BinOp) : List AV → Option AV
  | [.s a, .s b] => strI op a b
  | _ => none
def nEqP (h : T AO) (neg : Bool) : List AV → Option AV
  | [.np, .np] => some (.b (xorb neg true))
  | [.p _ _, .np] => some (.b (xorb neg false))
  | [.np, .p _ _] => some (.b (xorb neg false))
  | [.p id o, .p id' o'] => if decide (id = id') then some (.b (xorb neg (Nat.beq o o'))) else
    match T.get id h, T.get id' h with
    | some (.cells _ true), some (.cells _ true) => some (.b (xorb neg false))
    | _, _ => none
  | _ => none
def nEqB (neg : Bool) : List AV → Option AV
  | [.b x, .b y] => some (.b (xorb neg (bEq x y)))
  | _ => none
def nEqN (c : Nat) (neg : Bool) : List AV → Option AV
  | [.nsl, .nsl] => if Nat.beq c 0 then some (.b (xorb neg true)) else none
  | [.sl .., .nsl] => if Nat.beq c 0 then some (.b (xorb neg false)) else none
  | [.es, .nsl] => if Nat.beq c 0 then some (.b (xorb neg false)) else none
  | [.nm, .nm] => if Nat.beq c 1 then some (.b (xorb neg true)) else none
  | [.m _, .nm] => if Nat.beq c 1 then some (.b (xorb neg false)) else none
  | [.nf, .nf] => if Nat.beq c 2 then some (.b (xorb neg true)) else none
  | [.f .., .nf] => if Nat.beq c 2 then some (.b (xorb neg false)) else none
  | _ => none
def nEqA (neg : Bool) (at_ : List (Nat × Nat)) : List AV → Option AV
  | [.agg x, .agg y] => match eqAt x y at_ with
    | some b => some (.b (xorb neg b))
    | none => none
  | _ => none
def nNot : List AV → Option AV
  | [.b x] => some (.b (!x))
  | _ => none
def nNeg : List AV → Option AV
  | [.i k n] => some (.i k (k.wrap (0 - n)))
  | _ => none
def nCv (k : IntKind) : List AV → Option AV
  | [.i _ n] => some (.i k (k.wrap n))
  | _ => none
def nCvss : List AV → Option AV
  | [.s x] => some (.s x)
  | _ => none
def nB2s (h : T AO) : List AV → Option AV
  | [.nsl] => some (.s [])
  | [.sl id o len _ _ _] => match lcells h id with
    | some c => match takeN c o len with
      | some l => match bytesOfCells l with
        | some x => some (.s x)
        | none => none
      | none => none
    | none => none
  | _ => none
def nMkI (t : Nat) : List AV → Option AV
  | [v] => some (.ifc t v)
  | _ => none
def nSlS (lo hi : Bool) : List AV → Option AV
  | .s x :: vs => match loHi lo hi vs with
    | some (l, r) => match bounds l r x.length x.length with
      | some (a, b) => some (.s ((x.take b).drop a))
      | none => none
    | none => none
  | _ => none
def nSlL (size : Nat) (lo hi : Bool) : List AV → Option AV
  | .nsl :: vs => match loHi lo hi vs with
    | some (l, r) => match bounds l r 0 0 with
      | some _ => some .nsl
      | none => none
    | none => none
  | .sl id o len cap sz ex :: vs => if Nat.beq sz size then (match loHi lo hi vs with
    | some (l, r) => match bounds l r len cap with
      | some (a, b) => if Nat.beq a 0 then some (.sl id o b cap sz ex)
        else if Nat.blt a cap then some (.sl id (o + a * size) (b - a) (cap - a) sz ex)
        else some .es
      | none => none
    | none => none) else none
  | _ => none
def nSl3 (size : Nat) : List AV → Option AV
  | [.sl id o _ cap sz _, .i _ l, .i _ r, .i _ m] => if Nat.beq sz size && !intLt l 0 && !intLt r l && !intLt m r && Nat.ble m.toNat cap && intLt l m then
      some (.sl id (o + l.toNat * size) (r.toNat - l.toNat) (m.toNat - l.toNat) sz true) else none
  | _ => none
def nSlA (h : T AO) (n size : Nat) (lo hi : Bool) : List AV → Option AV
  | .p id o :: vs => match loHi lo hi vs with
    | some (l, r) => match bounds l r n n with
      | some (a, b) => match lcells h id with
        | some c => if Nat.ble (o + n * size) c.length then (if Nat.beq n a then some .es else some (.sl id (o + a * size) (b - a) (n - a) size true)) else none
        | none => none
      | none => none
    | none => none
  | _ => none
def nFa (off : Nat) : List AV → Option AV
  | [.p id o] => some (.p id (o + off))
  | _ => none
def nFld1 (off : Nat) : List AV → Option AV
  | [.agg c] => c[off]?
  | _ => none
def nFldn (off n : Nat) : List AV → Option AV
  | [.agg c] => match takeN c off n with
    | some l => some (.agg l)
    | none => none
  | _ => none
def nIxA (n size : Nat) : List AV → Option AV
  | [.p id o, .i _ j] => if intLt j 0 then none else if Nat.blt j.toNat n then some (.p id (o + j.toNat * size)) else none
  | _ => none
def nIxL (size : Nat) : List AV → Option AV
  | [.sl id o len _ _ _, .i _ j] => if intLt j 0 then none else if Nat.blt j.toNat len then some (.p id (o + j.toNat * size)) else none
  | _ => none
def nIxV1 (n : Nat) : List AV → Option AV
  | [.agg c, .i _ j] => if intLt j 0 then none else if Nat.blt j.toNat n then c[j.toNat]? else none
  | _ => none
def nIxVn (n size : Nat) : List AV → Option AV
  | [.agg c, .i _ j] => if intLt j 0 then none else if Nat.blt j.toNat n then (match takeN c (j.toNat * size) size with
    | some l => some (.agg l)
    | none => none) else none
  | _ => none
def nIxS : List AV → Option AV
  | [.s x, .i _ j] => if intLt j 0 then none else match x[j.toNat]? with
    | some b => some (.i .u8 (.ofNat b))
    | none => none
  | _ => none
def nLook (h : T AO) (kk : Nat) (zero : AV) (ok : Bool) : List AV → Option AV
  | [.nm, k] => if isKey kk k then some (if ok then .tup [zero, .b false] else zero) else none
  | [.m id, k] => if isKey kk k then (match lmap h id with
    | some (es, _) => match findK k es 0 with
      | some (some (_, v)) => some (if ok then .tup [v, .b true] else v)
      | some none => some (if ok then .tup [zero, .b false] else zero)
      | none => none
    | none => none) else none
  | _ => none
def nExtr (i : Nat) : List AV → Option AV
  | [.tup l] => l[i]?
  | _ => none
def nLenS : List AV → Option AV
  | [.s x] => some (.i .i64 (.ofNat x.length))
  | _ => none
def nLenL : List AV → Option AV
  | [.nsl] => some (.i .i64 (.ofNat 0))
  | [.es] => some (.i .i64 (.ofNat 0))
  | [.sl _ _ n _ _ _] => some (.i .i64 (.ofNat n))
  | _ => none
def nLenC (n : Nat) : List AV → Option AV
  | [_] => some (.i .i64 (.ofNat n))
  | _ => none
def nLenM (h : T AO) : List AV → Option AV
  | [.nm] => some (.i .i64 (.ofNat 0))
  | [.m id] => match lmap h id with
    | some (es, _) => some (.i .i64 (.ofNat es.length))
    | none => none
  | _ => none
def nCapL : List AV → Option AV
  | [.nsl] => some (.i .i64 (.ofNat 0))
  | [.sl _ _ _ cap _ true] => some (.i .i64 (.ofNat cap))
  | _ => none
def nMin : List AV → Option AV
  | [.i k a, .i _ b] => some (.i k (if intLt b a then b else a))
  | _ => none
def nMax : List AV → Option AV
  | [.i k a, .i _ b] => some (.i k (if intLt a b then b else a))
  | _ => none
def nBuild (zero : List AV) (ps : List (Nat × Nat)) (vs : List AV) : Option AV :=
  match fillA zero ps vs with
  | some c => some (.agg c)
  | none => none
def nEntry (h : T AO) : List AV → Option AV
  | [.p id o] => if Nat.beq o 0 then (match T.get id h with
    | some (.mapIter m _ seen stepped) => match lmap h m with
      | some (es, clock) => if Nat.beq clock stepped then (match seen.getLast? with
        | some stamp => match es.find? (fun e => Nat.beq e.2.2 stamp) with
          | some e => some (.tup [e.1, e.2.1])
          | none => none
        | none => none) else none
      | none => none
    | _ => none) else none
  | _ => none
def nTAss (t : Nat) : List AV → Option AV
  | [.ifc u v] => if Nat.beq t u then some v else none
  | _ => none

def nrun (h : T AO) (k : NK) (l : List AV) : Option AV :=
  match k with
  | .bad => none | .mv => nMv l | .pick => nPick l | .ld1 => nLd1 h l | .ldn n => nLdn h n l | .nilck => nNil l
  | .arith op => nArith op l | .shift op => nShift op l | .cmp op => nCmp op l | .str op => nStr op l
  | .eqP g => nEqP h g l | .eqB g => nEqB g l | .eqN c g => nEqN c g l | .eqA g a => nEqA g a l
  | .not => nNot l | .neg => nNeg l | .cv k => nCv k l | .cvss => nCvss l | .cvb2s => nB2s h l
  | .mkI t => nMkI t l | .mkF fn n => some (.f fn (l.take n) (l.drop n))
  | .slS lo hi => nSlS lo hi l | .slL size lo hi mx => if mx then nSl3 size l else nSlL size lo hi l | .slA n size lo hi => nSlA h n size lo hi l
  | .fa off => nFa off l | .fld1 off => nFld1 off l | .fldn off n => nFldn off n l
  | .ixA n size => nIxA n size l | .ixL size => nIxL size l | .ixV1 n => nIxV1 n l | .ixVn n size => nIxVn n size l | .ixS => nIxS l
  | .look kk zero ok => nLook h kk zero ok l | .extr i => nExtr i l
  | .lenS => nLenS l | .lenL => nLenL l | .lenC n => nLenC n l | .lenM => nLenM h l | .capL => nCapL l
  | .min => nMin l | .max => nMax l | .build zero ps => nBuild zero ps l | .entry => nEntry h l | .tAss t => nTAss t l

/-! ### What makes one new thing. -/

def repl (zero : List AV) : Nat → List AV
  | 0 => []
  | n + 1 => zero ++ repl zero n
def byteCells : List Nat → List AV
  | [] => []
  | b :: l => .i .u8 (.ofNat b) :: byteCells l

/-- The new thing, and the value that tells of it, once its name is known. -/
def mrun (h : T AO) (id : Pos) : MK → List AV → Option (AO × AV)
  | .zero c, [] => some (.cells c true, .p id 0)
  | .box, [v] => some (.cells (cellsOfAV v) true, .p id 0)
  | .bslice n size zero ps, vs => match fillA (repl zero n) ps vs with
    | some c => some (.cells c true, .sl id 0 n n size true)
    | none => none
  | .map, _ => some (.map [] 0, .m id)
  | .slice size zero bytes, [.i _ l, .i _ c] => if intLt l 0 then none else if intLt c 0 then none else
    if Nat.ble l.toNat c.toNat && Nat.blt c.toNat 1000000 && Nat.blt bytes 1000000 then some (.cells (repl zero c.toNat) true, .sl id 0 l.toNat c.toNat size true) else none
  | .s2b, [.s x] => if Nat.blt x.length 1000000 then some (.cells (byteCells x) false, .sl id 0 x.length x.length 1 false) else none
  | .rngS, [.s x] => some (.strIter x 0, .p id 0)
  | .rngM, [.m m] => match lmap h m with
    | some (_, clock) => some (.mapIter m clock [] clock, .p id 0)
    | none => none
  | _, _ => none

end Go.Proofs.YtdpglpjahbiemaaGreatDoor.Ev
