/- From the model's code to the evaluator's. -/
import Derived.Test.YtdpglpjahbiemaaGreatDoorEvRun
namespace Go.Proofs.YtdpglpjahbiemaaGreatDoor.Ev
open Go

def posOf : Nat → Pos
  | 0 => .h
  | n + 1 => (posOf n).succ
theorem posOf_num (n : Nat) : (posOf n).num = n := by
  induction n with
  | zero => rfl
  | succ n ih => have := (posOf n).toNat_pos; simp only [posOf, Pos.num, Pos.toNat_succ] at *; omega

mutual
def cval : Value → Option AV
  | .bool b => some (.b b)
  | .int k n => some (.i k n)
  | .string s => some (.s (s.data.toList.map UInt8.toNat))
  | .pointer none => some .np
  | .slice none 0 0 => some .nsl
  | .map none => some .nm
  | .nilFunc => some .nf
  | .nilIface => some .nif
  | .agg ⟨cs⟩ => (cvals cs).map .agg
  | .tuple ⟨cs⟩ => (cvals cs).map .tup
  | _ => none
def cvals : List Value → Option (List AV)
  | [] => some []
  | v :: l => match cval v, cvals l with
    | some a, some m => some (a :: m)
    | _, _ => none
end

def opdOf : Operand → Opd
  | .tmp t => .t (posOf t)
  | .const v => match cval v with
    | some a => .c a
    | none => .bad
  | .func f => .c (.f (posOf f) [] [])
  | .global _ => .bad

section
variable (P : Program)

def sizeT (t : TypeId) : Option Nat := (P.info? t).map (·.size)
def aggT (t : TypeId) : Bool := match P.underlying t with
  | some (.struct _) | some (.array _ _) => true
  | _ => false
def zeroA (t : TypeId) : Option AV := ((P.info? t).bind (·.zero)).bind cval
/-- What kind of key a plain type's values are. -/
def kindT (t : TypeId) : Option Nat := match P.underlying t with
  | some (.int _) => some 0
  | some .string => some 1
  | some .bool => some 2
  | _ => none
/-- The places of the plain cells of a type's values, in the order in which they are held against one another; off: where it begins. none: there are others. -/
def leavesT : Nat → TypeId → Nat → Option (List (Nat × Nat))
  | 0, _, _ => none
  | d + 1, t, off => match P.underlying t with
    | some (.int _) => if P.cellsOf t = 1 then some [(off, 0)] else none
    | some .string => if P.cellsOf t = 1 then some [(off, 1)] else none
    | some .bool => if P.cellsOf t = 1 then some [(off, 2)] else none
    | some (.struct fs) => if P.stoodInHeld t then none else inFs (leavesT d) (P.cellsOf t) off fs.toList
    | some (.array n e) => if (P.info? e).isNone ∨ P.cellsOf t < n * P.cellsOf e then none else inIs (leavesT d e) (P.cellsOf e) off (List.range n)
    | _ => none
where
  inFs (rec : TypeId → Nat → Option (List (Nat × Nat))) (z off : Nat) : List Field → Option (List (Nat × Nat))
    | [] => some []
    | f :: fs => if f.name = "_" ∨ (P.info? f.type).isNone ∨ z < f.offset + P.cellsOf f.type then none else match rec f.type (off + f.offset), inFs rec z off fs with
      | some m, some l => some (m ++ l)
      | _, _ => none
  inIs (rec : Nat → Option (List (Nat × Nat))) (z off : Nat) : List Nat → Option (List (Nat × Nat))
    | [] => some []
    | i :: is => match rec (off + i * z), inIs rec z off is with
      | some m, some l => some (m ++ l)
      | _, _ => none

def bad : OpK × List Operand := (.n .bad, [])
def placesOf (fs : Array Field) (parts : List (Nat × Operand)) : Option (List (Nat × Nat)) :=
  match fs.toList.mapM (fun f => (P.info? f.type).map fun i => (f.offset, i.size)) with
  | some places => pick places.toArray parts
  | none => none
where
  pick (places : Array (Nat × Nat)) : List (Nat × Operand) → Option (List (Nat × Nat))
    | [] => some []
    | p :: l => match places[p.1]?, pick places l with
      | some q, some m => some (q :: m)
      | _, _ => none

def compBin (op : BinOp) (t : TypeId) (x y : Operand) : OpK × List Operand :=
  match P.underlying t with
  | some (.int _) => match op with
    | .add | .sub | .mul | .quo | .rem | .and | .or | .xor | .andNot => (.n (.arith op), [x, y])
    | .shl | .shr => (.n (.shift op), [x, y])
    | .eql | .neq | .lss | .leq | .gtr | .geq => (.n (.cmp op), [x, y])
  | some .string => (.n (.str op), [x, y])
  | some .bool => match op with
    | .eql => (.n (.eqB false), [x, y])
    | .neq => (.n (.eqB true), [x, y])
    | _ => bad
  | some (.pointer e) => if (sizeT P e).getD 0 = 0 then bad else match op with
    | .eql => (.n (.eqP false), [x, y])
    | .neq => (.n (.eqP true), [x, y])
    | _ => bad
  | some (.slice _) => match op with
    | .eql => (.n (.eqN 0 false), [x, y])
    | .neq => (.n (.eqN 0 true), [x, y])
    | _ => bad
  | some (.map _ _) => match op with
    | .eql => (.n (.eqN 1 false), [x, y])
    | .neq => (.n (.eqN 1 true), [x, y])
    | _ => bad
  | some (.func _ _ _) => match op with
    | .eql => (.n (.eqN 2 false), [x, y])
    | .neq => (.n (.eqN 2 true), [x, y])
    | _ => bad
  | some (.struct _) | some (.array _ _) => if P.eqGuardType P.depth t then bad else match leavesT P 20 t 0 with
    | none => bad
    | some l => match op with
      | .eql => (.n (.eqA false l), [x, y])
      | .neq => (.n (.eqA true l), [x, y])
      | _ => bad
  | _ => bad

def compSlice (t : TypeId) (x : Operand) (lo hi mx : Option Operand) : OpK × List Operand :=
  let ops := [x] ++ lo.toList ++ hi.toList
  if mx.isSome then (match P.underlying t, lo, hi, mx with
    | some (.slice e), some l, some h, some m => match sizeT P e with
      | some n => (.n (.slL n true true true), [x, l, h, m])
      | none => bad
    | _, _, _, _ => bad) else
  match P.underlying t with
  | some .string => (.n (.slS lo.isSome hi.isSome), ops)
  | some (.slice e) => match sizeT P e with
    | some n => (.n (.slL n lo.isSome hi.isSome false), ops)
    | none => bad
  | some (.array n e) => match sizeT P e with
    | some z => (.n (.slA n z lo.isSome hi.isSome), ops)
    | none => bad
  | _ => bad

def zeroCellsA (e : TypeId) : Option (List AV) := (zeroA P e).map cellsOfAV

def compCall (c : Call) : OpK × List Operand :=
  match c.callee with
  | .value f => (.x .call, f :: c.args.toList)
  | .invoke _ _ => bad
  | .builtin b =>
    match b, c.args.toList, (c.argTypes[0]?).bind (P.underlying ·) with
    | .len, [x], some .string => (.n .lenS, [x])
    | .len, [x], some (.slice _) => (.n .lenL, [x])
    | .len, [x], some (.array n _) => (.n (.lenC n), [x])
    | .len, [x], some (.map _ _) => (.n .lenM, [x])
    | .cap, [x], some (.slice _) => (.n .capL, [x])
    | .min, [x, y], some (.int _) => (.n .min, [x, y])
    | .max, [x, y], some (.int _) => (.n .max, [x, y])
    | .append, [x, y], some (.slice e) => match (c.argTypes[1]?).bind (P.underlying ·) with
      | some (.int _) => bad
      | some _ => match sizeT P e, zeroCellsA P e, P.info? e with
        | some n, some z, some i => (.x (.append n z i.bytes), [x, y])
        | _, _, _ => bad
      | none => bad
    | .copy, [x, y], some (.slice e) => match sizeT P e with
      | some n => (.x (.copy n), [x, y])
      | none => bad
    | .delete, [x, y], some (.map k _) => match kindT P k with
      | some kk => (.x (.del kk), [x, y])
      | none => bad
    | .clear, [x], some (.slice e) => match sizeT P e, zeroCellsA P e with
      | some n, some z => (.x (.clear n z), [x])
      | _, _ => bad
    | _, _, _ => bad

def compOp (o : Op) : OpK × List Operand :=
  match o with
  | .move x | .assign x => (.n .mv, [x])
  | .pick c a b => (.n .pick, [c, a, b])
  | .alloc t => match zeroCellsA P t with
    | some c => (.m (.zero c), [])
    | none => bad
  | .box _ v => (.m .box, [v])
  | .build t parts => match zeroCellsA P t, P.underlying t with
    | some z, some (.struct fs) => match placesOf P fs parts.toList with
      | some ps => (.n (.build z ps), parts.toList.map (·.2))
      | none => bad
    | some z, some (.array _ e) => match sizeT P e with
      | some n => (.n (.build z (parts.toList.map fun p => (p.1 * n, n))), parts.toList.map (·.2))
      | none => bad
    | _, _ => bad
  | .buildSlice t len parts => match P.underlying t with
    | some (.slice e) => match sizeT P e, zeroCellsA P e with
      | some n, some z => if n = 0 ∨ z.length ≠ n ∨ 2 ^ 24 < len * n then bad else (.m (.bslice len n z (parts.toList.map fun p => (p.1 * n, n))), parts.toList.map (·.2))
      | _, _ => bad
    | _ => bad
  | .insert t m k v | .mapUpdate t m k v => match P.underlying t with
    | some (.map k' _) => (match kindT P k' with
      | some kk => (.x (.mapUp kk), [m, k, v])
      | none => bad)
    | _ => bad
  | .load t a => if aggT P t then (match sizeT P t with
    | some n => (.n (.ldn n), [a])
    | none => bad) else if (P.underlying t).isSome then (.n .ld1, [a]) else bad
  | .store t a v => match sizeT P t with
    | some n => (.x (.st n), [a, v])
    | none => bad
  | .nilCheck x => (.n .nilck, [x])
  | .binOp op t x y _ => compBin P op t x y
  | .unOp op _ x => match op with
    | .not => (.n .not, [x])
    | .neg => (.n .neg, [x])
    | _ => bad
  | .convert s d x => match P.underlying s, P.underlying d with
    | some (.int _), some (.int k) => (.n (.cv k), [x])
    | some .string, some .string => (.n .cvss, [x])
    | some (.slice e), some .string => (match P.underlying e with
      | some (.int .u8) => (.n .cvb2s, [x])
      | _ => bad)
    | some .string, some (.slice e) => (match P.underlying e with
      | some (.int .u8) => (.m .s2b, [x])
      | _ => bad)
    | some (.slice _), some (.slice e) => (match P.underlying e with
      | some (.int .u8) => if s = d then (.x .same, [x]) else bad
      | _ => bad)
    | _, _ => bad
  | .makeInterface t x => match P.underlying t with
    | some (.interface _) => bad
    | some _ => (.n (.mkI t), [x])
    | none => bad
  | .makeFunc (.func f) first captured => (.n (.mkF (posOf f) first.size), first.toList ++ captured.toList)
  | .makeMap _ none => (.m .map, [])
  | .makeSlice t l c => match P.underlying t with
    | some (.slice e) => match sizeT P e, zeroCellsA P e, P.info? e with
      | some n, some z, some i => if n = 0 ∨ z.length ≠ n then bad else (.m (.slice n z i.bytes), [l, c])
      | _, _, _ => bad
    | _ => bad
  | .slice t x lo hi mx => compSlice P t x lo hi mx
  | .fieldAddr t x f => match P.underlying t with
    | some (.struct fs) => match fs[f]? with
      | some fd => if (sizeT P fd.type).getD 0 = 0 then bad else (.n (.fa fd.offset), [x])
      | none => bad
    | _ => bad
  | .field t x f => match P.underlying t with
    | some (.struct fs) => match fs[f]? with
      | some fd => match sizeT P fd.type with
        | some n => if aggT P fd.type then (.n (.fldn fd.offset n), [x]) else if (P.underlying fd.type).isSome then (.n (.fld1 fd.offset), [x]) else bad
        | none => bad
      | none => bad
    | _ => bad
  | .indexAddr t x i => match P.underlying t with
    | some (.array n e) => match sizeT P e with
      | some z => (.n (.ixA n z), [x, i])
      | none => bad
    | some (.slice e) => match sizeT P e with
      | some z => (.n (.ixL z), [x, i])
      | none => bad
    | _ => bad
  | .index t x i => match P.underlying t with
    | some (.array n e) => if sizeT P e = some 1 ∧ aggT P e = false ∧ (P.underlying e).isSome then (.n (.ixV1 n), [x, i]) else if aggT P e then (match sizeT P e with
      | some z => (.n (.ixVn n z), [x, i])
      | none => bad) else bad
    | some .string => (.n .ixS, [x, i])
    | _ => bad
  | .lookup t x k ok => match P.underlying t with
    | some (.map k' e) => match kindT P k', zeroA P e with
      | some kk, some z => (.n (.look kk z ok), [x, k])
      | _, _ => bad
    | _ => bad
  | .range t x => match P.underlying t with
    | some .string => (.m .rngS, [x])
    | some (.map _ _) => (.m .rngM, [x])
    | _ => bad
  | .next it s => if s then bad else (.x .nextM, [it])
  | .entry it => (.n .entry, [it])
  | .typeAssert x _ a false => match P.underlying a with
    | some (.interface _) => bad
    | some _ => (.n (.tAss a), [x])
    | none => bad
  | .extract x i => (.n (.extr i), [x])
  | .call c => compCall P c
  | _ => bad

/-! ### Regions and code. -/

def compOper (ops : Array Oper) (pre : Array Nat) (o : Oper) (i : Nat) : AOp :=
  { dst := o.dst.map posOf
    k := (compOp P o.op).1
    args := (compOp P o.op).2.map opdOf
    guard := match o.guard with
      | none => none
      | some (j, w) => match (ops[j]?).bind (·.dst) with
        | some t => some (posOf t, w)
        | none => none
    pre := pre.getD i 0 }

/-- The temporaries fit; every guard is on an operation with a temporary. -/
def fitOper (N : Nat) (ops : Array Oper) (o : Oper) : Bool :=
  (match o.dst with | some d => decide (d < N) | none => true) &&
  (match o.guard with
   | none => true
   | some (j, _) => ((ops[j]?).bind (·.dst)).isSome)

def isAct : AOp → Bool
  | { k := .x _, .. } => true
  | _ => false

/-- What a region whose order is drawn must meet, to be walked in the order of its text. -/
def drawOk (ops : Array Oper) (os : List AOp) : Bool :=
  let z := os.zipIdx
  -- what an operation waits for stands ahead of it
  (ops.toList.zipIdx.all fun (o, i) => o.after.all fun e => !Region.binds .any e || decide (e.on < i)) &&
  -- no temporary is written twice
  (z.all fun (o, i) => z.all fun (q, j) => i == j || o.dst.isNone || !(decide (o.dst = q.dst))) &&
  -- what an operation looks at is written by one that it waits for, or by none
  (z.all fun (o, _) => z.all fun (q, j) => match q.dst with
    | none => true
    | some d => Nat.testBit o.pre j || (!(o.args.any fun a => match a with | .t p => decide (p = d) | _ => false) && (match o.guard with | some (p, _) => !decide (p = d) | none => true))) &&
  -- those that turn something stand in a row
  (z.all fun (o, i) => z.all fun (q, j) => !(isAct o && isAct q) || !decide (i < j) || Nat.testBit q.pre i) &&
  (os.all fun o => match o.k with | .m .rngM => false | _ => true) &&
  Region.noSelect ops

def compRegion (N : Nat) (ops : Array Oper) (draw : Bool) : ACode :=
  let pre := Region.before ops
  let os := ops.toList.zipIdx.map fun (o, i) => compOper P ops pre o i
  if ops.all (fitOper N ops) && (!draw || drawOk ops os) then .region os draw else .bad

def compCode (N : Nat) : Code → ACode
  | .skip | .label _ => .skip
  | .region _ ops draw => compRegion P N ops draw
  | .seq a b => .seq (compCode N a) (compCode N b)
  | .cond c a b => .cond (opdOf c) (compCode N a) (compCode N b)
  | .block id a => .block id (compCode N a)
  | .loop a => .loop (compCode N a)
  | .rangeFunc f ps as body => if ps.all (· < N) then .rangeFunc (opdOf f) (ps.toList.map posOf) (compCode N as) (compCode N body) else .bad
  | .exit id => .exit id
  | .scope a => .scope (compCode N a)
  | .ret => .ret
  | .goto _ | .refuse _ => .bad

def compRes : ResultVar → Option ARes
  | .tmp t => some (.tmp (posOf t))
  | .cell a t => if aggT P t then (sizeT P t).map fun n => .cell (posOf a) (some n) else if (P.underlying t).isSome then some (.cell (posOf a) none) else none

def rangePos (n : Nat) : List Pos := (List.range n).map posOf

def compFn (fn : Func) : Option AFnK :=
  match fn.body with
  | some c => match fn.results.toList.mapM (compRes P) with
    | some rs => if fn.params.size + fn.nfree ≤ fn.ntmps ∧ fn.name ≠ "runtime.NumGoroutine" then some (.go { body := compCode P fn.ntmps c, ps := rangePos (fn.params.size + fn.nfree), res := rs }) else none
    | none => none
  | none =>
    if fn.name = "internal/bytealg.IndexByteString" then some (.ext .indexByte)
    else if fn.name = "maps.clone" then some (.ext .mapsClone)
    else none
end

end Go.Proofs.YtdpglpjahbiemaaGreatDoor.Ev
