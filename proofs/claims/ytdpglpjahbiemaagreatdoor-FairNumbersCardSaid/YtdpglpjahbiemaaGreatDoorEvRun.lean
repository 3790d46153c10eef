/- The evaluator: operations that turn something, regions, code, calls. No program. -/
import Derived.Test.YtdpglpjahbiemaaGreatDoorEvDef
namespace Go.Proofs.YtdpglpjahbiemaaGreatDoor.Ev
open Go

def oneA : AV → Bool
  | .agg _ | .tup _ => false
  | _ => true
def setO (s : St) (id : Pos) (o : AO) (k : St → Option (AV × St)) : Option (AV × St) := T.setK id (some o) s.h fun h => k { s with h := h }
def setKey (i : Nat) (k v : AV) : List (AV × AV × Nat) → List (AV × AV × Nat)
  | [] => []
  | e :: es => match i with
    | 0 => (k, v, e.2.2) :: es
    | i + 1 => e :: setKey i k v es
def delKey (i : Nat) : List (AV × AV × Nat) → List (AV × AV × Nat)
  | [] => []
  | e :: es => match i with
    | 0 => es
    | i + 1 => e :: delKey i es
def entK {β : Type} : List (AV × AV × Nat) → (List (AV × AV × Nat) → β) → β
  | [], k => k []
  | e :: es, k => e.1.normK fun a => e.2.1.normK fun v => natK e.2.2 fun n => entK es fun es => k ((a, v, n) :: es)
theorem entK_eq {β : Type} (l : List (AV × AV × Nat)) : ∀ (k : List (AV × AV × Nat) → β), entK l k = k l := by
  induction l with
  | nil => intro k; rfl
  | cons e l ih => intro k; simp only [entK, AV.normK_eq, natK_eq, ih]

/-- What a slice's or a text's first elements are, as cells. -/
def srcCells (h : T AO) (size n : Nat) : AV → Option (List AV)
  | .nsl => if Nat.beq n 0 then some [] else none
  | .es => if Nat.beq n 0 then some [] else none
  | .sl id o _ _ sz _ => if Nat.beq sz size then (match lcells h id with
    | some c => takeN c o (n * size)
    | none => none) else none
  | .s x => if Nat.beq size 1 && Nat.ble n x.length then some (byteCells (x.take n)) else none
  | _ => none
def srcLen : AV → Option Nat
  | .nsl => some 0
  | .es => some 0
  | .sl _ _ n _ _ _ => some n
  | .s x => some x.length
  | _ => none

/-- n elements more, with these cells. -/
def appRun (size : Nat) (zero : List AV) (bytes : Nat) (x : AV) (n : Nat) (new : List AV) (s : St) : Option (AV × St) :=
  if Nat.beq size 0 || !(Nat.blt bytes 1000000) || !(Nat.beq zero.length size) || !(Nat.beq new.length (n * size)) || !(new.all oneA) then none else
  match x with
  | .nsl => if !(Nat.blt n 1000000) then none else if Nat.beq n 0 then some (.nsl, s) else
    AV.normsK new fun new => T.setK s.nx (some (.cells new true)) s.h fun h => some (.sl s.nx 0 n n size false, { h := h, nx := s.nx.succ })
  | .sl id o m lo sz ex => if !(Nat.beq sz size) || !(Nat.blt (m + n) 1000000) then none else
    match T.get id s.h with
    | some (.cells c pl) =>
      if Nat.ble (m + n) lo then
        (if Nat.ble (o + (m + n) * size) c.length then AV.normsK (setAll c (o + m * size) new) fun c => setO s id (.cells c pl) fun s => some (.sl id o (m + n) lo sz ex, s) else none)
      else match takeN c o (m * size) with
        | some old => AV.normsK (old ++ new) fun cs =>
          if ex then T.setK s.nx (some (.cells cs true)) s.h fun h => some (.sl s.nx 0 (m + n) (m + n) size false, { h := h, nx := s.nx.succ })
          else T.setK id none s.h fun h => T.setK s.nx (some (.cells cs false)) h fun h => some (.sl s.nx 0 (m + n) (m + n) size false, { h := h, nx := s.nx.succ })
        | none => none
    | _ => none
  | _ => none

def xrun : XK → List AV → St → Option (AV × St)
  | .st n, [.p id o, v], s => match T.get id s.h with
    | some (.cells c pl) =>
      if Nat.beq (cellsOfAV v).length n && Nat.ble (o + n) c.length && (cellsOfAV v).all oneA then
        AV.normsK (setAll c o (cellsOfAV v)) fun c => setO s id (.cells c pl) fun s => some (.tup [], s)
      else none
    | _ => none
  | .mapUp kk, [.m id, k, v], s => match lmap s.h id with
    | some (es, clock) => if isKey kk k then (match findK k es 0 with
      | some (some (i, _)) => entK (setKey i k v es) fun es => setO s id (.map es clock) fun s => some (.tup [], s)
      | some none => entK (es ++ [(k, v, clock)]) fun es => natK (clock + 1) fun clock => setO s id (.map es clock) fun s => some (.tup [], s)
      | none => none) else none
    | none => none
  | .del kk, [.nm, k], s => if isKey kk k then some (.tup [], s) else none
  | .del kk, [.m id, k], s => match lmap s.h id with
    | some (es, clock) => if isKey kk k then (match findK k es 0 with
      | some (some (i, _)) => entK (delKey i es) fun es => setO s id (.map es clock) fun s => some (.tup [], s)
      | some none => setO s id (.map es clock) fun s => some (.tup [], s)
      | none => none) else none
    | none => none
  | .append size zero bytes, [x, y], s => match srcLen y with
    | some n => match srcCells s.h size n y with
      | some new => appRun size zero bytes x n new s
      | none => none
    | none => none
  | .appendZ size zero bytes, [x, .i _ l], s => if intLt l 0 then none else if Nat.blt l.toNat 1000000 then appRun size zero bytes x l.toNat (repl zero l.toNat) s else none
  | .copy size, [x, y], s => if Nat.beq size 0 then none else
    match srcLen x, srcLen y with
    | some m, some n => match srcCells s.h size (Nat.min n m) y with
      | some new => match x with
        | .nsl => some (.i .i64 (.ofNat 0), s)
        | .sl id o _ _ sz _ => if !(Nat.beq sz size) || !(new.all oneA) then none else
          match T.get id s.h with
          | some (.cells c pl) => if Nat.ble (o + new.length) c.length then AV.normsK (setAll c o new) fun c => setO s id (.cells c pl) fun s => some (.i .i64 (.ofNat (Nat.min n m)), s) else none
          | _ => none
        | _ => none
      | none => none
    | _, _ => none
  | .clear _ _, [.nsl], s => some (.tup [], s)
  | .clear size zero, [.sl id o len _ sz _], s => if Nat.beq len 0 then some (.tup [], s) else
    if !(Nat.beq sz size) || !(Nat.beq zero.length size) || !(zero.all oneA) then none else
    match T.get id s.h with
    | some (.cells c pl) => if Nat.ble (o + len * size) c.length then AV.normsK (setAll c o (repl zero len)) fun c => setO s id (.cells c pl) fun s => some (.tup [], s) else none
    | _ => none
  | .nextS, [.p id o], s => if !(Nat.beq o 0) then none else
    match T.get id s.h with
    | some (.strIter x pos) => match x[pos]? with
      | none => some (.tup [.b false], s)
      | some c => if Nat.blt c 128 then natK (pos + 1) fun q => setO s id (.strIter x q) fun s => some (.tup [.b true, .i .i64 (.ofNat pos), .i .i32 (.ofNat c)], s) else none
    | _ => none
  | .nextM, [.p id o], s => if !(Nat.beq o 0) then none else
    match T.get id s.h with
    | some (.mapIter m since seen last) => match lmap s.h m with
      | some (es, clock) => match es with
        | [] => some (.tup [.b false], s)
        | [e] => if seen.contains e.2.2 then (if Nat.blt e.2.2 last then some (.tup [.b false], s) else none)
          else if Nat.blt e.2.2 since && seen.isEmpty then setO s id (.mapIter m since [e.2.2] clock) fun s => some (.tup [.b true, e.1, e.2.1], s) else none
        | _ => none
      | none => none
    | _ => none
  | .same, [.sl id o len lo sz ex], s => match T.get id s.h with
    | some (.cells c _) => setO s id (.cells c false) fun s => some (.sl id o len lo sz ex, s)
    | _ => none
  | _, _, _ => none

/-! ### Calls and code. -/

inductive ARes where
  | tmp (p : Pos) | cell (p : Pos) (n : Option Nat)
inductive ExtK where
  | indexByte | mapsClone | noEscape
structure AFn where
  body : ACode
  ps : List Pos      -- where the arguments go
  res : List ARes
inductive AFnK where
  | go (f : AFn)
  | ext (e : ExtK)

structure Res where
  e : AExit
  v : AV
  t : T AV
  s : St
inductive Req where
  | code (c : ACode) (t : T AV) (ro : Option Pos)
  | fn (p : Pos) (args : List AV)
  | call (f : AV) (args : List AV)

def putT {β : Type} (t : T AV) (dst : Option Pos) (v : AV) (k : T AV → β) : β :=
  match dst with
  | none => k t
  | some p => AV.normK v fun v => T.setK p (some v) t k

/-- Is an operation wanted? none: it is not known. -/
def wantedA (t : T AV) : Option (Pos × Bool) → Option Bool
  | none => some true
  | some (p, w) => match T.get p t with
    | some (.b x) => some (bEq x w)
    | some _ => some false
    | none => none

def isCall : XK → Bool
  | .call => true
  | _ => false
/-- An operation that turns something. -/
def actRun (self : Req → St → Option Res) (k : XK) (args : List AV) (s : St) : Option (AV × St) :=
  match k, args with
  | .call, f :: l => match self (.call f l) s with
    | some r => some (r.v, r.s)
    | none => none
  | .call, [] => none
  | k, l => xrun k l s

def opsRun (self : Req → St → Option Res) : List AOp → T AV → St → Option (T AV × St)
  | [], t, s => some (t, s)
  | o :: l, t, s => match wantedA t o.guard with
    | none => none
    | some false => putT t o.dst (.tup []) fun t => opsRun self l t s
    | some true => match getAll t o.args with
      | none => none
      | some args => match o.k with
        | .n k => match nrun s.h k args with
          | some v => putT t o.dst v fun t => opsRun self l t s
          | none => none
        | .m k => match mrun s.h s.nx k args with
          | some (ob, v) => AOK ob fun ob => T.setK s.nx (some ob) s.h fun h => putT t o.dst v fun t => opsRun self l t { h := h, nx := s.nx.succ }
          | none => none
        | .x k => match actRun self k args s with
          | some (v, s) => putT t o.dst v fun t => opsRun self l t s
          | none => none
where
  AOK {β : Type} (o : AO) (k : AO → β) : β := match o with
    | .cells c pl => AV.normsK c fun c => k (.cells c pl)
    | .strIter s p => k (.strIter s p)
    | .mapIter m a b c => natK a fun a => natK c fun c => k (.mapIter m a b c)
    | .map es c => k (.map es c)
    | o => k o

/-! A region whose order is drawn. -/

/-- One that turned something: which, behind which others, what it gave, what it left. -/
structure AE where
  i : Nat
  pre : Nat
  k : XK
  args : List AV
  v : AV
  so : St
structure DS where
  i : Nat
  t : T AV
  s : St
  rid : Pos
  mks : List (Nat × Pos × AO)
  acts : List AE
  neu : List (Nat × Nat × NK × List AV × AV)

def insAll {β : Type} : List (Nat × Pos × AO) → T AO → (T AO → β) → β
  | [], h, k => k h
  | p :: l, h, k => T.setK p.2.1 (some p.2.2) h fun h => insAll l h k
/-- What was made and is there ahead of an operation that turns something, but was not ahead of an earlier one. -/
def newMk (mks : List (Nat × Pos × AO)) (pre : Nat) (acts : List AE) : List (Nat × Pos × AO) :=
  mks.filter fun p => Nat.testBit pre p.1 && acts.all fun a => !Nat.testBit a.pre p.1
def lastMk (mks : List (Nat × Pos × AO)) (acts : List AE) : List (Nat × Pos × AO) :=
  mks.filter fun p => acts.all fun a => !Nat.testBit a.pre p.1
def advMk : List AOp → Pos → Pos
  | [], p => p
  | o :: l, p => match o.k with
    | .m _ => advMk l p.succ
    | _ => advMk l p

def dgo (self : Req → St → Option Res) : List AOp → DS → Option DS
  | [], d => some d
  | o :: l, d => match wantedA d.t o.guard with
    | none => none
    | some false => putT d.t o.dst (.tup []) fun t => natK (d.i + 1) fun i => dgo self l { d with i := i, t := t }
    | some true => match getAll d.t o.args with
      | none => none
      | some args => match o.k with
        | .n k => match nrun d.s.h k args with
          | some v => putT d.t o.dst v fun t => natK (d.i + 1) fun i => dgo self l { d with i := i, t := t, neu := (d.i, o.pre, k, args, v) :: d.neu }
          | none => none
        | .m k => match mrun d.s.h d.rid k args with
          | some (ob, v) => opsRun.AOK ob fun ob => putT d.t o.dst v fun t => natK (d.i + 1) fun i =>
              dgo self l { d with i := i, t := t, rid := d.rid.succ, mks := (d.i, d.rid, ob) :: d.mks }
          | none => none
        | .x k =>
          insAll (newMk d.mks o.pre d.acts) d.s.h fun h =>
          match actRun self k args { d.s with h := h } with
          | some (v, s) => putT d.t o.dst v fun t => natK (d.i + 1) fun i =>
              dgo self l { d with i := i, t := t, s := s, acts := ⟨d.i, o.pre, k, args, v, s⟩ :: d.acts }
          | none => none

mutual
def avBeq : AV → AV → Bool
  | .b x, .b y => bEq x y
  | .i k n, .i k' m => kindEq k k' && intEq n m
  | .s x, .s y => eqS x y
  | .p a o, .p b q => decide (a = b) && Nat.beq o q
  | .np, .np => true
  | .sl a o n l z e, .sl b p m k y f => decide (a = b) && Nat.beq o p && Nat.beq n m && Nat.beq l k && Nat.beq z y && bEq e f
  | .nsl, .nsl => true
  | .es, .es => true
  | .m a, .m b => decide (a = b)
  | .nm, .nm => true
  | .f a x y, .f b u v => decide (a = b) && avBeqs x u && avBeqs y v
  | .y a, .y b => decide (a = b)
  | .nf, .nf => true
  | .ifc t x, .ifc u y => Nat.beq t u && avBeq x y
  | .nif, .nif => true
  | .agg x, .agg y => avBeqs x y
  | .tup x, .tup y => avBeqs x y
  | _, _ => false
def avBeqs : List AV → List AV → Bool
  | [], [] => true
  | a :: l, b :: m => avBeq a b && avBeqs l m
  | _, _ => false
end

/-- May an operation come up where these are done and these are not? -/
def inWin (i pre : Nat) (done rest : List AE) : Bool :=
  done.all (fun a => !Nat.testBit a.pre i) && rest.all (fun a => !Nat.testBit pre a.i)
def hOf (h : T AO) : List AE → T AO
  | [] => h
  | a :: _ => a.so.h
def chkN (h : T AO) (n : Nat × Nat × NK × List AV × AV) : List AE → List AE → Bool
  | [], rest => chk1 h n [] rest
  | a :: done, rest => chk1 h n (a :: done) rest && chkN h n done (a :: rest)
where
  chk1 (h : T AO) (n : Nat × Nat × NK × List AV × AV) (done rest : List AE) : Bool :=
    if inWin n.1 n.2.1 done rest then (match nrun (hOf h done) n.2.2.1 n.2.2.2.1 with | some v => avBeq v n.2.2.2.2 | none => false) else true
def chkAll (h : T AO) (d : DS) : Bool := d.acts.isEmpty || d.neu.all fun n => chkN h n d.acts []

def regRun (self : Req → St → Option Res) (ops : List AOp) (draw : Bool) (t : T AV) (s : St) : Option (T AV × St) :=
  if draw then
    match dgo self ops { i := 0, t := t, s := { s with nx := advMk ops s.nx }, rid := s.nx, mks := [], acts := [], neu := [] } with
    | some d => if chkAll s.h d then insAll (lastMk d.mks d.acts) d.s.h fun h => some (d.t, { d.s with h := h }) else none
    | none => none
  else opsRun self ops t s

def putArgs : List Pos → List AV → T AV → (T AV → Option Res) → Option Res
  | [], [], t, k => k t
  | p :: ps, v :: vs, t, k => T.setK p (some v) t fun t => putArgs ps vs t k
  | _, _, _, _ => none

def resOf (h : T AO) (t : T AV) : List ARes → Option (List AV)
  | [] => some []
  | r :: l => match (match r with
      | .tmp p => T.get p t
      | .cell p n => match T.get p t with
        | some (.p id o) => match lcells h id with
          | some c => match n with
            | none => c[o]?
            | some n => match takeN c o n with
              | some l => some (.agg l)
              | none => none
          | none => none
        | _ => none) with
    | some v => match resOf h t l with
      | some vs => some (v :: vs)
      | none => none
    | none => none
def resVal : List AV → AV
  | [v] => v
  | l => .tup l

def extRun (e : ExtK) (args : List AV) (s : St) : Option (AV × St) :=
  match e, args with
  | .indexByte, [.s x, .i .u8 (.ofNat c)] => if Nat.blt c 256 then some (.i .i64 (idx c x 0), s) else none
  | .mapsClone, [.ifc t (.m id)] => match lmap s.h id with
    | some (es, clock) => T.setK s.nx (some (.map es clock)) s.h fun h => some (.ifc t (.m s.nx), { h := h, nx := s.nx.succ })
    | none => none
  | _, _ => none
where
  idx (c : Nat) : List Nat → Nat → Int
    | [], _ => -1
    | b :: l, n => if Nat.beq b c then .ofNat n else idx c l (n + 1)

/-- Within a round the loop around is there. -/
def aroundOk (ro : Option Pos) (s : St) : Bool :=
  match ro with
  | none => true
  | some l => match T.get l s.h with
    | some (.loop ..) => true
    | _ => false

def step (tab : T AFnK) (self : Req → St → Option Res) : Req → St → Option Res
  | .code .skip t _, s => some ⟨.normal, .np, t, s⟩
  | .code (.scope a) t ro, s => self (.code a t ro) s
  | .code .bad _ _, _ => none
  | .code (.seq a b) t ro, s => match self (.code a t ro) s with
    | some r => match r.e with
      | .normal => self (.code b r.t ro) r.s
      | _ => some r
    | none => none
  | .code (.cond c a b) t ro, s => match c.get t with
    | some (.b true) => self (.code a t ro) s
    | some (.b false) => self (.code b t ro) s
    | _ => none
  | .code (.block id a) t ro, s => match self (.code a t ro) s with
    | some r => match r.e with
      | .exit id' => if Nat.beq id' id then some { r with e := .normal } else some r
      | _ => some r
    | none => none
  | .code (.loop a) t ro, s => match self (.code a t ro) s with
    | some r => match r.e with
      | .normal => self (.code (.loop a) r.t ro) r.s
      | _ => some r
    | none => none
  | .code (.exit id) t _, s => some ⟨.exit id, .np, t, s⟩
  | .code .ret t _, s => some ⟨.ret, .np, t, s⟩
  | .code (.region ops draw) t _, s => match regRun self ops draw t s with
    | some (t, s) => some ⟨.normal, .np, t, s⟩
    | none => none
  | .code (.rangeFunc f ps as body) t ro, s => match f.get t with
    | some (.f fn fs cs) => if aroundOk ro s then
      T.setK s.nx (some (.loop .ready .normal t ps as body)) s.h fun h =>
      match self (.fn fn (fs ++ ([.y s.nx] ++ cs))) { h := h, nx := s.nx.succ } with
      | some r => match T.get s.nx r.s.h with
        | some (.loop st pend _ _ _ _) => match st with
          | .busy => none
          | _ => T.setK s.nx none r.s.h fun h => some ⟨pend, .np, t, { r.s with h := h }⟩
        | _ => none
      | none => none
      else none
    | _ => none
  | .fn p args, s => match T.get p tab with
    | some (.go f) => putArgs f.ps args .l fun t => match self (.code f.body t none) s with
        | some r => match r.e with
          | .exit _ => none
          | _ => match resOf r.s.h r.t f.res with
            | some vs => some ⟨.normal, resVal vs, .l, r.s⟩
            | none => none
        | none => none
    | _ => none
  | .call (.f fn fs cs) args, s => match T.get fn tab with
    | some (.go _) => self (.fn fn (fs ++ (args ++ cs))) s
    | some (.ext e) => match extRun e (fs ++ (args ++ cs)) s with
      | some (v, s) => some ⟨.normal, v, .l, s⟩
      | none => none
    | none => none
  | .call (.y l) args, s => match T.get l s.h with
    | some (.loop .ready _ t ps as body) => putArgs ps args t fun t' => match self (.code as t' (some l)) s with
        | some r => match r.e with
          | .normal => match T.get l r.s.h with
            | some (.loop .ready _ t1 ps1 as1 body1) =>
              T.setK l (some (.loop .busy .normal t1 ps1 as1 body1)) r.s.h fun h =>
              match self (.code body r.t (some l)) { r.s with h := h } with
              | some q => match T.get l q.s.h with
                | some (.loop _ _ t2 ps2 as2 body2) => match q.e with
                  | .normal => T.setK l (some (.loop .ready .normal t2 ps2 as2 body2)) q.s.h fun h => some ⟨.normal, .b true, .l, { q.s with h := h }⟩
                  | e => T.setK l (some (.loop .done e t2 ps2 as2 body2)) q.s.h fun h => some ⟨.normal, .b false, .l, { q.s with h := h }⟩
                | _ => none
              | none => none
            | _ => none
          | _ => none
        | none => none
    | _ => none
  | .call _ _, _ => none

def run (tab : T AFnK) : Nat → Req → St → Option Res
  | 0 => fun _ _ => none
  | n + 1 => step tab (run tab n)

end Go.Proofs.YtdpglpjahbiemaaGreatDoor.Ev
