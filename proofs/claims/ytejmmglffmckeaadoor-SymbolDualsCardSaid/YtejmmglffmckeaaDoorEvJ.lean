/- The abstract machine itself. -/
import Derived.Test.YtejmmglffmckeaaDoorEvI
set_option linter.unusedSimpArgs false
set_option linter.unusedVariables false
namespace Go.QfEv

structure Env where
  ti : Tr TypeInfo
  fs : Tr Func
  ng : Nat
  lz : Nat → Nat → Nat → Nat → Bool
  noesc : Nat

def tget (T : Tr AV) (t : Nat) : AV := match T.get t with
  | some v => v
  | none => .tup []

def evo (ng : Nat) (T : Tr AV) : Operand → Option AV
  | .tmp t => some (tget T t)
  | .const v => ofVal v
  | .global g => bif Nat.blt g ng then some (.ptr g 0) else none
  | .func f => some (.fn f [])

abbrev CallF := Nat → List AV → Hs → Option (AV × Hs)

/- the operations that touch memory, and all others -/
inductive Kind where
  | quiet
  | make
  | act

def kindOf : Op → Kind
  | .alloc _ => .make
  | .box _ _ => .make
  | .buildSlice _ _ _ => .make
  | .makeSlice _ _ _ => .make
  | .store _ _ _ => .act
  | .call ⟨.builtin .append, _, _⟩ => .act
  | .call ⟨.builtin .copy, _, _⟩ => .act
  | .call ⟨.builtin .unsafeString, _, _⟩ => .act
  | .call ⟨.value _, _, _⟩ => .act
  | _ => .quiet

/- bytes -/
def bytesA : List AV → Option (List UInt8)
  | [] => some []
  | .int .u8 n :: l => match bytesA l with
    | none => none
    | some bs => bif decide (0 ≤ n) && decide (n < 256) then some (n.toNat.toUInt8 :: bs) else none
  | _ => none

/- a string over the bytes of a block, which is given up -/
def eStr (ti : Tr TypeInfo) (h : Tr Blk) (pt : Nat) (p n : AV) : Option (AV × Tr Blk) :=
  match n with
  | .int .i64 0 => match p with
    | .nilp => some (.str .empty, h)
    | .ptr _ _ => some (.str .empty, h)
    | _ => none
  | .int .i64 l => match p with
    | .ptr b 0 => match und ti pt with
      | some (.pointer e) => match szT ti e with
        | some 1 => match h.get b with
          | none => none
          | some k =>
            bif k.own && Nat.beq k.elem e && decide (0 < l) && decide (l ≤ 1000000000) && Nat.ble l.toNat k.cells.length then
              match bytesA (k.cells.take l.toNat) with
              | none => none
              | some bs => match h.set b none with
                | none => none
                | some h' => some (.str ⟨bs.toArray⟩, h')
            else none
        | _ => none
      | _ => none
    | _ => none
  | _ => none

def evAct (E : Env) (call : CallF) (ρ : Operand → Option AV) (op : Op) (H : Hs) : Option (AV × Hs) :=
  match op with
  | .store t x v => match ρ x with
    | none => none
    | some u => match ρ v with
      | none => none
      | some y => match eStore E.ti H.m t u y with
        | none => none
        | some m => some (.tup [], ⟨m, H.nx⟩)
  | .call ⟨.builtin .append, ⟨[s, x]⟩, ⟨[t0, t1]⟩⟩ => match ρ s with
    | none => none
    | some u => match ρ x with
      | none => none
      | some y => match eApp E.ti H.m H.nx t0 t1 u y with
        | none => none
        | some (v, m) => some (v, ⟨m, H.nx + 1⟩)
  | .call ⟨.builtin .copy, ⟨[d, x]⟩, ⟨t0 :: _⟩⟩ => match ρ d with
    | none => none
    | some u => match ρ x with
      | none => none
      | some y => match eCopy E.ti H.m t0 u y with
        | none => none
        | some (v, m) => some (v, ⟨m, H.nx⟩)
  | .call ⟨.builtin .unsafeString, ⟨[p, n]⟩, ⟨[pt, _]⟩⟩ => match ρ p with
    | none => none
    | some u => match ρ n with
      | none => none
      | some y => match eStr E.ti H.m pt u y with
        | none => none
        | some (v, m) => some (v, ⟨m, H.nx⟩)
  | .call ⟨.value f, ⟨args⟩, _⟩ => match ρ f with
    | some (.fn g caps) => match evs ρ args with
      | none => none
      | some vs => bif Nat.beq g E.noesc then (match vs, caps with | [v], [] => some (v, H) | _, _ => none) else call g (vs ++ caps) H
    | _ => none
  | _ => none

/- one operation, in the order of the text -/
def evOne (E : Env) (call : CallF) (ρ : Operand → Option AV) (op : Op) (ty : Nat) (H : Hs) : Option (AV × Hs) :=
  match kindOf op with
  | .quiet => match evQ E.ti E.lz H.m ρ op ty with
    | none => none
    | some v => some (v, H)
  | .make => match evA E.ti ρ op H.nx with
    | none => none
    | some k => match H.m.set H.nx (some k.blk) with
      | none => none
      | some m => some (k.v, ⟨m, H.nx + 1⟩)
  | .act => evAct E call ρ op H

def yieldA (ops : Array Oper) (N : Nat) (T : Tr AV) (j : Nat) : Option Bool :=
  match ops[j]? with
  | none => none
  | some o => match o.dst with
    | none => none
    | some d => bif Nat.blt d N then (match tget T d with | .bool b => some b | _ => none) else none

def wantedA (ops : Array Oper) (N : Nat) (T : Tr AV) (o : Oper) : Bool :=
  match o.guard with
  | none => true
  | some (j, want) => match yieldA ops N T j with
    | none => false
    | some b => bif want then b else !b

def putA (N : Nat) (T : Tr AV) (dst : Option Nat) (v : AV) : Option (Tr AV) :=
  match dst with
  | none => some T
  | some d => bif Nat.blt d N then T.set d (some v) else none

def evOps (E : Env) (call : CallF) (all : Array Oper) (N : Nat) : List Oper → Tr AV → Hs → Option (Tr AV × Hs)
  | [], T, H => some (T, H)
  | o :: l, T, H =>
    bif wantedA all N T o then
      match evOne E call (evo E.ng T) o.op o.type H with
      | none => none
      | some (v, H') => match putA N T o.dst v with
        | none => none
        | some T' => evOps E call all N l T' H'
    else
      match putA N T o.dst (.tup []) with
      | none => none
      | some T' => evOps E call all N l T' H

/- equality -/
mutual
def beqV : AV → AV → Bool
  | .bool a, .bool b => a == b
  | .int k a, .int k' b => decide (k = k') && decide (a = b)
  | .str a, .str b => decide (a = b)
  | .ptr a b, .ptr c d => Nat.beq a c && Nat.beq b d
  | .nilp, .nilp => true
  | .slc a b c d, .slc a' b' c' d' => Nat.beq a a' && Nat.beq b b' && Nat.beq c c' && Nat.beq d d'
  | .nils, .nils => true
  | .emp, .emp => true
  | .zer, .zer => true
  | .fn f vs, .fn g us => Nat.beq f g && beqVs vs us
  | .nilfn, .nilfn => true
  | .ifc t v, .ifc u x => Nat.beq t u && beqV v x
  | .nilif, .nilif => true
  | .agg vs, .agg us => beqVs vs us
  | .tup vs, .tup us => beqVs vs us
  | _, _ => false
def beqVs : List AV → List AV → Bool
  | [], [] => true
  | v :: vs, u :: us => beqV v u && beqVs vs us
  | _, _ => false
end

/- a region that draws its order -/
/- the operations that must come before each, as bits -/
def ancGo : List Oper → Nat → Tr Nat → Tr Nat
  | [], _, A => A
  | o :: l, i, A =>
    ancGo l (i + 1) (Tr.setF 40 A i (some (o.after.toList.foldl (fun s e => bif Region.binds .any e then s ||| (2 ^ e.on) ||| ((A.get e.on).getD 0) else s) 0)))

def ancs (ops : List Oper) : Tr Nat := ancGo ops 0 .nil

def ancBit (A : Tr Nat) (j i : Nat) : Bool := match A.get j with
  | none => false
  | some m => m.testBit i

/- op j (behind op i in the text) and op i: apart, or i must come before j and they write to different places -/
def pairOk (all : Array Oper) (A : Tr Nat) (oi : Oper) (i : Nat) (oj : Oper) (j : Nat) : Bool :=
  oi.apart all oj || (ancBit A j i && (match oi.dst, oj.dst with | some d, some e => !Nat.beq d e | _, _ => true))

def pairsGo (all : Array Oper) (A : Tr Nat) (oj : Oper) (j : Nat) : List Oper → Nat → Bool
  | [], _ => true
  | oi :: l, i => bif Nat.blt i j then pairOk all A oi i oj j && pairsGo all A oj j l (i + 1) else true

def orderGo (all : Array Oper) (ops : List Oper) (A : Tr Nat) : List Oper → Nat → Bool
  | [], _ => true
  | oj :: l, j => pairsGo all A oj j ops 0 && orderGo all ops A l (j + 1)

def noSelect : Op → Bool
  | .select _ _ => false
  | _ => true

/- edges lead back in the text; nothing selects -/
def edgesGo : List Oper → Nat → Bool
  | [], _ => true
  | o :: l, i => o.after.toList.all (fun e => !Region.binds .any e || Nat.blt e.on i) && noSelect o.op && edgesGo l (i + 1)

def orderOk (all : Array Oper) : Bool := Nat.blt all.size 1000 && edgesGo all.toList 0 && orderGo all all.toList (ancs all.toList) all.toList 0

/- whether a quiet operation looks into memory -/
def looksIn : Op → Bool
  | .load _ _ => true
  | .slice _ _ _ _ _ => true
  | .convert _ _ _ => true
  | _ => false

/- what has been read, by whom, and what was seen -/
structure Seen where
  i : Nat
  o : Oper
  T : Tr AV
  v : AV

structure DSt where
  T : Tr AV
  H : Hs
  /- the last act -/
  last : Option Nat
  /- blocks that no act has needed yet: by which operation, the name, the block -/
  pend : List (Nat × Nat × Blk)
  /- the heaps before each act, with the act -/
  hist : List (Nat × Tr Blk)
  seen : List Seen

def sameV (x : Option AV) (v : AV) : Bool := match x with
  | none => false
  | some u => beqV u v

/- the blocks of pend that op i needs are laid into the heap -/
def merge (A : Tr Nat) (i : Nat) : List (Nat × Nat × Blk) → Tr Blk → Option (Tr Blk × List (Nat × Nat × Blk))
  | [], m => some (m, [])
  | (j, n, k) :: l, m =>
    bif ancBit A i j then
      match m.set n (some k) with
      | none => none
      | some m' => merge A i l m'
    else
      match merge A i l m with
      | none => none
      | some (m', l') => some (m', (j, n, k) :: l')

/- all that is left of pend -/
def mergeAll : List (Nat × Nat × Blk) → Tr Blk → Option (Tr Blk)
  | [], m => some m
  | (_, n, k) :: l, m => match m.set n (some k) with
    | none => none
    | some m' => mergeAll l m'

/- the places that an operation looks at, and no other -/
def evoR (ng : Nat) (T : Tr AV) (ts : List Nat) : Operand → Option AV
  | .tmp t => bif ts.any (fun u => Nat.beq u t) then some (tget T t) else none
  | x => evo ng T x

/- op i sees v in every heap that may stand when it comes up, as far as the text has come -/
def seesBack (E : Env) (all : Array Oper) (A : Tr Nat) (i : Nat) (o : Oper) (T : Tr AV) (v : AV) : List (Nat × Tr Blk) → Bool
  | [] => true
  | (e, m) :: l => bif ancBit A i e then true else sameV (evQ E.ti E.lz m (evoR E.ng T (o.looksAt all)) o.op o.type) v && seesBack E all A i o T v l

/- behind act e: what was read before and need not have been: is it as it was -/
def seesOn (E : Env) (all : Array Oper) (A : Tr Nat) (e : Nat) (m : Tr Blk) : List Seen → Bool
  | [] => true
  | s :: l => (ancBit A e s.i || sameV (evQ E.ti E.lz m (evoR E.ng s.T (s.o.looksAt all)) s.o.op s.o.type) s.v) && seesOn E all A e m l

/- one operation of a region that draws its order -/
def dStep (E : Env) (call : CallF) (all : Array Oper) (A : Tr Nat) (N i0 : Nat) (o : Oper) (i : Nat) (s : DSt) : Option DSt :=
  bif wantedA all N s.T o then
    match kindOf o.op with
    | .quiet => match evQ E.ti E.lz s.H.m (evoR E.ng s.T (o.looksAt all)) o.op o.type with
      | none => none
      | some v => bif !looksIn o.op || seesBack E all A i o s.T v s.hist then
          match putA N s.T o.dst v with
          | none => none
          | some T' => some { s with T := T', seen := bif looksIn o.op then ⟨i, o, s.T, v⟩ :: s.seen else s.seen }
        else none
    | .make => match evA E.ti (evoR E.ng s.T (o.looksAt all)) o.op (i0 + i) with
      | none => none
      | some k => match putA N s.T o.dst k.v with
        | none => none
        | some T' => some { s with T := T', pend := (i, i0 + i, k.blk) :: s.pend }
    | .act =>
      bif (match s.last with | none => true | some e => ancBit A i e) then
        match merge A i s.pend s.H.m with
        | none => none
        | some (m, pend) => match evAct E call (evoR E.ng s.T (o.looksAt all)) o.op ⟨m, s.H.nx⟩ with
          | none => none
          | some (v, H') => bif seesOn E all A i H'.m s.seen then
              match putA N s.T o.dst v with
              | none => none
              | some T' => some { T := T', H := H', last := some i, pend := pend, hist := (i, s.H.m) :: s.hist, seen := s.seen }
            else none
      else none
  else
    match putA N s.T o.dst (.tup []) with
    | none => none
    | some T' => some { s with T := T' }

def evDrawGo (E : Env) (call : CallF) (all : Array Oper) (A : Tr Nat) (N i0 : Nat) : List Oper → Nat → DSt → Option DSt
  | [], _, s => some s
  | o :: l, i, s => match dStep E call all A N i0 o i s with
    | none => none
    | some s' => evDrawGo E call all A N i0 l (i + 1) s'

def evDraw (E : Env) (call : CallF) (all : Array Oper) (N : Nat) (T : Tr AV) (H : Hs) : Option (Tr AV × Hs) :=
  bif orderOk all then
    match evDrawGo E call all (ancs all.toList) N H.nx all.toList 0 ⟨T, ⟨H.m, H.nx + all.size⟩, none, [], [], []⟩ with
    | none => none
    | some s => match mergeAll s.pend s.H.m with
      | none => none
      | some m => some (s.T, ⟨m, s.H.nx⟩)
  else none

inductive AEx where
  | normal
  | exit (id : Nat)
  | ret

def evCode (E : Env) (call : CallF) (N : Nat) : Nat → Code → Tr AV → Hs → Option (AEx × Tr AV × Hs)
  | 0, _, _, _ => none
  | n + 1, c, T, H =>
    match c with
    | .skip => some (.normal, T, H)
    | .label _ => some (.normal, T, H)
    | .region _ ops false => match evOps E call ops N ops.toList T H with
      | none => none
      | some (T', H') => some (.normal, T', H')
    | .region _ ops true => match evDraw E call ops N T H with
      | none => none
      | some (T', H') => some (.normal, T', H')
    | .seq a b => match evCode E call N n a T H with
      | some (.normal, T', H') => evCode E call N n b T' H'
      | r => r
    | .cond x a b => match evo E.ng T x with
      | some (.bool true) => evCode E call N n a T H
      | some (.bool false) => evCode E call N n b T H
      | _ => none
    | .block id b => match evCode E call N n b T H with
      | some (.exit j, T', H') => bif Nat.beq j id then some (.normal, T', H') else some (.exit j, T', H')
      | r => r
    | .loop b => match evCode E call N n b T H with
      | some (.normal, T', H') => evCode E call N n (.loop b) T' H'
      | r => r
    | .scope b => evCode E call N n b T H
    | .exit id => some (.exit id, T, H)
    | .ret => some (.ret, T, H)
    | _ => none

def resA (ti : Tr TypeInfo) (T : Tr AV) (m : Tr Blk) : List ResultVar → Option (List AV)
  | [] => some []
  | .tmp t :: l => match resA ti T m l with
    | none => none
    | some vs => some (tget T t :: vs)
  | .cell a t :: l => match qLoad ti m t (tget T a) with
    | none => none
    | some v => match resA ti T m l with
      | none => none
      | some vs => some (v :: vs)

def tupA : List AV → AV
  | [v] => v
  | vs => .tup vs

def callF (E : Env) (orc : CallF) : Nat → CallF
  | 0 => fun _ _ _ => none
  | n + 1 => fun f args H =>
    match orc f args H with
    | some r => some r
    | none =>
      match E.fs.get f with
      | none => none
      | some fn => match fn.body with
        | none => none
        | some c => bif !Nat.blt args.length 1000 then none else match evCode E (callF E orc n) (Nat.max args.length fn.ntmps) 100000 c (Tr.ofList args) H with
          | some (.exit _, _, _) => none
          | some (_, T, H') => match resA E.ti T H'.m fn.results.toList with
            | none => none
            | some vs => some (tupA vs, H')
          | none => none

end Go.QfEv
