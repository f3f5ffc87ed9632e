/- The symbolic machine itself. -/
import Derived.Test.YtejmmglffmckeaaGreatDoorZW
set_option linter.unusedSimpArgs false
set_option linter.unusedVariables false
namespace Go.QfSy

structure Env where
  ti : Tr TypeInfo
  fs : Tr Func
  ng : Nat
  lz : Nat → Nat → Nat → Nat → Bool
  noesc : Nat
  conT : Nat
  sym : Bool

def evo (ng : Nat) (T : Tr AV) : Operand → Option AV
  | .tmp t => T.get t
  | .const v => ofVal v
  | .global g => bif Nat.blt g ng then some (.ptr g 0) else none
  | .func f => some (.fn f [])

abbrev CallF := Nat → List AV → Hs → Option (AV × Hs)

/- the operations that touch memory, and all others -/
inductive Kind where
  | quiet
  | make
  | act

def kindOf : Op → Kind
  | .alloc _ => .make
  | .box _ _ => .make
  | .buildSlice _ _ _ => .make
  | .makeSlice _ _ _ => .make
  | .store _ _ _ => .act
  | .call ⟨.builtin .append, _, _⟩ => .act
  | .call ⟨.builtin .copy, _, _⟩ => .act
  | .call ⟨.builtin .unsafeString, _, _⟩ => .act
  | .call ⟨.value _, _, _⟩ => .act
  | _ => .quiet

/- bytes -/
def bytesA : List AV → Option (List UInt8)
  | [] => some []
  | .int .u8 n :: l => match bytesA l with
    | none => none
    | some bs => bif decide (0 ≤ n) && decide (n < 256) then some (n.toNat.toUInt8 :: bs) else none
  | _ => none

/- a string over the bytes of a block, which is given up -/
def eStr (ti : Tr TypeInfo) (h : Tr Blk) (pt : Nat) (p n : AV) : Option (AV × Tr Blk) :=
  match n with
  | .int .i64 0 => match p with
    | .nilp => some (.str .empty, h)
    | .ptr _ _ => some (.str .empty, h)
    | _ => none
  | .int .i64 l => match p with
    | .ptr b 0 => match und ti pt with
      | some (.pointer e) => match szT ti e with
        | some 1 => match h.get b with
          | none => none
          | some k =>
            bif k.own && Nat.beq k.elem e && decide (0 < l) && decide (l ≤ 1000000000) && Nat.ble l.toNat k.cells.length then
              match bytesA (k.cells.take l.toNat) with
              | none => none
              | some bs => match h.set b none with
                | none => none
                | some h' => some (.str ⟨bs.toArray⟩, h')
            else none
        | _ => none
      | _ => none
    | _ => none
  | _ => none

/- append: to a list that may be open, or to a closed one -/
def eApp2 (E : Env) (t0 t1 : Nat) (u y : AV) (H : Hs) : Option (AV × Hs) :=
  match (match u with
    | .lo _ _ => sApp E.ti E.conT t0 t1 u y H
    | .z0 => sApp E.ti E.conT t0 t1 u y H
    | .nils => bif E.sym then sApp E.ti E.conT t0 t1 u y H else none
    | _ => none) with
  | some r => some r
  | none => match eApp E.ti H.m H.nx t0 t1 u y with
    | none => none
    | some (v, m) => some (v, { H with m := m, nx := H.nx + 1 })

/- a store: into a list that may be open, or into a closed block -/
def eStore2 (E : Env) (t : Nat) (u y : AV) (H : Hs) : Option Hs :=
  match u with
  | .lp _ _ _ _ => match sStore E.ti H.m t u y with
    | none => none
    | some (m, ms) => some { H with m := m, ms := ms ++ H.ms }
  | _ => match eStore E.ti H.m t u y with
    | none => none
    | some m => some { H with m := m }

def evAct (E : Env) (call : CallF) (ρ : Operand → Option AV) (op : Op) (H : Hs) : Option (AV × Hs) :=
  match op with
  | .store t x v => match ρ x with
    | none => none
    | some u => match ρ v with
      | none => none
      | some y => match eStore2 E t u y H with
        | none => none
        | some H' => some (.tup [], H')
  | .call ⟨.builtin .append, ⟨[s, x]⟩, ⟨[t0, t1]⟩⟩ => match ρ s with
    | none => none
    | some u => match ρ x with
      | none => none
      | some y => eApp2 E t0 t1 u y H
  | .call ⟨.builtin .copy, ⟨[d, x]⟩, ⟨t0 :: _⟩⟩ => match ρ d with
    | none => none
    | some u => match ρ x with
      | none => none
      | some y => match eCopy E.ti H.m t0 u y with
        | none => none
        | some (v, m) => some (v, { H with m := m })
  | .call ⟨.builtin .unsafeString, ⟨[p, n]⟩, ⟨[pt, _]⟩⟩ => match ρ p with
    | none => none
    | some u => match ρ n with
      | none => none
      | some y => match eStr E.ti H.m pt u y with
        | none => none
        | some (v, m) => some (v, { H with m := m })
  | .call ⟨.value f, ⟨args⟩, _⟩ => match ρ f with
    | some (.fn g caps) => match evs ρ args with
      | none => none
      | some vs => bif Nat.beq g E.noesc then (match vs, caps with | [v], [] => some (v, H) | _, _ => none) else call g (vs ++ caps) H
    | _ => none
  | _ => none

/- one operation, in the order of the text -/
def evOne (E : Env) (call : CallF) (ρ : Operand → Option AV) (op : Op) (ty : Nat) (H : Hs) : Option (AV × Hs) :=
  match kindOf op with
  | .quiet => match evS E.ti E.lz H.m ρ op ty with
    | none => none
    | some (v, ms) => some (v, H.must ms)
  | .make => match evA E.ti ρ op H.nx with
    | none => none
    | some k => match H.m.set H.nx (some k.blk) with
      | none => none
      | some m => some (k.v, { H with m := m, nx := H.nx + 1 })
  | .act => evAct E call ρ op H

def yieldA (ops : Array Oper) (N : Nat) (T : Tr AV) (j : Nat) : Option Bool :=
  match ops[j]? with
  | none => none
  | some o => match o.dst with
    | none => none
    | some d => bif Nat.blt d N then (match T.get d with | some (.bool b) => some b | some (.vbool b) => some b | _ => none) else none

def wantedA (ops : Array Oper) (N : Nat) (T : Tr AV) (o : Oper) : Bool :=
  match o.guard with
  | none => true
  | some (j, want) => match yieldA ops N T j with
    | none => false
    | some b => bif want then b else !b

/- whether what a guard tests is known -/
def knownG (ops : Array Oper) (T : Tr AV) (o : Oper) : Bool :=
  match o.guard with
  | none => true
  | some (j, _) => match ops[j]? with
    | none => true
    | some oj => match oj.dst with
      | none => true
      | some d => match T.get d with
        | none => false
        | some _ => true

/- whether a guard tests the place d -/
def isGuard (ops : Array Oper) (d : Nat) : Bool :=
  ops.toList.any fun o => match o.guard with
    | none => false
    | some (j, _) => match ops[j]? with
      | none => false
      | some oj => match oj.dst with
        | none => false
        | some d' => Nat.beq d d'

def guardsAt (ops : Array Oper) : Option Nat → Bool
  | none => false
  | some d => isGuard ops d

/- an open test that a guard will ask for is decided at once -/
def forceV (g : Bool) (v : AV) (tp : List Bool) : AV × List Bool × List Prop :=
  match v with
  | .vbool b => bif g then (match tp with
    | [] => (.bool true, [], [Dec b true])
    | d :: tp => (.bool d, tp, [Dec b d])) else (v, tp, [])
  | _ => (v, tp, [])

def putA (N : Nat) (T : Tr AV) (dst : Option Nat) (v : AV) : Option (Tr AV) :=
  match dst with
  | none => some T
  | some d => bif Nat.blt d N then T.set d (some v) else none

def evOps (E : Env) (call : CallF) (all : Array Oper) (N : Nat) : List Oper → Tr AV → Hs → Option (Tr AV × Hs)
  | [], T, H => some (T, H)
  | o :: l, T, H =>
    bif knownG all T o then
      bif wantedA all N T o then
        match evOne E call (evo E.ng T) o.op o.type H with
        | none => none
        | some (v, H') => match forceV (guardsAt all o.dst) v H'.tp with
          | (u, tp, ms) => match putA N T o.dst u with
            | none => none
            | some T' => evOps E call all N l T' { H' with tp := tp, ms := ms ++ H'.ms }
      else
        match putA N T o.dst (.tup []) with
        | none => none
        | some T' => evOps E call all N l T' H
    else none

/- equality -/
mutual
def beqV : AV → AV → Bool
  | .bool a, .bool b => a == b
  | .int k a, .int k' b => decide (k = k') && decide (a = b)
  | .str a, .str b => decide (a = b)
  | .ptr a b, .ptr c d => Nat.beq a c && Nat.beq b d
  | .nilp, .nilp => true
  | .slc a b c d, .slc a' b' c' d' => Nat.beq a a' && Nat.beq b b' && Nat.beq c c' && Nat.beq d d'
  | .nils, .nils => true
  | .emp, .emp => true
  | .zer, .zer => true
  | .fn f vs, .fn g us => Nat.beq f g && beqVs vs us
  | .nilfn, .nilfn => true
  | .ifc t v, .ifc u x => Nat.beq t u && beqV v x
  | .nilif, .nilif => true
  | .agg vs, .agg us => beqVs vs us
  | .tup vs, .tup us => beqVs vs us
  | .z0, .z0 => true
  | _, _ => false
def beqVs : List AV → List AV → Bool
  | [], [] => true
  | v :: vs, u :: us => beqV v u && beqVs vs us
  | _, _ => false
end

/- the same up to equations of open terms -/
mutual
def sameS : AV → AV → Option (List Prop)
  | .vint k a, .vint k' b => bif decide (k = k') then some [a = b] else none
  | .int k a, .vint k' b => bif decide (k = k') then some [a = b] else none
  | .vint k a, .int k' b => bif decide (k = k') then some [a = b] else none
  | .vbool a, .vbool b => some [a = b]
  | .vbool a, .bool b => some [a = b]
  | .bool a, .vbool b => some [a = b]
  | .vstr a, .vstr b => some [a = b]
  | .str a, .vstr b => some [a = b]
  | .ro n z r, .ro n' z' r' => bif Nat.beq z z' then some [n = n' ∧ r = r'] else none
  | .rp cs j, .rp cs' j' => bif Nat.beq j j' then some [cs = cs'] else none
  | .lo b n, .lo b' n' => bif Nat.beq b b' then some [n = n'] else none
  | .lp b i z j, .lp b' i' z' j' => bif Nat.beq b b' && Nat.beq z z' && Nat.beq j j' then some [i = i'] else none
  | .agg vs, .agg us => sameSs vs us
  | .tup vs, .tup us => sameSs vs us
  | .fn f vs, .fn g us => bif Nat.beq f g then sameSs vs us else none
  | x, y => bif beqV x y then some [] else none
def sameSs : List AV → List AV → Option (List Prop)
  | [], [] => some []
  | v :: vs, u :: us => match sameS v u with
    | none => none
    | some m1 => match sameSs vs us with
      | none => none
      | some m2 => some (m1 ++ m2)
  | _, _ => none
end

/- a region that draws its order -/
/- the operations that must come before each, as bits -/
def ancGo : List Oper → Nat → Tr Nat → Tr Nat
  | [], _, A => A
  | o :: l, i, A =>
    ancGo l (i + 1) (Tr.setF 40 A i (some (o.after.toList.foldl (fun s e => bif Region.binds .any e then s ||| (2 ^ e.on) ||| ((A.get e.on).getD 0) else s) 0)))

def ancs (ops : List Oper) : Tr Nat := ancGo ops 0 .nil

def ancBit (A : Tr Nat) (j i : Nat) : Bool := match A.get j with
  | none => false
  | some m => m.testBit i

/- op j (behind op i in the text) and op i: apart, or i must come before j and they write to different places -/
def pairOk (all : Array Oper) (A : Tr Nat) (oi : Oper) (i : Nat) (oj : Oper) (j : Nat) : Bool :=
  oi.apart all oj || (ancBit A j i && (match oi.dst, oj.dst with | some d, some e => !Nat.beq d e | _, _ => true))

def pairsGo (all : Array Oper) (A : Tr Nat) (oj : Oper) (j : Nat) : List Oper → Nat → Bool
  | [], _ => true
  | oi :: l, i => bif Nat.blt i j then pairOk all A oi i oj j && pairsGo all A oj j l (i + 1) else true

def orderGo (all : Array Oper) (ops : List Oper) (A : Tr Nat) : List Oper → Nat → Bool
  | [], _ => true
  | oj :: l, j => pairsGo all A oj j ops 0 && orderGo all ops A l (j + 1)

def noSelect : Op → Bool
  | .select _ _ => false
  | _ => true

/- edges lead back in the text; nothing selects -/
def edgesGo : List Oper → Nat → Bool
  | [], _ => true
  | o :: l, i => o.after.toList.all (fun e => !Region.binds .any e || Nat.blt e.on i) && noSelect o.op && edgesGo l (i + 1)

def orderOk (all : Array Oper) : Bool := Nat.blt all.size 1000 && edgesGo all.toList 0 && orderGo all all.toList (ancs all.toList) all.toList 0

/- whether a quiet operation looks into memory -/
def looksIn : Op → Bool
  | .load _ _ => true
  | .slice _ _ _ _ _ => true
  | .convert _ _ _ => true
  | _ => false

/- what has been read, by whom, and what was seen -/
structure Seen where
  i : Nat
  o : Oper
  T : Tr AV
  v : AV

/- the heap of a region that draws its order -/
structure Hm where
  m : Tr Blk
  nx : Nat

structure DSt where
  T : Tr AV
  H : Hm
  tp : List Bool
  ms : List Prop
  /- the last act -/
  last : Option Nat
  /- blocks that no act has needed yet: by which operation, the name, the block -/
  pend : List (Nat × Nat × Blk)
  /- the heaps before each act, with the act -/
  hist : List (Nat × Tr Blk)
  seen : List Seen

/- the blocks of pend that op i needs are laid into the heap -/
def merge (A : Tr Nat) (i : Nat) : List (Nat × Nat × Blk) → Tr Blk → Option (Tr Blk × List (Nat × Nat × Blk))
  | [], m => some (m, [])
  | (j, n, k) :: l, m =>
    bif ancBit A i j then
      match m.set n (some k) with
      | none => none
      | some m' => merge A i l m'
    else
      match merge A i l m with
      | none => none
      | some (m', l') => some (m', (j, n, k) :: l')

/- all that is left of pend -/
def mergeAll : List (Nat × Nat × Blk) → Tr Blk → Option (Tr Blk)
  | [], m => some m
  | (_, n, k) :: l, m => match m.set n (some k) with
    | none => none
    | some m' => mergeAll l m'

/- the places that an operation looks at, and no other -/
def evoR (ng : Nat) (T : Tr AV) (ts : List Nat) : Operand → Option AV
  | .tmp t => bif ts.any (fun u => Nat.beq u t) then T.get t else none
  | x => evo ng T x

/- what op o sees in a heap is v, if .. -/
def seesV (E : Env) (all : Array Oper) (o : Oper) (T : Tr AV) (v : AV) (m : Tr Blk) : Option (List Prop) :=
  match evS E.ti E.lz m (evoR E.ng T (o.looksAt all)) o.op o.type with
  | none => none
  | some (u, m1) => match sameS u v with
    | none => none
    | some m2 => some (m1 ++ m2)

/- op i sees v in every heap that may stand when it comes up, as far as the text has come -/
def seesBack (E : Env) (all : Array Oper) (A : Tr Nat) (i : Nat) (o : Oper) (T : Tr AV) (v : AV) : List (Nat × Tr Blk) → Option (List Prop)
  | [] => some []
  | (e, m) :: l => bif ancBit A i e then some [] else match seesV E all o T v m with
    | none => none
    | some m1 => match seesBack E all A i o T v l with
      | none => none
      | some m2 => some (m1 ++ m2)

/- behind act e: what was read before and need not have been: is it as it was -/
def seesOn (E : Env) (all : Array Oper) (A : Tr Nat) (e : Nat) (m : Tr Blk) : List Seen → Option (List Prop)
  | [] => some []
  | s :: l => match (bif ancBit A e s.i then some [] else seesV E all s.o s.T s.v m) with
    | none => none
    | some m1 => match seesOn E all A e m l with
      | none => none
      | some m2 => some (m1 ++ m2)

/- one operation of a region that draws its order -/
def dStep (E : Env) (call : CallF) (all : Array Oper) (A : Tr Nat) (N i0 : Nat) (o : Oper) (i : Nat) (s : DSt) : Option DSt :=
  bif knownG all s.T o then
    bif wantedA all N s.T o then
      match kindOf o.op with
      | .quiet => match evS E.ti E.lz s.H.m (evoR E.ng s.T (o.looksAt all)) o.op o.type with
        | none => none
        | some (v, m1) => match forceV (guardsAt all o.dst) v s.tp with
          | (u, tp, m2) => match (bif looksIn o.op then seesBack E all A i o s.T u s.hist else some []) with
            | none => none
            | some m3 => match putA N s.T o.dst u with
              | none => none
              | some T' => some { s with T := T', tp := tp, ms := m1 ++ m2 ++ m3 ++ s.ms, seen := bif looksIn o.op then ⟨i, o, s.T, u⟩ :: s.seen else s.seen }
      | .make => match evA E.ti (evoR E.ng s.T (o.looksAt all)) o.op (i0 + i) with
        | none => none
        | some k => match putA N s.T o.dst k.v with
          | none => none
          | some T' => some { s with T := T', pend := (i, i0 + i, k.blk) :: s.pend }
      | .act =>
        bif (match s.last with | none => true | some e => ancBit A i e) then
          match merge A i s.pend s.H.m with
          | none => none
          | some (m, pend) => match evAct E call (evoR E.ng s.T (o.looksAt all)) o.op ⟨m, s.H.nx, s.tp, s.ms⟩ with
            | none => none
            | some (v, H') => match forceV (guardsAt all o.dst) v H'.tp with
              | (u, tp, m2) => match seesOn E all A i H'.m s.seen with
                | none => none
                | some m3 => match putA N s.T o.dst u with
                  | none => none
                  | some T' => some { T := T', H := ⟨H'.m, H'.nx⟩, tp := tp, ms := m2 ++ m3 ++ H'.ms, last := some i, pend := pend, hist := (i, s.H.m) :: s.hist, seen := s.seen }
        else none
    else
      match putA N s.T o.dst (.tup []) with
      | none => none
      | some T' => some { s with T := T' }
  else none

def evDrawGo (E : Env) (call : CallF) (all : Array Oper) (A : Tr Nat) (N i0 : Nat) : List Oper → Nat → DSt → Option DSt
  | [], _, s => some s
  | o :: l, i, s => match dStep E call all A N i0 o i s with
    | none => none
    | some s' => evDrawGo E call all A N i0 l (i + 1) s'

def evDraw (E : Env) (call : CallF) (all : Array Oper) (N : Nat) (T : Tr AV) (H : Hs) : Option (Tr AV × Hs) :=
  bif orderOk all then
    match evDrawGo E call all (ancs all.toList) N H.nx all.toList 0 ⟨T, ⟨H.m, H.nx + all.size⟩, H.tp, H.ms, none, [], [], []⟩ with
    | none => none
    | some s => match mergeAll s.pend s.H.m with
      | none => none
      | some m => some (s.T, ⟨m, s.H.nx, s.tp, s.ms⟩)
  else none

inductive AEx where
  | normal
  | exit (id : Nat)
  | ret

/- a state, part by part -/
structure St where
  T : List (Nat × AV)
  m : List (Nat × Blk)
  nx : Nat

def trOf {α : Type} : List (Nat × α) → Tr α
  | [] => .nil
  | (i, v) :: l => (trOf l).setF 40 i (some v)

/- a loop, told: from a state that is at least pre, to post; which of two ends may hang on an open test -/
structure Ann where
  pre : St
  test : Option Bool
  post : Bool → AEx × St

def sameView : View → View → Option (List Prop)
  | .plain cs, .plain cs' => sameSs cs cs'
  | .con L, .con L' => some [L = L']
  | .ints k L, .ints k' L' => bif decide (k = k') then some [L = L'] else none
  | _, _ => none
def sameB (k k' : Blk) : Option (List Prop) :=
  bif Nat.beq k.elem k'.elem && Nat.beq k.sz k'.sz && (k.opn == k'.opn) && (k.own == k'.own) then
    (bif k'.own then sameView k.view k'.view else match k.view, k'.view with
      | .plain cs, .plain cs' => bif beqVs cs cs' then some [] else none
      | _, _ => none)
  else none
def subT (T : Tr AV) : List (Nat × AV) → Option (List Prop)
  | [] => some []
  | (t, v) :: l => match T.get t with
    | none => none
    | some u => match sameS u v with
      | none => none
      | some m1 => match subT T l with
        | none => none
        | some m2 => some (m1 ++ m2)
def subM (m : Tr Blk) : List (Nat × Blk) → Option (List Prop)
  | [] => some []
  | (b, k) :: l => match m.get b with
    | none => none
    | some k' => match sameB k' k with
      | none => none
      | some m1 => match subM m l with
        | none => none
        | some m2 => some (m1 ++ m2)

def okNames {α : Type} (l : List (Nat × α)) : Bool := l.all fun p => Nat.ble p.1 Tr.top

def Ann.run (A : Ann) (T : Tr AV) (H : Hs) : Option (AEx × Tr AV × Hs) :=
  bif Nat.ble H.nx A.pre.nx then
    match subT T A.pre.T with
    | none => none
    | some m1 => match subM H.m A.pre.m with
      | none => none
      | some m2 => match (match A.test with
          | none => (true, H)
          | some b => H.ask b) with
        | (d, H1) => match A.post d with
          | (e, S) => bif okNames S.T && okNames S.m && okNames A.pre.T && okNames A.pre.m then some (e, trOf S.T, ⟨trOf S.m, S.nx, H1.tp, m1 ++ m2 ++ H1.ms⟩) else none
  else none

/- the code at a place -/
def subC : List Nat → Code → Option Code
  | [], c => some c
  | 0 :: p, .seq a _ => subC p a
  | 1 :: p, .seq _ b => subC p b
  | 0 :: p, .cond _ a _ => subC p a
  | 1 :: p, .cond _ _ b => subC p b
  | 0 :: p, .block _ b => subC p b
  | 0 :: p, .loop b => subC p b
  | 0 :: p, .scope b => subC p b
  | _, _ => none

def beqL : List Nat → List Nat → Bool
  | [], [] => true
  | a :: l, b :: k => Nat.beq a b && beqL l k
  | _, _ => false

/- p: the place of the code in the body, backwards -/
def evCode (E : Env) (call : CallF) (lo : List Nat → Option Ann) (N : Nat) : Nat → List Nat → Code → Tr AV → Hs → Option (AEx × Tr AV × Hs)
  | 0, _, _, _, _ => none
  | n + 1, p, c, T, H =>
    match c with
    | .skip => some (.normal, T, H)
    | .label _ => some (.normal, T, H)
    | .region _ ops false => match evOps E call ops N ops.toList T H with
      | none => none
      | some (T', H') => some (.normal, T', H')
    | .region _ ops true => match evDraw E call ops N T H with
      | none => none
      | some (T', H') => some (.normal, T', H')
    | .seq a b => match evCode E call lo N n (0 :: p) a T H with
      | some (.normal, T', H') => evCode E call lo N n (1 :: p) b T' H'
      | r => r
    | .cond x a b => match evo E.ng T x with
      | some (.bool true) => evCode E call lo N n (0 :: p) a T H
      | some (.bool false) => evCode E call lo N n (1 :: p) b T H
      | some (.vbool u) => match H.ask u with
        | (true, H1) => evCode E call lo N n (0 :: p) a T H1
        | (false, H1) => evCode E call lo N n (1 :: p) b T H1
      | _ => none
    | .block id b => match evCode E call lo N n (0 :: p) b T H with
      | some (.exit j, T', H') => bif Nat.beq j id then some (.normal, T', H') else some (.exit j, T', H')
      | r => r
    | .loop b => match lo p with
      | some A => A.run T H
      | none => match evCode E call lo N n (0 :: p) b T H with
        | some (.normal, T', H') => evCode E call lo N n p (.loop b) T' H'
        | r => r
    | .scope b => evCode E call lo N n (0 :: p) b T H
    | .exit id => some (.exit id, T, H)
    | .ret => some (.ret, T, H)
    | _ => none

def resA (ti : Tr TypeInfo) (T : Tr AV) (m : Tr Blk) : List ResultVar → Option (List AV)
  | [] => some []
  | .tmp t :: l => match T.get t with
    | none => none
    | some v => match resA ti T m l with
      | none => none
      | some vs => some (v :: vs)
  | .cell a t :: l => match T.get a with
    | none => none
    | some x => match qLoad ti m t x with
      | none => none
      | some v => match resA ti T m l with
        | none => none
        | some vs => some (v :: vs)

def tupA : List AV → AV
  | [v] => v
  | vs => .tup vs

/- a call whose body is run -/
def bodyF (E : Env) (call : CallF) (lo : List Nat → Option Ann) (f : Nat) (args : List AV) (H : Hs) : Option (AV × Hs) :=
  match E.fs.get f with
  | none => none
  | some fn => match fn.body with
    | none => none
    | some c => bif !Nat.blt args.length 1000 then none else match evCode E call lo (Nat.max args.length fn.ntmps) 100000 [] c (Tr.ofList args) H with
      | some (.exit _, _, _) => none
      | some (_, T, H') => match resA E.ti T H'.m fn.results.toList with
        | none => none
        | some vs => some (tupA vs, H')
      | none => none

def noLo : List Nat → Option Ann := fun _ => none

def callF (E : Env) (orc : CallF) : Nat → CallF
  | 0 => fun _ _ _ => none
  | n + 1 => fun f args H =>
    match orc f args H with
    | some r => some r
    | none => bodyF E (callF E orc n) noLo f args H

end Go.QfSy
