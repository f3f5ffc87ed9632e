/- Stores, append and copy. -/
import Derived.Test.YtejmmglffmckeaaGreatDoorZG
set_option linter.unusedSimpArgs false
set_option linter.unusedVariables false
namespace Go.QfSy

/- the abstract heap, with the first name that is free -/
structure Hs where
  m : Tr Blk
  nx : Nat
  /- decisions on open tests, in order; what was decided and what must hold -/
  tp : List Bool
  ms : List Prop

def putAt (k : Blk) (o : Nat) (vs : List AV) : Blk := { k with view := .plain (k.cells.take o ++ vs ++ k.cells.drop (o + vs.length)) }

def storeN (h : Tr Blk) (b o : Nat) (vs : List AV) : Option (Tr Blk) :=
  match h.get b with
  | none => none
  | some k => bif k.own && vs.all AV.one && Nat.ble (o + vs.length) k.cells.length then h.set b (some (putAt k o vs)) else none

theorem get_set_upd {α : Type} {t t' : Tr α} {n : Nat} {v : Option α} (h : t.set n v = some t') : t'.get = upd t.get n v := by
  funext m
  rw [Tr.get_set h m]
  rfl

theorem storeN_ok {γ : Gm} {h h' : Tr Blk} {nx : Nat} {w : World} (hr : HRel γ h.get nx w) {b B x o : Nat} (hg : γ b = some (B, x)) {vs : List AV} {Vs : List Value} (hv : VsRel γ vs Vs) (hq : storeN h b o vs = some h') (P : Program) :
    ∃ w', (storeCells ⟨B, o, none⟩ Vs).run P w = .ok () w' ∧ Stp γ h.get w γ h'.get nx w' := by
  unfold storeN at hq
  cases hk : h.get b with
  | none => simp [hk] at hq
  | some k =>
    simp only [hk] at hq
    cases hb : (k.own && vs.all AV.one && Nat.ble (o + vs.length) k.cells.length) with
    | false => simp [hb] at hq
    | true =>
      simp only [hb, cond_true] at hq
      obtain ⟨b1, b2⟩ := and_split hb
      obtain ⟨b0, b1⟩ := and_split b1
      obtain ⟨w', h1, h2⟩ := hr.store hk b0 hg o hv b1 (Nat.le_of_ble_eq_true b2) P
      refine ⟨w', h1, ?_⟩
      rw [get_set_upd hq]
      exact h2

def eStore (ti : Tr TypeInfo) (h : Tr Blk) (t : Nat) (x v : AV) : Option (Tr Blk) :=
  match x with
  | .ptr b o => match szT ti t with
    | none => none
    | some n => bif Nat.beq v.cells.length n then storeN h b o v.cells else none
  | _ => none

theorem eStore_ok {P : Program} {ti : Tr TypeInfo} (ht : TabOk P ti) {γ : Gm} {h h' : Tr Blk} {nx : Nat} {w : World} (hr : HRel γ h.get nx w) {t : Nat} {x v : AV} {X V : Value} (hx : VRel γ x X) (hv : VRel γ v V) (hq : eStore ti h t x v = some h') :
    ∃ w', (Instr.storeAt t X V).run P w = .ok () w' ∧ Stp γ h.get w γ h'.get nx w' := by
  unfold eStore at hq
  split at hq
  · rename_i b o
    cases hx with
    | ptr _ hg =>
      split at hq
      · cases hq
      · rename_i n hn
        cases hb : Nat.beq v.cells.length n with
        | false => simp [hb] at hq
        | true =>
          simp only [hb, cond_true] at hq
          have hc := hv.cells
          have hl := hc.length
          obtain ⟨w', h1, h2⟩ := storeN_ok hr hg hc hq P
          refine ⟨w', ?_, h2⟩
          have hsz : V.cells.size = n := by rw [← beq_eq hb, ← hl]; simp
          simp [Instr.storeAt, Instr.sureAddr, storeVar, run_sizeOf ht hn, hsz, h1]
  · cases hq

/- append, in parts -/
def srcZ (ts : Array TypeId) : Sem Bool :=
  match ts[1]? with
  | some xType => do pure ((← underlying xType) matches .int _)
  | none => pure false

def srcN (elem : TypeId) (zeros : Bool) (x : Value) : Sem Nat :=
  if zeros then do
      let l := IntKind.i64.wrap (← asInt x)
      if l < 0 then runtimePanic (.error "makeslice: len out of range")
      if l * (← typeInfo elem).bytes > 2 ^ 48 then
        let made ← choose (.extern "append.ofMake.carriedOut" 2)
        runtimePanic (.error (if made == 1 then "makeslice: len out of range" else "growslice: len out of range"))
      pure l.toNat
    else Builtin.lenOf x

def srcA (size : Nat) (elem : TypeId) (zeros : Bool) (n : Nat) (x : Value) : Sem (Array Value) :=
    if !zeros then Builtin.firstCells size n x
    else if n * size = 0 then pure #[]
    else do pure (Builtin.zeroCells (← zeroValue elem).cells n)

def append2 (argTypes : Array TypeId) (args : Array Value) : Sem Value := do
  let (some sType, some s, some x) := (argTypes[0]?, args[0]?, args[1]?) | stuck "append: two arguments expected"
  let .slice elem ← underlying sType | stuck "append: slice type expected"
  let .slice base sLen sCap := s | stuck "append: slice expected"
  let size ← sizeOf elem
  let zeros ← srcZ argTypes
  let n ← srcN elem zeros x
  let appended : Sem (Array Value) := srcA size elem zeros n x
  let need := sLen + n
  if need ≤ sCap then
    let new ← appended
    if let some a := base then storeCells (a.add (sLen * size)) new.toList
    pure (.slice base need sCap)
  else
    if (need : Int) > IntKind.i64.max ∧ (zeros ∨ (← typeInfo elem).bytes = 0) then runtimePanic (.error "growslice: len out of range")
    if Builtin.nextslicecap need sCap * (← typeInfo elem).bytes > 2 ^ 48 then (if zeros then runtimePanic (.error "growslice: len out of range") else do
      if !(← Builtin.mayShare size sLen n base x) then mark .noRoom
      unsupported (.resourceLimit "append: a slice or a string whose bytes no memory bears"))
    let newCap ← choose (.appendCap need sCap elem)
    askRoom (newCap * (← typeInfo elem).bytes)
    let old ← Builtin.firstCells size sLen s
    let new ← appended
    let rest := Builtin.zeroCells (← zeroValue elem).cells (newCap - need)
    pure (.slice (some (← newRow elem (old ++ new ++ rest))) need newCap)

theorem srcN_bind (elem : TypeId) (x : Value) (K : Nat → Sem Value) : (srcN elem true x >>= K) = (do
    let a ← asInt x
    if IntKind.i64.wrap a < 0 then
      runtimePanic (.error "makeslice: len out of range")
    if IntKind.i64.wrap a * (← typeInfo elem).bytes > 2 ^ 48 then
      let made ← choose (.extern "append.ofMake.carriedOut" 2)
      runtimePanic (.error (if made == 1 then "makeslice: len out of range" else "growslice: len out of range"))
    K (IntKind.i64.wrap a).toNat) := by
  unfold srcN
  simp only [if_true, bind_assoc]
  congr 1
  funext a
  by_cases h1 : IntKind.i64.wrap a < 0
  · simp only [h1, if_true, bind_assoc]
    congr 1
    funext _
    congr 1
    funext ii
    by_cases h2 : IntKind.i64.wrap a * ii.bytes > 2 ^ 48
    · simp only [h2, if_true, bind_assoc, pure_bind]
    · simp only [h2, if_false, pure_bind]
  · simp only [h1, if_false, bind_assoc]
    congr 1
    funext ii
    by_cases h2 : IntKind.i64.wrap a * ii.bytes > 2 ^ 48
    · simp only [h2, if_true, bind_assoc, pure_bind]
    · simp only [h2, if_false, pure_bind]

theorem append2_eq (ts : Array TypeId) (ty : TypeId) (args : Array Value) : Builtin.append_ ts ty args = append2 ts args := by
  unfold Builtin.append_ append2 srcZ srcN srcA
  cases ts[0]? <;> cases args[0]? <;> cases args[1]? <;> try rfl
  rename_i sType s x
  simp only []
  congr 1
  funext d
  cases d <;> try rfl
  rename_i elem
  cases s <;> try rfl
  rename_i base sLen sCap
  simp only []
  congr 1
  funext size
  cases ts[1]? with
  | none => simp only [pure_bind, Bool.false_eq_true, if_false]; rfl
  | some xType =>
    simp only [bind_assoc, pure_bind]
    congr 1
    funext u
    cases u <;> try rfl
    symm
    refine (srcN_bind elem x _).trans ?_
    rfl

section
variable {P : Program} (w : World)

theorem run_append2_room {t0 e size n sLen sCap : Nat} {i : TypeInfo} {ts : Array TypeId} {args : Array Value} {base : Option Addr} {x : Value} {zeros : Bool} {news : List Value}
    (ht0 : ts[0]? = some t0) (ha0 : args[0]? = some (.slice base sLen sCap)) (ha1 : args[1]? = some x) (hu : P.underlying t0 = some (.slice e)) (hi : P.info? e = some i) (hs : i.size = size)
    (hz : (srcZ ts).run P w = .ok zeros w) (hn : (srcN e zeros x).run P w = .ok n w) (ha : (srcA size e zeros n x).run P w = .ok news.toArray w) (hroom : sLen + n ≤ sCap) :
    (append2 ts args).run P w = (match base with
      | some a => ((storeCells (a.add (sLen * size)) news).run P w).andThen fun _ w' => .ok (.slice base (sLen + n) sCap) w'
      | none => .ok (.slice base (sLen + n) sCap) w) := by
  unfold append2
  simp only [ht0, ha0, ha1, Sem.run_bind, run_underlying hu, Result.andThen_ok, sizeOf, typeInfo, run_program, hi, hs, Sem.run_pure, hz, hn, Sem.run_ite, hroom, if_true, ha]
  cases base <;> simp

theorem run_append2_grow {t0 e size n sLen sCap : Nat} {i : TypeInfo} {z : Value} {ts : Array TypeId} {args : Array Value} {base : Option Addr} {x : Value} {zeros : Bool} {olds news : List Value}
    (ht0 : ts[0]? = some t0) (ha0 : args[0]? = some (.slice base sLen sCap)) (ha1 : args[1]? = some x) (hu : P.underlying t0 = some (.slice e)) (hi : P.info? e = some i) (hs : i.size = size) (hz0 : i.zero = some z)
    (hz : (srcZ ts).run P w = .ok zeros w) (hn : (srcN e zeros x).run P w = .ok n w) (ha : (srcA size e zeros n x).run P w.drew = .ok news.toArray w.drew) (ho : (Builtin.firstCells size sLen (.slice base sLen sCap)).run P w.drew = .ok olds.toArray w.drew)
    (hroom : sCap < sLen + n) (h63 : sLen + n ≤ 9223372036854775807) (hb : (sLen + n) * i.bytes ≤ 140737488355328) :
    (append2 ts args).run P w = .ok (.slice (some ⟨w.heap.size, 0, none⟩) (sLen + n) (grownCap w (sLen + n) sCap e))
        (w.drew.alloc (.cells (olds.toArray ++ news.toArray ++ Builtin.zeroCells z.cells (grownCap w (sLen + n) sCap e - (sLen + n))) e)) := by
  have h1 : ¬ (sLen + n ≤ sCap) := by omega
  have h2 : ¬ (((sLen + n : Nat) : Int) > IntKind.i64.max) := by rw [IntKind.max_i64]; omega
  have h3 : ¬ (Builtin.nextslicecap (sLen + n) sCap * i.bytes > 2 ^ 48) := by have := growslice_fits hroom hb; omega
  unfold append2
  simp only [ht0, ha0, ha1, Sem.run_bind, run_underlying hu, Result.andThen_ok, sizeOf, typeInfo, run_program, hi, hs, Sem.run_pure, hz, hn, Sem.run_ite, h1, if_false, h2, h3, false_and, run_choose, Question.forced, Bool.false_eq_true, World.drew_eq, run_askRoom, zeroValue, hz0, ha, ho, newRow, run_newObj, World.alloc_eq]
  rfl
end

/- what is appended -/
def srcV (ti : Tr TypeInfo) (h : Tr Blk) (e z : Nat) (t : Nat) (x : AV) : Option (Nat × List AV) :=
  match und ti t with
  | some (.slice _) => match x with
    | .slc b o n _ => match h.get b with
      | none => none
      | some k => bif Nat.ble (o + n * z) k.cells.length then some (n, (k.cells.drop o).take (n * z)) else none
    | .nils => some (0, [])
    | .emp => some (0, [])
    | .zer => some (0, [])
    | _ => none
  | some .string => match x with
    | .str s => bif Nat.beq z 1 then some (s.size, s.data.toList.map fun b => .int .u8 b.toNat) else none
    | _ => none
  | some (.int _) => match x with
    | .int _ l => match bytesT ti e, zeroA ti e with
      | some by_, some zs => bif decide (0 ≤ l) && decide (l ≤ 1000000) && decide (l * by_ ≤ 281474976710656) && !zs.isEmpty && Nat.beq zs.length z then some (l.toNat, cyc zs (l.toNat * z)) else none
      | _, _ => none
    | _ => none
  | _ => none

theorem map_bytes (γ : Gm) (l : List UInt8) : VsRel γ (l.map fun b => .int .u8 b.toNat) (l.map fun b => Value.int .u8 b.toNat) := by
  induction l with
  | nil => exact .nil
  | cons b l ih => exact .cons (.int _ _) ih

theorem srcV_ok {P : Program} {ti : Tr TypeInfo} (ht : TabOk P ti) {γ : Gm} {h : Tr Blk} {nx : Nat} {w : World} (hr : HRel γ h.get nx w) {e z t : Nat} (hz : szT ti e = some z) {x : AV} {X : Value} (hx : VRel γ x X) {n : Nat} {vs : List AV} (hq : srcV ti h e z t x = some (n, vs))
    {ts : Array TypeId} (ht1 : ts[1]? = some t) :
    ∃ zeros news, (srcZ ts).run P w = .ok zeros w ∧ (srcN e zeros X).run P w = .ok n w ∧ (∀ w', w'.heap = w.heap → (srcA z e zeros n X).run P w' = .ok news.toArray w') ∧ VsRel γ vs news ∧ news.length = n * z := by
  unfold srcV at hq
  split at hq
  · rename_i e' hd
    have hZ : (srcZ ts).run P w = .ok false w := by simp [srcZ, ht1, run_und ht hd]
    refine ⟨false, ?_⟩
    split at hq
    · rename_i b o m c
      cases hx with
      | slc _ _ _ hg =>
        split at hq
        · cases hq
        · rename_i k hk
          cases hb : Nat.ble (o + m * z) k.cells.length with
          | false => simp [hb] at hq
          | true =>
            simp only [hb, cond_true, Option.some.injEq, Prod.mk.injEq] at hq
            obtain ⟨rfl, rfl⟩ := hq
            obtain ⟨Vs, g1, g2, g3⟩ := hr.load hk hg o (m * z) (Nat.le_of_ble_eq_true hb)
            refine ⟨Vs, hZ, by simp [srcN, Builtin.lenOf], fun w' hw' => ?_, g1, g2⟩
            simp only [srcA, Bool.not_false, if_true]
            refine run_firstCells_some (P := P) w' z m _ _ _ Vs g2 (fun j v hv => ?_)
            have := g3 j v hv
            simpa [World.cell?, hw'] using this
    · cases hq; cases hx; exact ⟨[], hZ, by simp [srcN, Builtin.lenOf], fun w' _ => by simp [srcA, Builtin.firstCells], .nil, by simp⟩
    · cases hq
      cases hx
      rename_i a c
      refine ⟨[], hZ, by simp [srcN, Builtin.lenOf], fun w' _ => ?_, .nil, by simp⟩
      cases a <;> simp [srcA, Builtin.firstCells, loadCells, loadCellsFrom]
    · cases hq; cases hx; exact ⟨[], hZ, by simp [srcN, Builtin.lenOf], fun w' _ => by simp [srcA, Builtin.firstCells, loadCells, loadCellsFrom], .nil, by simp⟩
    · cases hq
  · rename_i hd
    have hZ : (srcZ ts).run P w = .ok false w := by simp [srcZ, ht1, run_und ht hd]
    refine ⟨false, ?_⟩
    split at hq
    · rename_i s
      cases hx
      cases hb : Nat.beq z 1 with
      | false => simp [hb] at hq
      | true =>
        simp only [hb, cond_true, Option.some.injEq, Prod.mk.injEq] at hq
        obtain ⟨rfl, rfl⟩ := hq
        refine ⟨s.data.toList.map fun b => Value.int .u8 b.toNat, hZ, by simp [srcN, Builtin.lenOf], fun w' _ => ?_, map_bytes γ _, by rw [beq_eq hb]; simp⟩
        simp only [srcA, Bool.not_false, if_true, Builtin.firstCells, Sem.run_pure]
        congr 1
        apply Array.ext'
        have : s.extract 0 s.size = s := by simp
        rw [this]
        simp
    · cases hq
  · rename_i k hd
    have hZ : (srcZ ts).run P w = .ok true w := by simp [srcZ, ht1, run_und ht hd]
    refine ⟨true, ?_⟩
    split at hq
    · rename_i kk l
      cases hx
      split at hq
      · rename_i by_ zs hby hzs
        cases hb : (decide (0 ≤ l) && decide (l ≤ 1000000) && decide (l * by_ ≤ 281474976710656) && !zs.isEmpty && Nat.beq zs.length z) with
        | false => simp [hb] at hq
        | true =>
          simp only [hb, cond_true, Option.some.injEq, Prod.mk.injEq] at hq
          obtain ⟨rfl, rfl⟩ := hq
          simp only [Bool.and_eq_true, decide_eq_true_eq] at hb
          obtain ⟨⟨⟨⟨b1, b2⟩, b3⟩, b4⟩, b5⟩ := hb
          have b5 := beq_eq b5
          have hne : zs ≠ [] := by intro e; rw [e] at b4; simp at b4
          obtain ⟨inf, Z, g1, g2, g3⟩ := zeroA_ok (P := P) (γ := γ) ht hzs
          have hbytes : inf.bytes = by_ := bytes_ok ht hby g1
          have hZl : Z.cells.size = z := by have := g3.length; simp at this; omega
          have hcy := cyc_ok g3 hne (l.toNat * z)
          refine ⟨((Array.range (l.toNat * z)).map (Z.cells[· % Z.cells.size]!)).toList, hZ, ?_, fun w' _ => ?_, hcy, by simp⟩
          · have wl : IntKind.i64.wrap l = l := by rw [IntKind.wrap_i64]; omega
            have n1 : ¬ l < 0 := by omega
            have n2 : ¬ (l * inf.bytes > 2 ^ 48) := by rw [hbytes]; omega
            simp only [srcN, if_true, Sem.run_bind, asInt, asIntOf, Sem.run_pure, Result.andThen_ok, wl, Sem.run_ite, n1, if_false, typeInfo, run_program, g1, n2]
          · simp only [srcA, Bool.not_true, Bool.false_eq_true, if_false]
            by_cases h0 : l.toNat * z = 0
            · simp [h0, Array.range_zero']
            · simp [h0, zeroValue, typeInfo, g1, g2, Builtin.zeroCells, hZl]
              apply Array.ext'
              simp
      · cases hq
    · cases hq
  · cases hq

/- append; the new block, if there is one, gets the name i -/
def eApp (ti : Tr TypeInfo) (h : Tr Blk) (i t0 t1 : Nat) (s x : AV) : Option (AV × Tr Blk) :=
  match und ti t0 with
  | some (.slice e) => match szT ti e, bytesT ti e, zeroA ti e with
    | some z, some by_, some zs => match srcV ti h e z t1 x with
      | none => none
      | some (n, vs) =>
        bif !Nat.beq zs.length z || !vs.all AV.one then none else
        let grown (olds : List AV) (m : Nat) (h : Tr Blk) : Option (AV × Tr Blk) :=
          bif Nat.ble (m + n) 1000000000 && Nat.ble ((m + n) * by_) 140737488355328 then
            match h.set i (some ⟨.plain (olds ++ vs), e, z, true, true⟩) with
            | none => none
            | some h' => some (.slc i 0 (m + n) (m + n), h')
          else none
        match s with
        | .nils => bif Nat.beq n 0 then some (.nils, h) else grown [] 0 h
        | .zer => bif Nat.beq n 0 then some (.zer, h) else grown [] 0 h
        | .emp => bif Nat.beq n 0 then some (.emp, h) else none
        | .slc b o m c => match h.get b with
          | none => none
          | some k =>
            bif Nat.ble (m + n) c then
              match storeN h b (o + m * z) vs with
              | none => none
              | some h' => some (.slc b o (m + n) c, h')
            else bif !k.opn then
              (bif Nat.ble (o + m * z) k.cells.length then grown ((k.cells.drop o).take (m * z)) m h else none)
            else
              (bif Nat.beq o 0 && Nat.beq k.cells.length (c * z) && k.own && Nat.beq k.sz z && Nat.beq k.elem e && Nat.ble m c then
                match h.set b none with
                | none => none
                | some h1 => grown (k.cells.take (m * z)) m h1
              else none)
        | _ => none
    | _, _, _ => none
  | _ => none

end Go.QfSy
