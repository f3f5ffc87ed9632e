/- The operations that leave memory alone, continued. -/
import Derived.Test.YtejmmglffmckeaaGreatDoorZC
import Derived.Lib.Builder
import Derived.Lib.UnsafeStr
set_option linter.unusedSimpArgs false
set_option linter.unusedVariables false
namespace Go.QfSy

section
variable {P : Program} {ti : Tr TypeInfo} (ht : TabOk P ti) {γ : Gm} (w : World)

theorem beq_eq' {a b : Nat} (h : Nat.beq a b = true) : a = b := Nat.eq_of_beq_eq_true h

/- x op y -/
def isConstO : Operand → Bool
  | .const _ => true
  | _ => false

def qEqOp (ti : Tr TypeInfo) (t : Nat) (xo yo : Operand) (x y : AV) : Option Bool :=
  match x, y with
  | .int _ _, _ => none
  | .str _, _ => none
  | .nilif, .nilif => bif isConstO xo || isConstO yo then (match und ti t with | none => none | some d => qEqScalar d .nilif .nilif) else none
  | .ptr b o, .ptr b' o' => match und ti t with
    | some (.pointer el) => match szT ti el with
      | some (_ + 1) => bif Nat.beq b b' then some (Nat.beq o o') else none
      | _ => none
    | _ => none
  | x, y => match und ti t with
    | none => none
    | some d => qEqScalar d x y

def qBin (ti : Tr TypeInfo) (op : BinOp) (t : Nat) (xo yo : Operand) (x y : AV) : Option AV :=
  match x, y with
  | .int k a, .int k' b => ofPure (binOp op t (.int k a) (.int k' b))
  | .str a, .str b => ofPure (binOp op t (.string a) (.string b))
  | x, y => match op with
    | .eql => match qEqOp ti t xo yo x y with
      | none => none
      | some b => some (.bool b)
    | .neq => match qEqOp ti t xo yo x y with
      | none => none
      | some b => some (.bool (!b))
    | _ => none

include ht in
theorem qEqOp_ok {op : BinOp} {t : Nat} {xo yo : Operand} {x y : AV} {X Y : Value} (hx : VRel γ x X) (hy : VRel γ y Y) {b : Bool} (hq : qEqOp ti t xo yo x y = some b) :
    (eqGuard op t xo yo X Y).run P w = .ok () w ∧ (binOp .eql t X Y).run P w = .ok (.bool b) w ∧ (binOp .neq t X Y).run P w = .ok (.bool (!b)) w := by
  have key : ∀ d, und ti t = some d → qEqScalar d x y = some b → (∀ k n, x ≠ .int k n) → (∀ s, x ≠ .str s) → (x = .nilif → y = .nilif → (isConstO xo || isConstO yo) = true) →
      (eqGuard op t xo yo X Y).run P w = .ok () w ∧ (binOp .eql t X Y).run P w = .ok (.bool b) w ∧ (binOp .neq t X Y).run P w = .ok (.bool (!b)) w := by
    intro d hd hs hi hst hn
    have he := qEqScalar_ok ht w hd hx hy hs 9999
    have he' : (Op.equal t X Y).run P w = .ok b w := he
    unfold qEqScalar at hs
    split at hs
    all_goals first
      | (cases hs; done)
      | (exact absurd rfl (hi _ _))
      | (exact absurd rfl (hst _))
      | skip
    all_goals
      cases hx; cases hy
      refine ⟨?_, ?_, ?_⟩
    all_goals first
      | (simp [binOp, he']; done)
      | (simp [go_sem]; done)
      | skip
    · have := hn rfl rfl
      cases xo <;> cases yo <;> simp [isConstO] at this <;> simp [go_sem]
  unfold qEqOp at hq
  split at hq
  · cases hq
  · cases hq
  · cases hc : (isConstO xo || isConstO yo) with
    | false => simp [hc] at hq
    | true =>
      simp only [hc, cond_true] at hq
      cases hd : und ti t with
      | none => simp [hd] at hq
      | some d =>
        simp only [hd] at hq
        exact key d hd hq (by intros; simp) (by intros; simp) (fun _ _ => hc)
  · rename_i c o c' o'
    cases hx with
    | ptr _ hg =>
      cases hy with
      | ptr _ hg' =>
        split at hq
        · rename_i el hd
          split at hq
          · rename_i n hs
            cases hb : Nat.beq c c' with
            | false => simp [hb] at hq
            | true =>
              simp only [hb, cond_true, Option.some.injEq] at hq
              have := beq_eq' hb
              subst this
              rw [hg] at hg'
              cases hg'
              have hsame : ∀ B : Nat, (sameAddr ⟨B, o, none⟩ ⟨B, o', none⟩).run P w = .ok b w := by
                intro B
                have e1 : ((⟨B, o, none⟩ : Addr) == ⟨B, o', none⟩) = b := by
                  rw [← hq]
                  rw [Bool.eq_iff_iff]
                  simp only [beq_iff_eq, Addr.mk.injEq, true_and, and_true]
                  exact ⟨fun h => by rw [h]; exact Nat.beq_refl _, fun h => beq_eq' h⟩
                simp [sameAddr, e1]
              have he : ∀ B : Nat, (Op.equal t (.pointer (some ⟨B, o, none⟩)) (.pointer (some ⟨B, o', none⟩))).run P w = .ok b w := by
                intro B
                have : ∀ d : Nat, (Op.equalIn (d + 1) t (.pointer (some ⟨B, o, none⟩)) (.pointer (some ⟨B, o', none⟩))).run P w = .ok b w := by
                  intro d
                  simp [Op.equalIn, run_und ht hd, run_sizeOf ht hs, hsame]
                exact this 9999
              exact ⟨by simp [go_sem], by simp [binOp, he], by simp [binOp, he]⟩
          · cases hq
        · cases hq
  · rename_i h1 h2 h3 h4
    cases hd : und ti t with
    | none => simp [hd] at hq
    | some d =>
      simp only [hd] at hq
      exact key d hd hq (fun k n e => h1 k n e) (fun s e => h2 s e) (fun e1 e2 => absurd e2 (h3 e1))

include ht in
theorem qBin_ok {op : BinOp} {t : Nat} {xo yo : Operand} {x y v : AV} {X Y : Value} (hx : VRel γ x X) (hy : VRel γ y Y) (hq : qBin ti op t xo yo x y = some v) :
    ∃ V, ((do eqGuard op t xo yo X Y; binOp op t X Y : Sem Value)).run P w = .ok V w ∧ VRel γ v V := by
  unfold qBin at hq
  split at hq
  · cases hx; cases hy
    obtain ⟨V, h1, h2⟩ := ofPure_ok γ hq
    exact ⟨V, by simp [go_sem, h1], h2⟩
  · cases hx; cases hy
    obtain ⟨V, h1, h2⟩ := ofPure_ok γ hq
    exact ⟨V, by simp [go_sem, h1], h2⟩
  · split at hq
    · split at hq
      · cases hq
      · rename_i b hb
        cases hq
        obtain ⟨g1, g2, g3⟩ := qEqOp_ok (P := P) ht w (op := .eql) hx hy hb
        exact ⟨_, by simp only [Sem.run_bind, g1, Result.andThen_ok, g2], .bool b⟩
    · split at hq
      · cases hq
      · rename_i b hb
        cases hq
        obtain ⟨g1, g2, g3⟩ := qEqOp_ok (P := P) ht w (op := .neq) hx hy hb
        exact ⟨_, by simp only [Sem.run_bind, g1, Result.andThen_ok, g3], .bool (!b)⟩
    · cases hq

/- op x -/
def qUn (op : UnOp) (x : AV) : Option AV :=
  match x with
  | .int k n => ofPure (Op.unary op (.int k n))
  | .bool b => ofPure (Op.unary op (.bool b))
  | _ => none

theorem qUn_ok {op : UnOp} {x v : AV} {X : Value} (hx : VRel γ x X) (hq : qUn op x = some v) : ∃ V, (Op.unary op X).run P w = .ok V w ∧ VRel γ v V := by
  unfold qUn at hq
  split at hq
  · cases hx
    obtain ⟨V, h1, h2⟩ := ofPure_ok γ hq
    exact ⟨V, by rw [h1]; rfl, h2⟩
  · cases hx
    obtain ⟨V, h1, h2⟩ := ofPure_ok γ hq
    exact ⟨V, by rw [h1]; rfl, h2⟩
  · cases hq

/- T(x); lz tells whether a variable of a type lies at an offset of a block -/
def qConv (ti : Tr TypeInfo) (lz : Nat → Nat → Nat → Nat → Bool) (h : Tr Blk) (src dst : Nat) (x : AV) : Option AV :=
  match und ti src, und ti dst, x with
  | some _, some (.int k), .int _ n => some (.int k (k.wrap n))
  | some _, some .string, .str s => some (.str s)
  | some (.pointer t), some .unsafePointer, .ptr b o => match szT ti t with
    | some (_ + 1) => match h.get b with
      | none => none
      | some k => bif Nat.blt o k.cells.length then some (.ptr b o) else none
    | _ => none
  | some .unsafePointer, some (.pointer u), .ptr b o => match szT ti u with
    | none => none
    | some _ => match h.get b with
      | none => none
      | some k => bif !k.opn && lz k.elem k.cells.length o u then some (.ptr b o) else none
  | _, _, _ => none

def LiesOk (P : Program) (lz : Nat → Nat → Nat → Nat → Bool) : Prop := ∀ e n o u, lz e n o u = true → liesAt P P.depth e (n / P.cellsOf e) o u 1 = true

include ht in
theorem qConv_ok {lz : Nat → Nat → Nat → Nat → Bool} (hlz : LiesOk P lz) {h : Tr Blk} {nx : Nat} (hr : HRel γ h.get nx w) {src dst : Nat} {x v : AV} {X : Value} (hx : VRel γ x X) (hq : qConv ti lz h src dst x = some v) : ∃ V, (convert src dst X).run P w = .ok V w ∧ VRel γ v V := by
  unfold qConv at hq
  split at hq
  · rename_i d k k' n h1 h2
    cases hx
    cases hq
    exact ⟨_, by simp [convert, run_und ht h1, run_und ht h2, Conv.intToInt], .int _ _⟩
  · rename_i d s h1 h2
    cases hx
    cases hq
    exact ⟨_, by simp [convert, run_und ht h1, run_und ht h2], .str _⟩
  · rename_i t b o h1 h2
    cases hx with
    | ptr _ hg =>
      rename_i B y
      split at hq
      · rename_i n hs
        split at hq
        · cases hq
        · rename_i k hk
          cases hb : Nat.blt o k.cells.length with
          | false => simp [hb] at hq
          | true =>
            simp only [hb, cond_true, Option.some.injEq] at hq
            subst hq
            have hlt : o < k.cells.length := Nat.le_of_ble_eq_true hb
            obtain ⟨B', x', cs, ex, g1, g2, g3, g4, g5⟩ := hr.blk b k hk
            rw [hg] at g1
            cases g1
            obtain ⟨i, i1, i2⟩ := info_of_szT ht hs
            have hl := g3.length
            have := Lib.run_to_unsafe (P := P) w (src := src) (dst := dst) (e := k.elem) (cells := (cs ++ ex).length) ⟨B, o, none⟩ (und_ok ht h1) (und_ok ht h2) i1 (by omega) (by simp [World.shape?, g2]) (by simp; omega)
            exact ⟨_, this, .ptr _ hg⟩
      · cases hq
  · rename_i u b o h1 h2
    cases hx with
    | ptr _ hg =>
      rename_i B y
      split at hq
      · cases hq
      · rename_i n hs
        split at hq
        · cases hq
        · rename_i k hk
          cases hb : (!k.opn && lz k.elem k.cells.length o u) with
          | false => simp [hb] at hq
          | true =>
            simp only [hb, cond_true, Option.some.injEq] at hq
            subst hq
            simp only [Bool.and_eq_true, Bool.not_eq_true'] at hb
            obtain ⟨hb1, hb2⟩ := hb
            obtain ⟨B', x', cs, ex, g1, g2, g3, g4, g5⟩ := hr.blk b k hk
            rw [hg] at g1
            cases g1
            have hy := g5 hb1
            subst hy
            have hex : ex = [] := List.eq_nil_of_length_eq_zero (by simpa using g4)
            subst hex
            obtain ⟨i, i1, i2⟩ := info_of_szT ht hs
            have hl := g3.length
            have := Lib.run_from_unsafe (P := P) w (src := src) (dst := dst) (e := k.elem) (cells := k.cells.length) ⟨B, o, none⟩ (und_ok ht h1) (und_ok ht h2) i1 (by simp [World.shape?, g2, hl]) (hlz _ _ _ _ hb2)
            exact ⟨_, this, .ptr _ hg⟩
  · cases hq

/- the pointer to a slice's first element -/
def qData (x : AV) : Option AV :=
  match x with
  | .nils => some .nilp
  | .slc b o _ (_ + 1) => some (.ptr b o)
  | _ => none

theorem qData_ok {x v : AV} {X : Value} (hx : VRel γ x X) (hq : qData x = some v) (ts : Array TypeId) (ty : TypeId) : ∃ V, (Builtin.unsafeSliceData_ ts ty #[X]).run P w = .ok V w ∧ VRel γ v V := by
  unfold qData at hq
  split at hq
  · cases hq; cases hx; exact ⟨_, rfl, .nilp⟩
  · cases hq
    cases hx with
    | slc _ _ _ hg => exact ⟨_, Lib.run_unsafeSliceData_row w ts ty _ _ _ (by omega), .ptr _ hg⟩
  · cases hq

/- a field of a struct behind an address -/
def qFieldAddr (ti : Tr TypeInfo) (s : Nat) (x : AV) (f : Nat) : Option AV :=
  match x with
  | .ptr b o => match und ti s with
    | some (.struct fields) => match fields[f]? with
      | none => none
      | some fd => match szT ti fd.type with
        | some (_ + 1) => some (.ptr b (o + fd.offset))
        | _ => none
    | _ => none
  | _ => none

include ht in
theorem qFieldAddr_ok {s f : Nat} {x v : AV} {X : Value} (hx : VRel γ x X) (hq : qFieldAddr ti s x f = some v) : ∃ V, (Instr.fieldAt s X f).run P w = .ok V w ∧ VRel γ v V := by
  unfold qFieldAddr at hq
  split at hq
  · rename_i b o
    cases hx with
    | ptr _ hg =>
      split at hq
      · rename_i fields hd
        split at hq
        · cases hq
        · rename_i fd hf
          split at hq
          · rename_i n hs
            cases hq
            refine ⟨_, ?_, .ptr _ hg⟩
            simp [Instr.fieldAt, run_und ht hd, hf, Instr.sureAddr, fieldPlace, run_sizeOf ht hs, addr_add]
          · cases hq
      · cases hq
  · cases hq

/- a field of a struct that is a value -/
def qField (ti : Tr TypeInfo) (s : Nat) (x : AV) (f : Nat) : Option AV :=
  match x with
  | .agg cs => match und ti s with
    | some (.struct fields) => match fields[f]? with
      | none => none
      | some fd => qPart ti fd.type cs fd.offset
    | _ => none
  | _ => none

include ht in
theorem qField_ok {s f : Nat} {x v : AV} {X : Value} (hx : VRel γ x X) (hq : qField ti s x f = some v) : ∃ V, (Instr.field s X f).run P w = .ok V w ∧ VRel γ v V := by
  unfold qField at hq
  split at hq
  · rename_i cs
    cases hx with
    | agg hc =>
      split at hq
      · rename_i fields hd
        split at hq
        · cases hq
        · rename_i fd hf
          obtain ⟨V, h1, h2⟩ := qPart_ok ht (w := w) hc hq
          exact ⟨V, by simp [Instr.field, run_und ht hd, hf, asAgg, h1], h2⟩
      · cases hq
  · cases hq

/- the address of an element -/
def qIndexAddr (ti : Tr TypeInfo) (t : Nat) (x i : AV) : Option AV :=
  match i with
  | .int _ j =>
    match und ti t with
    | some (.slice e) => match x with
      | .slc b o n _ => match szT ti e with
        | none => none
        | some z => if 0 ≤ j ∧ j < n then some (.ptr b (o + j.toNat * z)) else none
      | _ => none
    | some (.array len e) => match x with
      | .ptr b o => match szT ti e with
        | none => none
        | some z => if 0 ≤ j ∧ j < len then some (.ptr b (o + j.toNat * z)) else none
      | _ => none
    | _ => none
  | _ => none

include ht in
theorem qIndexAddr_ok {t : Nat} {x i v : AV} {X I : Value} (hx : VRel γ x X) (hi : VRel γ i I) (hq : qIndexAddr ti t x i = some v) : ∃ V, (Instr.indexAt t X I).run P w = .ok V w ∧ VRel γ v V := by
  unfold qIndexAddr at hq
  split at hq
  · rename_i k j
    cases hi
    split at hq
    · rename_i e hd
      split at hq
      · rename_i b o n c
        cases hx with
        | slc _ _ _ hg =>
          split at hq
          · cases hq
          · rename_i z hz
            split at hq
            · rename_i hj
              cases hq
              refine ⟨_, ?_, .ptr _ hg⟩
              simp [Instr.indexAt, asIntOf, run_und ht hd, run_sizeOf ht hz, hj, addr_add]
            · cases hq
      · cases hq
    · rename_i len e hd
      split at hq
      · rename_i b o
        cases hx with
        | ptr _ hg =>
          split at hq
          · cases hq
          · rename_i z hz
            split at hq
            · rename_i hj
              cases hq
              refine ⟨_, ?_, .ptr _ hg⟩
              simp [Instr.indexAt, asIntOf, run_und ht hd, run_sizeOf ht hz, hj, addr_add, Instr.sureAddr]
            · cases hq
      · cases hq
    · cases hq
  · cases hq

/- an element of an array that is a value; a byte of a string -/
def qIndex (ti : Tr TypeInfo) (t : Nat) (x i : AV) : Option AV :=
  match i with
  | .int _ j =>
    match und ti t, x with
    | some (.array len e), .agg cs => match szT ti e with
      | none => none
      | some z => if 0 ≤ j ∧ j < len then qPart ti e cs (j.toNat * z) else none
    | some .string, .str s => if 0 ≤ j then (match s[j.toNat]? with | some b => some (.int .u8 b.toNat) | none => none) else none
    | _, _ => none
  | _ => none

include ht in
theorem qIndex_ok {t : Nat} {x i v : AV} {X I : Value} (hx : VRel γ x X) (hi : VRel γ i I) (hq : qIndex ti t x i = some v) : ∃ V, (Instr.index t X I).run P w = .ok V w ∧ VRel γ v V := by
  unfold qIndex at hq
  split at hq
  · rename_i k j
    cases hi
    split at hq
    · rename_i len e cs hd
      cases hx with
      | agg hc =>
        split at hq
        · cases hq
        · rename_i z hz
          split at hq
          · rename_i hj
            obtain ⟨V, h1, h2⟩ := qPart_ok ht (w := w) hc hq
            exact ⟨V, by simp [Instr.index, asIntOf, run_und ht hd, hj, run_sizeOf ht hz, h1], h2⟩
          · cases hq
    · rename_i s hd
      cases hx
      split at hq
      · rename_i hj
        split at hq
        · rename_i b hb
          cases hq
          exact ⟨_, by simp [Instr.index, asIntOf, run_und ht hd, hj, hb], .int _ _⟩
        · cases hq
      · cases hq
    · cases hq
  · cases hq

/- a part of a tuple -/
def qExtract (x : AV) (i : Nat) : Option AV :=
  match x with
  | .tup vs => vs[i]?
  | _ => none

theorem qExtract_ok {x v : AV} {i : Nat} {X : Value} (hx : VRel γ x X) (hq : qExtract x i = some v) : ∃ V, (Instr.extract X i).run P w = .ok V w ∧ VRel γ v V := by
  unfold qExtract at hq
  split at hq
  · cases hx with
    | tup hv =>
      rcases hv.get i with ⟨h1, h2⟩ | ⟨u, U, h1, h2, h3⟩
      · rw [h1] at hq; cases hq
      · rw [h1] at hq
        cases hq
        exact ⟨U, by simp [Instr.extract, h2], h3⟩
  · cases hq

/- len -/
def qLen (ti : Tr TypeInfo) (t : Nat) (x : AV) : Option AV :=
  match und ti t, x with
  | some .string, .str s => some (.int .i64 s.size)
  | some (.array n _), _ => some (.int .i64 n)
  | some (.slice _), .slc _ _ n _ => some (.int .i64 n)
  | some (.slice _), .nils => some (.int .i64 0)
  | some (.slice _), .emp => some (.int .i64 0)
  | some (.slice _), .zer => some (.int .i64 0)
  | _, _ => none

include ht in
theorem qLen_ok {t ty : Nat} {ts : Array TypeId} (hts : ts[0]? = some t) {x v : AV} {X : Value} {Xs : Array Value} (hXs : Xs[0]? = some X) (hx : VRel γ x X) (hq : qLen ti t x = some v) :
    ∃ V, (Builtin.len_ ts ty Xs).run P w = .ok V w ∧ VRel γ v V := by
  unfold qLen at hq
  split at hq
  · rename_i s hd
    cases hx; cases hq
    exact ⟨_, by simp [Builtin.len_, hts, hXs, run_und ht hd, goInt], .int _ _⟩
  · rename_i n e _ hd
    cases hq
    exact ⟨_, by simp [Builtin.len_, hts, hXs, run_und ht hd, goInt], .int _ _⟩
  · rename_i e b o n c hd
    cases hx; cases hq
    exact ⟨_, by simp [Builtin.len_, hts, hXs, run_und ht hd, goInt], .int _ _⟩
  · rename_i e hd
    cases hx; cases hq
    exact ⟨_, by simp [Builtin.len_, hts, hXs, run_und ht hd, goInt], .int _ _⟩
  · rename_i e hd
    cases hx; cases hq
    exact ⟨_, by simp [Builtin.len_, hts, hXs, run_und ht hd, goInt], .int _ _⟩
  · rename_i e hd
    cases hx; cases hq
    exact ⟨_, by simp [Builtin.len_, hts, hXs, run_und ht hd, goInt], .int _ _⟩
  · cases hq

end
end Go.QfSy
