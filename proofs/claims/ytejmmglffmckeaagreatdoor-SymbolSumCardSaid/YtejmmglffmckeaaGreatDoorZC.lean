/- The operations that leave memory alone: what they yield on abstract values. -/
import Derived.Test.YtejmmglffmckeaaGreatDoorZB
import Derived.Laws.StructEq
import Derived.Laws.Slices
set_option linter.unusedSimpArgs false
set_option linter.unusedVariables false
namespace Go.QfSy

/- constants -/
def ofVal0 : Value → Option AV
  | .bool b => some (.bool b)
  | .int k n => some (.int k n)
  | .string s => some (.str s)
  | .pointer none => some .nilp
  | .slice none 0 0 => some .nils
  | .nilFunc => some .nilfn
  | .nilIface => some .nilif
  | _ => none

def ofVals : List Value → Option (List AV)
  | [] => some []
  | v :: l =>
    match ofVal0 v with
    | none => none
    | some x => match ofVals l with
      | none => none
      | some xs => some (x :: xs)

def ofVal : Value → Option AV
  | .agg ⟨l⟩ => match ofVals l with
    | none => none
    | some vs => some (.agg vs)
  | .tuple ⟨[]⟩ => some (.tup [])
  | v => ofVal0 v

theorem ofVal0_ok (γ : Gm) {V : Value} {v : AV} (h : ofVal0 V = some v) : VRel γ v V := by
  unfold ofVal0 at h
  split at h <;> cases h
  · exact .bool _
  · exact .int _ _
  · exact .str _
  · exact .nilp
  · exact .nils
  · exact .nilfn
  · exact .nilif

theorem ofVals_ok (γ : Gm) {Vs : List Value} {vs : List AV} (h : ofVals Vs = some vs) : VsRel γ vs Vs := by
  induction Vs generalizing vs with
  | nil => simp [ofVals] at h; subst h; exact .nil
  | cons V Vs ih =>
    simp only [ofVals] at h
    split at h
    · cases h
    · rename_i x hx
      split at h
      · cases h
      · rename_i xs hxs
        cases h
        exact .cons (ofVal0_ok γ hx) (ih hxs)

theorem ofVal_ok (γ : Gm) {V : Value} {v : AV} (h : ofVal V = some v) : VRel γ v V := by
  unfold ofVal at h
  split at h
  · split at h
    · cases h
    · rename_i vs hvs
      cases h
      exact .agg (ofVals_ok γ hvs)
  · cases h; exact .tup .nil
  · exact ofVal0_ok γ h

/- what a computation without memory yields -/
def ofPure : Sem Value → Option AV
  | .pure v => ofVal v
  | _ => none

theorem ofPure_ok (γ : Gm) {s : Sem Value} {v : AV} (h : ofPure s = some v) : ∃ V, s = .pure V ∧ VRel γ v V := by
  unfold ofPure at h
  split at h
  · exact ⟨_, rfl, ofVal_ok γ h⟩
  · cases h

section tables
variable (ti : Tr TypeInfo)

def und (t : Nat) : Option TypeDesc :=
  match ti.get t with
  | none => none
  | some i => match i.desc with
    | .named _ u => match ti.get u with
      | some j => some j.desc
      | none => none
    | d => some d

def aggD : TypeDesc → Bool
  | .struct _ => true
  | .array _ _ => true
  | _ => false

def szT (t : Nat) : Option Nat := match ti.get t with
  | none => none
  | some i => some i.size
end tables

/- the tables are the program's -/
def TabOk (P : Program) (ti : Tr TypeInfo) : Prop := ∀ t i, ti.get t = some i → P.info? t = some i

section
variable {P : Program} {ti : Tr TypeInfo} (ht : TabOk P ti)
include ht

theorem und_ok {t : Nat} {d : TypeDesc} (h : und ti t = some d) : P.underlying t = some d := by
  unfold und at h
  unfold Program.underlying
  split at h
  · cases h
  · rename_i i hi
    rw [ht t i hi]
    obtain ⟨desc, _⟩ := i
    cases desc <;> simp only [] at h ⊢ <;> try exact h
    rename_i n u
    split at h
    · rename_i j hj
      rw [ht u j hj]
      exact h
    · cases h

theorem run_und {t : Nat} {d : TypeDesc} (h : und ti t = some d) (w : World) : (underlying t).run P w = .ok d w :=
  run_underlying (und_ok ht h) w

theorem run_isAgg {t : Nat} {d : TypeDesc} (h : und ti t = some d) (w : World) : (isAgg t).run P w = .ok (aggD d) w := by
  simp only [isAgg, Sem.run_bind, run_und ht h w, Result.andThen_ok]
  cases d <;> rfl

theorem info_of_szT {t n : Nat} (h : szT ti t = some n) : ∃ i, P.info? t = some i ∧ i.size = n := by
  unfold szT at h
  split at h
  · cases h
  · rename_i i hi; cases h; exact ⟨i, ht _ _ hi, rfl⟩

theorem run_sizeOf {t n : Nat} (h : szT ti t = some n) (w : World) : (sizeOf t).run P w = .ok n w := by
  obtain ⟨i, hi, rfl⟩ := info_of_szT ht h
  simp [sizeOf, typeInfo, hi]
end

/- reading a variable -/
def qLoad (ti : Tr TypeInfo) (h : Tr Blk) (t : Nat) (x : AV) : Option AV :=
  match x with
  | .ptr b o =>
    match h.get b with
    | none => none
    | some k =>
      match und ti t with
      | none => none
      | some d =>
        bif aggD d then
          match szT ti t with
          | none => none
          | some n => bif Nat.ble (o + n) k.cells.length then some (.agg ((k.cells.drop o).take n)) else none
        else (k.cells.drop o).head?
  | _ => none

theorem qLoad_ok {P : Program} {ti : Tr TypeInfo} (ht : TabOk P ti) {γ : Gm} {h : Tr Blk} {nx : Nat} {w : World} (hr : HRel γ h.get nx w) {t : Nat} {x v : AV} {X : Value} (hx : VRel γ x X) (hq : qLoad ti h t x = some v) :
    ∃ V a, X = .pointer (some a) ∧ (loadVar t a).run P w = .ok V w ∧ VRel γ v V := by
  cases hx with
  | ptr o hg =>
    rename_i b B x
    simp only [qLoad] at hq
    cases hk : h.get b with
    | none => simp [hk] at hq
    | some k =>
      simp only [hk] at hq
      cases hd : und ti t with
      | none => simp [hd] at hq
      | some d =>
        simp only [hd] at hq
        cases hag : aggD d with
        | true =>
          simp only [hag, cond_true] at hq
          cases hs : szT ti t with
          | none => simp [hs] at hq
          | some n =>
            simp only [hs] at hq
            cases hb : Nat.ble (o + n) k.cells.length with
            | false => simp [hb] at hq
            | true =>
              simp only [hb, cond_true, Option.some.injEq] at hq
              subst hq
              obtain ⟨Vs, h1, h2, h3⟩ := hr.load hk hg o n (Nat.le_of_ble_eq_true hb)
              have hl := run_loadCells_list (P := P) w ⟨B, o, none⟩ Vs h3
              rw [h2] at hl
              refine ⟨.agg Vs.toArray, _, rfl, ?_, .agg h1⟩
              simp [loadVar, run_isAgg ht hd, hag, run_sizeOf ht hs, hl]
        | false =>
          simp only [hag, cond_false, List.head?_drop] at hq
          have hlt : o < k.cells.length := by
            rcases Nat.lt_or_ge o k.cells.length with h' | h'
            · exact h'
            · rw [List.getElem?_eq_none h'] at hq; cases hq
          obtain ⟨Vs, h1, h2, h3⟩ := hr.load hk hg o 1 hlt
          have e : (k.cells.drop o).take 1 = [v] := by
            rw [List.take_one, List.head?_drop, hq]; rfl
          rw [e] at h1
          cases h1 with
          | cons hv ht' =>
            rename_i V Vs'
            have h4 := h3 0 V (by simp)
            rw [addr_add, Nat.add_zero] at h4
            refine ⟨V, _, rfl, ?_, hv⟩
            simp [loadVar, run_isAgg ht hd, hag, h4]
  | _ => simp [qLoad] at hq

/- parts of a struct or an array that is a value -/
def qPart (ti : Tr TypeInfo) (t : Nat) (cs : List AV) (off : Nat) : Option AV :=
  match und ti t with
  | none => none
  | some d =>
    bif aggD d then
      match szT ti t with
      | none => none
      | some n => some (.agg ((cs.drop off).take n))
    else (cs.drop off).head?

theorem qPart_ok {P : Program} {ti : Tr TypeInfo} (ht : TabOk P ti) {γ : Gm} {w : World} {t : Nat} {cs : List AV} {Cs : List Value} (hc : VsRel γ cs Cs) {off : Nat} {v : AV} (hq : qPart ti t cs off = some v) :
    ∃ V, (part t Cs.toArray off).run P w = .ok V w ∧ VRel γ v V := by
  unfold qPart at hq
  cases hd : und ti t with
  | none => simp [hd] at hq
  | some d =>
    simp only [hd] at hq
    cases hag : aggD d with
    | true =>
      simp only [hag, cond_true] at hq
      cases hs : szT ti t with
      | none => simp [hs] at hq
      | some n =>
        simp only [hs, Option.some.injEq] at hq
        subst hq
        refine ⟨.agg ((Cs.drop off).take n).toArray, ?_, .agg ((hc.drop off).take n)⟩
        simp only [part, Sem.run_bind, run_isAgg ht hd, hag, Result.andThen_ok, if_true, run_sizeOf ht hs, Sem.run_pure]
        congr 2
        apply Array.ext'
        simp [List.take_drop, Nat.add_comm]
    | false =>
      simp only [hag, cond_false, List.head?_drop] at hq
      rcases hc.get off with ⟨h1, h2⟩ | ⟨u, U, h1, h2, h3⟩
      · rw [h1] at hq; cases hq
      · rw [h1] at hq
        cases hq
        refine ⟨U, ?_, h3⟩
        simp [part, run_isAgg ht hd, hag, h2]

/- == on values: whether they are equal -/
def qEqScalar (d : TypeDesc) (x y : AV) : Option Bool :=
  match d, x, y with
  | .bool, .bool a, .bool b => some (a == b)
  | .int _, .int k a, .int k' b => if k = k' then some (a == b) else none
  | .string, .str a, .str b => some (a == b)
  | .pointer _, .nilp, .nilp => some true
  | .pointer _, .nilp, .ptr _ _ => some false
  | .pointer _, .ptr _ _, .nilp => some false
  | .slice _, .nils, .nils => some true
  | .slice _, .nils, .slc _ _ _ _ => some false
  | .slice _, .slc _ _ _ _, .nils => some false
  | .func _ _ _, .nilfn, .nilfn => some true
  | .func _ _ _, .nilfn, .fn _ _ => some false
  | .func _ _ _, .fn _ _, .nilfn => some false
  | .interface _, .nilif, .nilif => some true
  | .interface _, .nilif, .ifc _ _ => some false
  | .interface _, .ifc _ _, .nilif => some false
  | _, _, _ => none

theorem qEqScalar_ok {P : Program} {ti : Tr TypeInfo} (ht : TabOk P ti) {γ : Gm} (w : World) {t : Nat} {d : TypeDesc} (hd : und ti t = some d) {x y : AV} {X Y : Value} (hx : VRel γ x X) (hy : VRel γ y Y) {b : Bool} (hq : qEqScalar d x y = some b) (n : Nat) :
    (Op.equalIn (n + 1) t X Y).run P w = .ok b w := by
  unfold qEqScalar at hq
  split at hq
  all_goals first
    | (cases hq; done)
    | skip
  all_goals
    cases hx; cases hy
    simp only [Op.equalIn, Sem.run_bind, run_und ht hd, Result.andThen_ok]
  all_goals first
    | (cases hq; rfl)
    | (split at hq <;> first | (cases hq; done) | (rename_i hk; subst hk; cases hq; simp))

end Go.QfSy
