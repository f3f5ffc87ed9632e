/- Operations on open terms and on lists that may be open: those that leave memory alone. -/
import Derived.Test.YtejmmglffmckeaaGreatDoorZI
set_option linter.unusedSimpArgs false
set_option linter.unusedVariables false
namespace Go.QfSy

def clr : AV → AV
  | .vbool b => .bool b
  | .vint k n => .int k n
  | .vstr s => .str s
  | v => v
def tnt : AV → AV
  | .bool b => .vbool b
  | .int k n => .vint k n
  | .str s => .vstr s
  | v => v
def isT : AV → Bool
  | .vbool _ => true
  | .vint _ _ => true
  | .vstr _ => true
  | _ => false

theorem VRel.clr {γ : Gm} {v : AV} {V : Value} (h : VRel γ v V) : VRel γ (clr v) V := by
  cases h with
  | vbool b => exact .bool b
  | vint k n => exact .int k n
  | vstr s => exact .str s
  | ro h => exact .ro h
  | rp h hf => exact .rp h hf
  | lo n h => exact .lo n h
  | lp i z j h => exact .lp i z j h
  | z0 a => exact .z0 a
  | bool b => exact .bool b
  | int k n => exact .int k n
  | str s => exact .str s
  | ptr o h => exact .ptr o h
  | nilp => exact .nilp
  | slc o n c h => exact .slc o n c h
  | nils => exact .nils
  | emp a c => exact .emp a c
  | zer a => exact .zer a
  | fn f h => exact .fn f h
  | nilfn => exact .nilfn
  | ifc t h => exact .ifc t h
  | nilif => exact .nilif
  | agg h => exact .agg h
  | tup h => exact .tup h
theorem VRel.tnt {γ : Gm} {v : AV} {V : Value} (h : VRel γ v V) : VRel γ (tnt v) V := by
  cases h with
  | vbool b => exact .vbool b
  | vint k n => exact .vint k n
  | vstr s => exact .vstr s
  | ro h => exact .ro h
  | rp h hf => exact .rp h hf
  | lo n h => exact .lo n h
  | lp i z j h => exact .lp i z j h
  | z0 a => exact .z0 a
  | bool b => exact .vbool b
  | int k n => exact .vint k n
  | str s => exact .vstr s
  | ptr o h => exact .ptr o h
  | nilp => exact .nilp
  | slc o n c h => exact .slc o n c h
  | nils => exact .nils
  | emp a c => exact .emp a c
  | zer a => exact .zer a
  | fn f h => exact .fn f h
  | nilfn => exact .nilfn
  | ifc t h => exact .ifc t h
  | nilif => exact .nilif
  | agg h => exact .agg h
  | tup h => exact .tup h

mutual
def RV.av : RV → AV
  | .bool b => .vbool b
  | .int k n => .vint k n
  | .str s => .vstr s
  | .sl n z r => .ro n z r
  | .agg vs => .agg (RV.avl vs)
  | .tup vs => .tup (RV.avl vs)
def RV.avl : List RV → List AV
  | [] => []
  | v :: vs => v.av :: RV.avl vs
end

mutual
theorem RRel.av {γ : Gm} {r : RV} {V : Value} (h : RRel γ.fz r V) : VRel γ r.av V := by
  cases h with
  | bool b => simp only [RV.av]; exact .vbool b
  | int k n => simp only [RV.av]; exact .vint k n
  | str s => simp only [RV.av]; exact .vstr s
  | sl0 sz row a c hn => simp only [RV.av]; exact .ro (.sl0 _ _ _ _ hn)
  | sl cs hc hl hf h => simp only [RV.av]; exact .ro (.sl cs hc hl hf h)
  | agg h => simp only [RV.av]; exact .agg (RsRel.avl h)
  | tup h => simp only [RV.av]; exact .tup (RsRel.avl h)
theorem RsRel.avl {γ : Gm} {rs : List RV} {Vs : List Value} (h : RsRel γ.fz rs Vs) : VsRel γ (RV.avl rs) Vs := by
  cases h with
  | nil => simp only [RV.avl]; exact .nil
  | cons h t => simp only [RV.avl]; exact .cons (RRel.av h) (RsRel.avl t)
end

theorem RsRel.length {F : Fz} {vs : List RV} {Vs : List Value} (h : RsRel F vs Vs) : Vs.length = vs.length := by
  induction vs generalizing Vs with
  | nil => cases h; rfl
  | cons v vs ih => cases h with | cons h t => simp [ih t]
theorem RsRel.drop {F : Fz} {vs : List RV} {Vs : List Value} (h : RsRel F vs Vs) (n : Nat) : RsRel F (vs.drop n) (Vs.drop n) := by
  induction vs generalizing Vs n with
  | nil => cases h; simp; exact .nil
  | cons v vs ih =>
    cases h with
    | cons h t =>
      cases n with
      | zero => exact .cons h t
      | succ n => exact ih t n
theorem RsRel.take {F : Fz} {vs : List RV} {Vs : List Value} (h : RsRel F vs Vs) (n : Nat) : RsRel F (vs.take n) (Vs.take n) := by
  induction vs generalizing Vs n with
  | nil => cases h; simp; exact .nil
  | cons v vs ih =>
    cases h with
    | cons h t =>
      cases n with
      | zero => simp; exact .nil
      | succ n => exact .cons h (ih t n)

theorem FzAt.cell {γ : Gm} {f : Hf} {nx : Nat} {w : World} (hr : HRel γ f nx w) {B o : Nat} {v : Value} (h : FzAt γ.fz B o v) : w.cell? ⟨B, o, none⟩ = some v := by
  obtain ⟨cs, el, fr, h1, h2⟩ := h
  rw [cell_of_row w B o cs el fr (hr.fzr _ _ h1)]
  exact h2

/- the address of an element, the index or the list being open -/
def sIndexAddr (ti : Tr TypeInfo) (t : Nat) (x i : AV) : Option (AV × List Prop) :=
  match clr i with
  | .int _ j =>
    match und ti t with
    | some (.slice e) => match szT ti e with
      | none => none
      | some z => match x with
        | .ro n sz row => bif Nat.beq z sz then some (.rp (row j.toNat) 0, [0 ≤ j ∧ j < n]) else none
        | .lo b n => some (.lp b j.toNat z 0, [0 ≤ j ∧ j < n])
        | .slc b o n _ => some (.lp b j.toNat z o, [0 ≤ j ∧ j < n])
        | _ => none
    | some (.array len e) => match szT ti e with
      | none => none
      | some z => match x with
        | .ptr b o => some (.lp b j.toNat z o, [0 ≤ j ∧ j < len])
        | .rp cs 0 => bif Nat.beq z 1 && Nat.ble len cs.length then some (.rp (cs.drop j.toNat) 0, [0 ≤ j ∧ j < len]) else none
        | _ => none
    | _ => none
  | _ => none

theorem bif_some {α : Type} {c : Bool} {x : Option α} {y : α} (h : (bif c then x else none) = some y) : c = true ∧ x = some y := by
  cases c with
  | true => exact ⟨rfl, h⟩
  | false => cases h
theorem all_one {p : Prop} (h : ∀ q ∈ [p], q) : p := h p (by simp)

section
variable {P : Program} {ti : Tr TypeInfo} (ht : TabOk P ti) {γ : Gm} (w : World)
include ht

theorem sIndexAddr_ok {t : Nat} {x i v : AV} {ms : List Prop} {X I : Value} (hx : VRel γ x X) (hi : VRel γ i I) (hq : sIndexAddr ti t x i = some (v, ms)) (hm : ∀ p ∈ ms, p) : ∃ V, (Instr.indexAt t X I).run P w = .ok V w ∧ VRel γ v V := by
  have hi := hi.clr
  unfold sIndexAddr at hq
  split at hq
  · rename_i k j hc
    rw [hc] at hi
    cases hi
    split at hq
    · rename_i e hd
      split at hq
      · cases hq
      · rename_i z hz
        split at hq
        · rename_i n sz row
          obtain ⟨hb, hq⟩ := bif_some hq
          cases hq
          have hb := beq_eq hb
          subst hb
          have hj := all_one hm
          cases hx with
          | ro h =>
            cases h with
            | sl0 _ _ _ _ hn => omega
            | sl cs hc hl hf h =>
              rename_i B o c
              have hlt : j.toNat < n := by omega
              refine ⟨.pointer (some ⟨B, o + j.toNat * z + 0, none⟩), ?_, .rp (h _ hlt) (fun i v hv => hf _ i v hlt hv)⟩
              simp [Instr.indexAt, asIntOf, run_und ht hd, run_sizeOf ht hz, hj, addr_add]
        · rename_i b n
          cases hq
          have hj := all_one hm
          cases hx with
          | lo _ hg =>
            rename_i B x
            refine ⟨.pointer (some ⟨B, j.toNat * z + 0, none⟩), ?_, .lp _ _ _ hg⟩
            simp [Instr.indexAt, asIntOf, run_und ht hd, run_sizeOf ht hz, hj, addr_add]
        · rename_i b o n c
          cases hq
          have hj := all_one hm
          cases hx with
          | slc _ _ _ hg =>
            rename_i B x
            refine ⟨.pointer (some ⟨B, j.toNat * z + o, none⟩), ?_, .lp _ _ _ hg⟩
            simp [Instr.indexAt, asIntOf, run_und ht hd, run_sizeOf ht hz, hj, addr_add]
            omega
        · cases hq
    · rename_i len e hd
      split at hq
      · cases hq
      · rename_i z hz
        split at hq
        · rename_i b o
          cases hq
          have hj := all_one hm
          cases hx with
          | ptr _ hg =>
            rename_i B x
            refine ⟨.pointer (some ⟨B, j.toNat * z + o, none⟩), ?_, .lp _ _ _ hg⟩
            simp [Instr.indexAt, asIntOf, run_und ht hd, run_sizeOf ht hz, hj, addr_add, Instr.sureAddr]
            omega
        · rename_i cs
          obtain ⟨hb, hq⟩ := bif_some hq
          cases hq
          obtain ⟨hb1, hb2⟩ := and_split hb
          have hb1 := beq_eq hb1
          subst hb1
          have hj := all_one hm
          cases hx with
          | rp h hf =>
            rename_i B o Cs
            refine ⟨.pointer (some ⟨B, o + j.toNat + 0, none⟩), ?_, .rp (h.drop j.toNat) (fun i v hv => ?_)⟩
            · simp [Instr.indexAt, asIntOf, run_und ht hd, run_sizeOf ht hz, hj, addr_add, Instr.sureAddr]
            · rw [List.getElem?_drop] at hv
              have := hf _ _ hv
              rwa [← Nat.add_assoc] at this
        · cases hq
    · cases hq
  · cases hq
end
end Go.QfSy
