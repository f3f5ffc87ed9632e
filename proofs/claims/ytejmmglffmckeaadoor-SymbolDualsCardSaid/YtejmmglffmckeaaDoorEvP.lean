/- A closed call that the abstract machine carries out, in any world that holds the tables. -/
import Derived.Test.YtejmmglffmckeaaDoorEvO
set_option linter.unusedSimpArgs false
set_option linter.unusedVariables false
namespace Go.QfEv
open Go.RowKit

def gam0 (ng : Nat) : Gm := fun b => if b < ng then some (b, 0) else none

/- what the machine's first heap says of the world: tables, which are never written -/
def Tables0 (ng : Nat) (m : Tr Blk) (w : World) : Prop :=
  ∀ g k, m.get g = some k → g < ng ∧ k.own = false ∧ ∃ cs, w.heap[g]? = some (.cells cs.toArray k.elem (0, 0)) ∧ VsRel (gam0 ng) k.cells cs

theorem hrel0 {ng nx : Nat} {m : Tr Blk} {w : World} (h : Tables0 ng m w) (hn : ng ≤ nx) : HRel (gam0 ng) m.get nx w := by
  refine ⟨fun b k hb => ?_, fun b b' k k' B x x' h1 h2 h3 h4 => ?_, fun b hb => ?_⟩
  · obtain ⟨h1, h2, cs, h3, h4⟩ := h b k hb
    exact ⟨b, 0, cs, [], by simp [gam0, h1], by simpa using h3, h4, by simp, fun _ => rfl⟩
  · unfold gam0 at h3 h4
    split at h3
    · split at h4
      · cases h3; cases h4; rfl
      · cases h4
    · cases h3
  · unfold gam0
    rw [if_neg (by omega)]

theorem noOwn0 {ng : Nat} {m : Tr Blk} {w : World} (h : Tables0 ng m w) (k : Nat) : ¬ OwnImg (gam0 ng) m.get k := by
  rintro ⟨b, kk, x, h1, h2, h3⟩
  rw [(h b kk h1).2.1] at h2
  cases h2

def noOrc : CallF := fun _ _ _ => none
theorem noOrc_ok (P : Program) (ng : Nat) : CallOk P ng noOrc := by
  intro f args H v H' h
  cases h

theorem closed_calls {P : Program} {E : Env} (hE : EnvOk P E) {n f nx : Nat} {args : List AV} {Args : List Value} {m : Tr Blk} {v : AV} {H' : Hs} (h : callF E noOrc n f args ⟨m, nx⟩ = some (v, H')) (hn : E.ng ≤ nx) (w : World) (ht : Tables0 E.ng m w) (hA : ∀ γ, VsRel γ args Args) :
    Calls P f Args.toArray w fun e w' => ∃ V γ', e = .returned V ∧ VRel γ' v V ∧ Below w.heap.size w w' := by
  have hc := callF_ok hE (noOrc_ok P E.ng) n f args ⟨m, nx⟩ v H' h (gam0 E.ng) w Args (hrel0 ht hn) (hA _) (fun g hg => by simp [gam0, hg])
  refine hc.2.mono ?_
  rintro e w' ⟨V, γ', rfl, hv, hrun⟩
  exact ⟨V, γ', rfl, hv, ⟨hrun.stp.os, hrun.stp.tape, hrun.stp.output, hrun.stp.size, fun k hk => hrun.stp.frame k hk (noOwn0 ht k)⟩⟩

def isTrue : Option (AV × Hs) → Bool
  | some (.bool true, _) => true
  | _ => false

/- a call that returns true -/
theorem closed_true {P : Program} {E : Env} (hE : EnvOk P E) {n f nx : Nat} {m : Tr Blk} (h : isTrue (callF E noOrc n f [] ⟨m, nx⟩) = true) (hn : E.ng ≤ nx) (w : World) (ht : Tables0 E.ng m w) :
    Calls P f #[] w fun e w' => e = .returned (.bool true) ∧ Below w.heap.size w w' := by
  unfold isTrue at h
  split at h
  · rename_i H' hr
    refine (closed_calls hE hr hn w ht (Args := []) (fun γ => .nil)).mono ?_
    rintro e w' ⟨V, γ', rfl, hv, hb⟩
    cases hv
    exact ⟨rfl, hb⟩
  · cases h

def lzOf (P : Program) : Nat → Nat → Nat → Nat → Bool := fun e n o u => liesAt P P.depth e (n / P.cellsOf e) o u 1
theorem lzOf_ok (P : Program) : LiesOk P (lzOf P) := fun _ _ _ _ h => h

def envOf (P : Program) (ng ne : Nat) : Env := ⟨Tr.ofList P.types.toList, Tr.ofList P.funcs.toList, ng, lzOf P, ne⟩

theorem envOf_ok (P : Program) (ng ne : Nat) (h1 : Nat.blt P.types.toList.length 1000000 = true) (h2 : Nat.blt P.funcs.toList.length 1000000 = true) (h3 : P.funcs.toList.all (fun fn => !(fn.name == "runtime.NumGoroutine")) = true)
    (h4 : ∀ x w, (callFunc ne #[x]).run P w = .ok (.value x) w) (h5 : P.follows .mixedOrders = true) : EnvOk P (envOf P ng ne) where
  ti := by
    intro t i hi
    have hi' : (Tr.ofList P.types.toList).get t = some i := hi
    rw [Tr.get_ofList _ (Nat.le_of_ble_eq_true h1)] at hi'
    have h2 : P.types[t]? = some i := by simpa using hi'
    have hlt : t < P.types.size := (Array.getElem?_eq_some_iff.1 h2).1
    show Tables.info? P.toTables t = some i
    unfold Tables.info?
    rw [if_pos hlt]
    exact h2
  fs := by
    intro f
    show (Tr.ofList P.funcs.toList).get f = _
    rw [Tr.get_ofList _ (Nat.le_of_ble_eq_true h2)]
    simp
  lz := lzOf_ok P
  noesc := h4
  names := by
    intro f fn hf
    have := List.all_eq_true.1 h3 fn (by simpa using Array.mem_of_getElem? hf)
    simpa using this
  mixed := h5

/- the tables, each a row of integers of one kind -/
def tabBlk (k : IntKind) (l : List Int) (el : Nat) : Blk := ⟨l.map (.int k), el, 0, false, false⟩

theorem tab_rel (γ : Gm) (k : IntKind) (l : List Int) : VsRel γ (l.map (AV.int k)) (l.map (Value.int k)) := by
  induction l with
  | nil => exact .nil
  | cons x l ih => exact .cons (.int _ _) ih

end Go.QfEv
