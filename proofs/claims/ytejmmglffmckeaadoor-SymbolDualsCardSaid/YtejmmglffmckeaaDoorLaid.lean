/- What a world that the rows speak of holds: the table of offsets. A world for the witnesses. -/
import Derived.Test.YtejmmglffmckeaaDoorOpen
import Derived.Test.YtejmmglffmckeaaDoorTie
import Derived.Test.YtejmmglffmckeaaDoorCards
import Derived.ProofKit
import Derived.Deep.DeepHandedRow
import Derived.Lib.LaidTab
import Derived.Stop.LaidErr
namespace Go.Proofs.YtejmmglffmckeaaDoor.Q
open Go.ChangeShapes Go.WideShapes Go.ChangeAt Go.RowKit

theorem own : ownKnob Tryd.prog.godebug = none := by kernel_rfl
theorem laidOut : laidOutB Tryd.prog = true := by kernel_rfl
theorem gOffs : Tryd.prog.globalNamed "quadform/prime.offsets" = some 0 := by kernel_rfl
theorem gOffsType : (Tryd.prog.globals[0]?).map (·.type) = some 115 := by kernel_rfl
theorem gSize : 0 < Tryd.prog.globals.size := by show Nat.lt 0 _; exact Nat.le_of_ble_eq_true (by kernel_rfl)
theorem cellsOffs : Tryd.prog.cellsOf 115 = 8 := by kernel_rfl
theorem cellsI64 : Tryd.prog.cellsOf 2 = 1 := by kernel_rfl
theorem row0 : (((begin Tryd.prog (fun _ _ => 0) default).world.heap[0]?).bind Obj.row?).map (·.2) = some 115 := by kernel_rfl

theorem tab_block {P : Program} {W : World} {name : String} {k : IntKind} {zs : List Int} {g : Nat} {t : TypeId} {cs : Array Value} (hg : P.globalNamed name = some g) (ht : Lib.TabIs P W name k zs) (h1 : W.heap[g]? = some (.cells cs t)) :
    W.heap[g]? = some (.cells (zs.map fun z => Value.int k z).toArray t (0, 0)) := by
  unfold Lib.TabIs World.var? at ht
  rw [hg] at ht
  simp only [Option.bind_some, h1] at ht
  injection ht with ht
  rw [h1, ht]
theorem row_of {P : Program} {W : World} {g : Nat} {t : TypeId} (hsz : g < P.globals.size) (hr : (((begin P (fun _ _ => 0) default).world.heap[g]?).bind Obj.row?).map (·.2) = some t) (hS : W.ShapedOpen P) :
    ∃ cs u, W.heap[g]? = some (.cells cs u) ∧ u = t := by
  cases hz : ((begin P (fun _ _ => 0) default).world.heap[g]?).bind Obj.row? with
  | none => rw [hz] at hr; cases hr
  | some zt =>
    obtain ⟨zero, u⟩ := zt
    rw [hz] at hr
    obtain ⟨cs, h1, _⟩ := hS.1 g zero _ hsz hz
    exact ⟨cs, u, h1, by simpa using hr⟩
/-- The rows' lists give the table. -/
theorem offs_of {W : World} {rest : List (String × DataW Unit)} (h : laidMet Tryd.prog (("quadform/prime.offsets", Rows.laid_quadform_prime_offsets) :: rest) W) (hS : W.ShapedOpen Tryd.prog) : Offs W := by
  have ht : Lib.TabIs Tryd.prog W "quadform/prime.offsets" .i64 [7, 11, 13, 17, 19, 23, 29, 31] :=
    Lib.tabIs_of_head gOffs gOffsType Tryd.underlying115 Tryd.underlying2 cellsI64 cellsOffs h
  obtain ⟨cs, t, h1, h2⟩ := row_of gSize row0 hS
  subst h2
  exact tab_block gOffs ht h1

/-- A variable's cells out of its datum. -/
def dataCells : DataW Unit → Array Value
  | .agg l => (l.map fun | .lit (.int k n) => Value.int k n | _ => .bool false).toArray
  | _ => #[]
def layAt (g : Nat) (d : DataW Unit) (w : World) : World :=
  { w with heap := w.heap.modify g fun
      | .cells _ t frozen => .cells (dataCells d) t frozen
      | o => o }
end Go.Proofs.YtejmmglffmckeaaDoor.Q
