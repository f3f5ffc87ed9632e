/- awake of quadformlaw26 returns true in any world that holds the table of offsets. -/
import Derived.Test.YtejmmglffmckeaaDoorEvP
import Derived.Test.YtejmmglffmckeaaDoorChecked
namespace Go.Proofs.YtejmmglffmckeaaDoor.Q
open Go.QfEv Go.RowKit

def offs : List Int := [7, 11, 13, 17, 19, 23, 29, 31]
def m1 : Tr Blk := Tr.setF 40 .nil 0 (some (tabBlk .i64 offs 115))

theorem tyLen : Nat.blt Tryd.prog.types.toList.length 1000000 = true := by kernel_rfl
theorem fnLen : Nat.blt Tryd.prog.funcs.toList.length 1000000 = true := by kernel_rfl
theorem fnNames : Tryd.prog.funcs.toList.all (fun fn => !(fn.name == "runtime.NumGoroutine")) = true := by kernel_rfl
theorem noesc (x : Value) (w : World) : (callFunc 53 #[x]).run Tryd.prog w = .ok (.value x) w := by kernel_rfl
theorem envOk : EnvOk Tryd.prog (envOf Tryd.prog 4 53) := envOf_ok Tryd.prog 4 53 tyLen fnLen fnNames noesc Tryd.checked.mixed

theorem awake_run : isTrue (callF (envOf Tryd.prog 4 53) noOrc 50 4 [] ⟨m1, 1000⟩) = true := by kernel_rfl

theorem tables (w : World) (h : w.heap[0]? = some (.cells (offs.map (Value.int .i64)).toArray 115 (0, 0))) : Tables0 4 m1 w := by
  intro g k hg
  have hget : m1.get g = if g = 0 then some (tabBlk .i64 offs 115) else (Tr.nil : Tr Blk).get g := Tr.get_setF 40 .nil 0 g _ (by decide)
  rw [hget] at hg
  split at hg
  · rename_i e
    subst e
    cases hg
    exact ⟨by decide, rfl, offs.map (Value.int .i64), h, tab_rel _ _ _⟩
  · cases hg

theorem awake_calls (w : World) (h : w.heap[0]? = some (.cells (offs.map (Value.int .i64)).toArray 115 (0, 0))) :
    Calls Tryd.prog 4 #[] w fun e w' => e = .returned (.bool true) ∧ Below w.heap.size w w' :=
  closed_true envOk awake_run (by show (4 : Nat) ≤ 1000; decide) w (tables w h)
#print axioms awake_calls
end Go.Proofs.YtejmmglffmckeaaDoor.Q
