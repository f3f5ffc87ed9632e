/- The program's environment for the symbolic machine; the tables. -/
import Derived.Test.YtcgnijaammdckaaGreatDoorZR
import Derived.Test.YtcgnijaammdckaaGreatDoorChecked
namespace Go.Proofs.YtcgnijaammdckaaGreatDoor.S
open Go.QfSy Go.RowKit

theorem tyLen : Nat.blt Tryz.prog.types.toList.length 1000000 = true := by kernel_rfl
theorem fnLen : Nat.blt Tryz.prog.funcs.toList.length 1000000 = true := by kernel_rfl
theorem fnNames : Tryz.prog.funcs.toList.all (fun fn => !(fn.name == "runtime.NumGoroutine")) = true := by kernel_rfl
theorem noesc (x : Value) (w : World) : (callFunc 104 #[x]).run Tryz.prog w = .ok (.value x) w := by kernel_rfl
noncomputable def EV : Env := envOf Tryz.prog 4 104 23 true
noncomputable def EC : Env := envOf Tryz.prog 4 104 23 false
theorem evOk : EnvOk Tryz.prog EV := envOf_ok Tryz.prog 4 104 23 true tyLen fnLen fnNames noesc Tryz.checked.mixed
theorem ecOk : EnvOk Tryz.prog EC := envOf_ok Tryz.prog 4 104 23 false tyLen fnLen fnNames noesc Tryz.checked.mixed
theorem evNg : Nat.ble EV.ng 1000 = true := rfl
theorem ecNg : Nat.ble EC.ng 1000 = true := rfl
end Go.Proofs.YtcgnijaammdckaaGreatDoor.S
