/- A part of the proof of ExistenceGenera: GP4, GP5, GP6, GP7. -/
import Derived.Test.YtmeljalphfcieaaGreatDoorPkG9
set_option linter.unusedSimpArgs false
set_option linter.unusedVariables false
set_option maxRecDepth 100000
noncomputable section
namespace Go.Proofs.YtmeljalphfcieaaGreatDoor.S
theorem TU:iL 4 8 9=true:=by kernel_rfl
theorem Qz:iL 4 17 15=true:=by kernel_rfl
theorem QH:iL 4 32 1=true:=by kernel_rfl
theorem QI:iL 4 33 8=true:=by kernel_rfl
theorem Q8:iL 4 41 8=true:=by kernel_rfl
end Go.Proofs.YtmeljalphfcieaaGreatDoor.S
end
