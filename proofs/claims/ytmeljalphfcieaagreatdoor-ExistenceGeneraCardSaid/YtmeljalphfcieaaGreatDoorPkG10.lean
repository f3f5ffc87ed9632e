/- A part of the proof of ExistenceGenera: GP1, GP2, GP3. -/
import Derived.Test.YtmeljalphfcieaaGreatDoorPkG9
set_option linter.unusedSimpArgs false
set_option linter.unusedVariables false
set_option maxRecDepth 100000
noncomputable section
namespace Go.Proofs.YtmeljalphfcieaaGreatDoor.S
theorem U0:iL 1 1 48=true:=by kernel_rfl
theorem U1:iL 2 1 16=true:=by kernel_rfl
theorem Sf:iL 2 17 16=true:=by kernel_rfl
theorem Sh:iL 2 33 16=true:=by kernel_rfl
theorem Td:iL 3 1 16=true:=by kernel_rfl
theorem Q5:iL 3 17 16=true:=by kernel_rfl
theorem Q7:iL 3 33 16=true:=by kernel_rfl
theorem Th:iL 4 1 7=true:=by kernel_rfl
end Go.Proofs.YtmeljalphfcieaaGreatDoor.S
end
