/- A part of the proof of ExistenceOne: QO2. -/
import Derived.Test.YtdbdoalefmliiaaGreatDoorPkE8
set_option linter.unusedSimpArgs false
set_option linter.unusedVariables false
set_option maxRecDepth 100000
noncomputable section
namespace Go.Proofs.YtdbdoalefmliiaaGreatDoor.S
theorem Rb:fT 5001 500=true:=by kernel_rfl
theorem Rc:fT 5501 500=true:=by kernel_rfl
theorem Rd:fT 6001 500=true:=by kernel_rfl
theorem Re:fT 6501 500=true:=by kernel_rfl
theorem Rf:fT 7001 500=true:=by kernel_rfl
theorem Rg:fT 7501 500=true:=by kernel_rfl
theorem Rh:fT 8001 500=true:=by kernel_rfl
theorem Ri:fT 8501 500=true:=by kernel_rfl
theorem Rj:fT 9001 500=true:=by kernel_rfl
theorem Rk:fT 9501 500=true:=by kernel_rfl
end Go.Proofs.YtdbdoalefmliiaaGreatDoor.S
end
