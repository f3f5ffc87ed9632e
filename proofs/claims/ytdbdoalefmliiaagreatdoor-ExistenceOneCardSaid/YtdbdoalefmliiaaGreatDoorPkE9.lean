/- A part of the proof of ExistenceOne: QO1. -/
import Derived.Test.YtdbdoalefmliiaaGreatDoorPkE8
set_option linter.unusedSimpArgs false
set_option linter.unusedVariables false
set_option maxRecDepth 100000
noncomputable section
namespace Go.Proofs.YtdbdoalefmliiaaGreatDoor.S
theorem Xt:fT 1 500=true:=by kernel_rfl
theorem SL:fT 501 500=true:=by kernel_rfl
theorem Qc:fT 1001 500=true:=by kernel_rfl
theorem Qd:fT 1501 500=true:=by kernel_rfl
theorem Qe:fT 2001 500=true:=by kernel_rfl
theorem Qf:fT 2501 500=true:=by kernel_rfl
theorem Qg:fT 3001 500=true:=by kernel_rfl
theorem Qh:fT 3501 500=true:=by kernel_rfl
theorem Qi:fT 4001 500=true:=by kernel_rfl
theorem Qj:fT 4501 500=true:=by kernel_rfl
end Go.Proofs.YtdbdoalefmliiaaGreatDoor.S
end
