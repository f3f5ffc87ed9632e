/- SymbolSum returns true whatever the input, and its arguments read as before: the tied card. -/
import Derived.Test.YtejmmglffmckeaaGreatDoorCardSymbolSum
namespace Go.Proofs.YtejmmglffmckeaaGreatDoor.symbolSum
open Go.ChangeShapes Go.WideShapes Go.ChangeAt Go.RowKit Go.Joins Go.Deep

theorem stands : (Tryz.f8.params.toList.all fun t => !Tryz.prog.wantsStandIn t) = true := by kernel_rfl
theorem looks : true = Tryz.prog.looks [] := by kernel_rfl
theorem plain (f : FuncId) (fn : Func) (hf : Tryz.pinned.checked.prog.funcNamed "quadform/quadformlaw26.SymbolSum" = some f) (hfn : Tryz.pinned.checked.prog.funcs[f]? = some fn) :
    true = Tryz.pinned.checked.prog.looks [] ∧ ∀ (j : Nat) t, fn.params[j]? = some t → Tryz.pinned.checked.prog.wantsStandIn t = false := by
  obtain rfl : f = 8 := Option.some.inj (named.symm.trans hf) |>.symm
  obtain rfl : fn = Tryz.f8 := (Option.some.inj (Tryz.func8.symm.trans hfn)).symm
  refine ⟨looks, fun j t ht => ?_⟩
  have := List.all_eq_true.1 stands t (by simpa using Array.mem_of_getElem? ht)
  exact (by simpa using this : Tryz.prog.wantsStandIn t = false)
theorem holds : Rows.SymbolSumCardSaid :=
  Claim7.holds_tied_plain_at .later [] _ _ _ _ said (fun _ h => by cases h) (by kernel_rfl) (fun _ h => by cases h) symbolSum_row_tie rfl ⟨rfl, rfl⟩ (by kernel_rfl) rfl plain (by kernel_rfl)
end Go.Proofs.YtejmmglffmckeaaGreatDoor.symbolSum
