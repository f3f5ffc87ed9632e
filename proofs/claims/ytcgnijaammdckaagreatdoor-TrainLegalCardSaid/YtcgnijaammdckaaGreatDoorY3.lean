/- TrainLegal returns true. -/
import Derived.Test.YtcgnijaammdckaaGreatDoorY1
import Derived.Test.YtcgnijaammdckaaGreatDoorY2
set_option linter.unusedSimpArgs false
set_option linter.unusedVariables false
namespace Go.Proofs.YtcgnijaammdckaaGreatDoor.S
open Go.QfSy Go.RowKit

theorem legal_eq (e d s : Int) (o : Bool) (t : Int) : legalT_v e d s o t = legalR_v e d s o t := rfl
theorem legal_eq' (e d s : Int) (o : Bool) (t : Int) : (legalT_v e d s o t == legalR_v e d s o t) = true := by rw [legal_eq]; simp

noncomputable def entsL : List OEnt := [
  ⟨15, [], fun A => match A with
    | [.agg [.int .i64 e, .int .i64 d, .int .i64 s, .bool o, .int .i64 t]] => some (.bool (legalT_v e d s o t), [])
    | _ => none⟩,
  ⟨16, [], fun A => match A with
    | [.agg [.int .i64 e, .int .i64 d, .int .i64 s, .bool o, .int .i64 t]] => some (.bool (legalR_v e d s o t), [])
    | _ => none⟩,
  ⟨17, tabs, fun A => match A with
    | [] => some (.bool true, [])
    | _ => none⟩]
theorem entsL_ok : ∀ e ∈ entsL, EntOk Tryz.prog e := by
  intro e he
  simp only [entsL, List.mem_cons, List.not_mem_nil, or_false] at he
  rcases he with rfl | rfl | rfl
  all_goals
    intro A R ms h hm
    simp only at h
    split at h
    all_goals first | (cases h; done) | cases h
  · exact legalT _ _ _ _ _
  · exact legalR _ _ _ _ _
  · exact awake_pure

set_option maxRecDepth 100000 in
theorem trainLegal_pure (e d s : Int) (o : Bool) (t : Int) (x0 x1 x2 x3 : Int) (odd made : Bool) : PureC Tryz.prog tabs 3 [.agg (Con.mk e d s o t).rvs, .agg [.int .u8 x0, .int .u8 x1, .int .u8 x2, .int .u8 x3], .bool odd, .bool made] (.bool true) := by
  rcases Bool.eq_false_or_eq_true (made) with d1 | d1
  · -- true
    rcases Bool.eq_false_or_eq_true (legalT_v ((IntKind.i64.wrap x0).tmod (62 : Int)) ((IntKind.i64.wrap x1).tmod (10 : Int)) (IntKind.i64.wrap ((1 : Int) - IntKind.i64.wrap ((2 : Int) * IntKind.i64.wrap (x2.tmod (2 : Int))))) odd ((IntKind.i64.wrap x3).tmod (9 : Int)) == legalR_v ((IntKind.i64.wrap x0).tmod (62 : Int)) ((IntKind.i64.wrap x1).tmod (10 : Int)) (IntKind.i64.wrap ((1 : Int) - IntKind.i64.wrap ((2 : Int) * IntKind.i64.wrap (x2.tmod (2 : Int))))) odd ((IntKind.i64.wrap x3).tmod (9 : Int))) with d2 | d2
    · -- true
      exact pure_run evOk (callF_ok evOk (orcOf_ok entsL_ok) 8) Tryz.func3 rfl none_ann rfl rfl evNg (tp := [true, true]) (ms := [true = true, Dec (legalT_v ((IntKind.i64.wrap x0).tmod (62 : Int)) ((IntKind.i64.wrap x1).tmod (10 : Int)) (IntKind.i64.wrap ((1 : Int) - IntKind.i64.wrap ((2 : Int) * IntKind.i64.wrap (x2.tmod (2 : Int))))) odd ((IntKind.i64.wrap x3).tmod (9 : Int)) == legalR_v ((IntKind.i64.wrap x0).tmod (62 : Int)) ((IntKind.i64.wrap x1).tmod (10 : Int)) (IntKind.i64.wrap ((1 : Int) - IntKind.i64.wrap ((2 : Int) * IntKind.i64.wrap (x2.tmod (2 : Int))))) odd ((IntKind.i64.wrap x3).tmod (9 : Int))) true, (IntKind.i64.wrap x0).tmod (62 : Int) = (IntKind.i64.wrap x0).tmod (62 : Int), (IntKind.i64.wrap x1).tmod (10 : Int) = (IntKind.i64.wrap x1).tmod (10 : Int), IntKind.i64.wrap ((1 : Int) - IntKind.i64.wrap ((2 : Int) * IntKind.i64.wrap (x2.tmod (2 : Int)))) = IntKind.i64.wrap ((1 : Int) - IntKind.i64.wrap ((2 : Int) * IntKind.i64.wrap (x2.tmod (2 : Int)))), odd = odd, (IntKind.i64.wrap x3).tmod (9 : Int) = (IntKind.i64.wrap x3).tmod (9 : Int), (9 : Int) ≠ (0 : Int), (2 : Int) ≠ (0 : Int), (10 : Int) ≠ (0 : Int), (62 : Int) ≠ (0 : Int), Dec made true]) (by kernel_rfl) ⟨(by first | decide | rfl), (d2), (by first | decide | rfl), (by first | decide | rfl), (by first | decide | rfl), (by first | decide | rfl), (by first | decide | rfl), (by first | decide | rfl), (by first | decide | rfl), (by first | decide | rfl), (by first | decide | rfl), (d1)⟩
    · -- false
      exfalso
      rw [legal_eq'] at d2; cases d2
  · -- false
    rcases Bool.eq_false_or_eq_true (legalT_v e d s o t == legalR_v e d s o t) with d2 | d2
    · -- true
      exact pure_run evOk (callF_ok evOk (orcOf_ok entsL_ok) 8) Tryz.func3 rfl none_ann rfl rfl evNg (tp := [false, true]) (ms := [true = true, Dec (legalT_v e d s o t == legalR_v e d s o t) true, e = e, d = d, s = s, o = o, t = t, Dec made false]) (by kernel_rfl) ⟨(by first | decide | rfl), (d2), (by first | decide | rfl), (by first | decide | rfl), (by first | decide | rfl), (by first | decide | rfl), (by first | decide | rfl), (d1)⟩
    · -- false
      exfalso
      rw [legal_eq'] at d2; cases d2
end Go.Proofs.YtcgnijaammdckaaGreatDoor.S
