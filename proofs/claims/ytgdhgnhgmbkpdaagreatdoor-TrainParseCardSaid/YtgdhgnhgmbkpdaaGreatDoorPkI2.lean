/- A part of the proof of TiedTrainParse: YB, YC, YD, YK, YL, VQ, VE, YX, W1, W2, C, W3, W4, W5, D, W6, W7, W8, W9, YS, YE, KQ, Y4, YZ, FS, SQ, VA, VB, TA, TB, TE, TM. -/
import Derived.Test.YtgdhgnhgmbkpdaaGreatDoorPkI1
import Derived.Test.YtgdhgnhgmbkpdaaGreatDoorChecked
import Derived.WalkKit
import Derived.Lib.Hide
import Derived.Laws.Rows
import Derived.WalkMore
import Derived.Below
import Derived.BigQuiet
import Derived.Deep.QuietTactic
import Derived.Deep.RegionWith
import Derived.Deep.RegionHeld3
import Derived.Laws.StructEq
import Derived.BigRegion
import Derived.StillTailTactics
import Derived.Laws.AppendOwn
import Derived.OwnWalk
import Derived.WalkSpells
set_option linter.unusedSimpArgs false
set_option linter.unusedVariables false
set_option maxRecDepth 100000
namespace Go.Proofs.YtgdhgnhgmbkpdaaGreatDoor.S
open Go.QfSy Go.RowKit
noncomputable def oddityF_v (d s k : Int) : Int := (bif (IntKind.i64.wrap (IntKind.i64.wrap (k.tmod (8 : Int)) - d)).tmod (2 : Int) == (0 : Int) then (bif d == (1 : Int) then (bif IntKind.i64.wrap (k.tmod (8 : Int)) == (1 : Int) then (bif s == (1 : Int) then (bif d == (2 : Int) then (bif IntKind.i64.wrap (k.tmod (8 : Int)) == (4 : Int) then (2 : Int) else (bif s == (-1 : Int) then (bif IntKind.i64.wrap (k.tmod (8 : Int)) == (0 : Int) then (2 : Int) else (IntKind.i64.wrap (k.tmod (8 : Int)))) else (IntKind.i64.wrap (k.tmod (8 : Int))))) else (IntKind.i64.wrap (k.tmod (8 : Int)))) else ((IntKind.i64.wrap (IntKind.i64.wrap (k.tmod (8 : Int)) + (4 : Int))).tmod (8 : Int))) else (bif (IntKind.i64.wrap (k.tmod (8 : Int)) == (7 : Int)) == (s == (1 : Int)) then (bif d == (2 : Int) then (bif s == (1 : Int) then (bif IntKind.i64.wrap (k.tmod (8 : Int)) == (4 : Int) then (2 : Int) else (bif s == (-1 : Int) then (bif IntKind.i64.wrap (k.tmod (8 : Int)) == (0 : Int) then (2 : Int) else (IntKind.i64.wrap (k.tmod (8 : Int)))) else (IntKind.i64.wrap (k.tmod (8 : Int))))) else (bif s == (-1 : Int) then (bif IntKind.i64.wrap (k.tmod (8 : Int)) == (0 : Int) then (2 : Int) else (IntKind.i64.wrap (k.tmod (8 : Int)))) else (IntKind.i64.wrap (k.tmod (8 : Int))))) else (IntKind.i64.wrap (k.tmod (8 : Int)))) else ((IntKind.i64.wrap (IntKind.i64.wrap (k.tmod (8 : Int)) + (4 : Int))).tmod (8 : Int)))) else (bif d == (2 : Int) then (bif s == (1 : Int) then (bif IntKind.i64.wrap (k.tmod (8 : Int)) == (4 : Int) then (2 : Int) else (bif s == (-1 : Int) then (bif IntKind.i64.wrap (k.tmod (8 : Int)) == (0 : Int) then (2 : Int) else (IntKind.i64.wrap (k.tmod (8 : Int)))) else (IntKind.i64.wrap (k.tmod (8 : Int))))) else (bif s == (-1 : Int) then (bif IntKind.i64.wrap (k.tmod (8 : Int)) == (0 : Int) then (2 : Int) else (IntKind.i64.wrap (k.tmod (8 : Int)))) else (IntKind.i64.wrap (k.tmod (8 : Int))))) else (IntKind.i64.wrap (k.tmod (8 : Int))))) else (bif d == (1 : Int) then (bif (IntKind.i64.wrap (IntKind.i64.wrap (k.tmod (8 : Int)) + (1 : Int))).tmod (8 : Int) == (1 : Int) then (bif s == (1 : Int) then (bif d == (2 : Int) then (bif (IntKind.i64.wrap (IntKind.i64.wrap (k.tmod (8 : Int)) + (1 : Int))).tmod (8 : Int) == (4 : Int) then (2 : Int) else (bif s == (-1 : Int) then (bif (IntKind.i64.wrap (IntKind.i64.wrap (k.tmod (8 : Int)) + (1 : Int))).tmod (8 : Int) == (0 : Int) then (2 : Int) else ((IntKind.i64.wrap (IntKind.i64.wrap (k.tmod (8 : Int)) + (1 : Int))).tmod (8 : Int))) else ((IntKind.i64.wrap (IntKind.i64.wrap (k.tmod (8 : Int)) + (1 : Int))).tmod (8 : Int)))) else ((IntKind.i64.wrap (IntKind.i64.wrap (k.tmod (8 : Int)) + (1 : Int))).tmod (8 : Int))) else ((IntKind.i64.wrap ((IntKind.i64.wrap (IntKind.i64.wrap (k.tmod (8 : Int)) + (1 : Int))).tmod (8 : Int) + (4 : Int))).tmod (8 : Int))) else (bif ((IntKind.i64.wrap (IntKind.i64.wrap (k.tmod (8 : Int)) + (1 : Int))).tmod (8 : Int) == (7 : Int)) == (s == (1 : Int)) then (bif d == (2 : Int) then (bif s == (1 : Int) then (bif (IntKind.i64.wrap (IntKind.i64.wrap (k.tmod (8 : Int)) + (1 : Int))).tmod (8 : Int) == (4 : Int) then (2 : Int) else (bif s == (-1 : Int) then (bif (IntKind.i64.wrap (IntKind.i64.wrap (k.tmod (8 : Int)) + (1 : Int))).tmod (8 : Int) == (0 : Int) then (2 : Int) else ((IntKind.i64.wrap (IntKind.i64.wrap (k.tmod (8 : Int)) + (1 : Int))).tmod (8 : Int))) else ((IntKind.i64.wrap (IntKind.i64.wrap (k.tmod (8 : Int)) + (1 : Int))).tmod (8 : Int)))) else (bif s == (-1 : Int) then (bif (IntKind.i64.wrap (IntKind.i64.wrap (k.tmod (8 : Int)) + (1 : Int))).tmod (8 : Int) == (0 : Int) then (2 : Int) else ((IntKind.i64.wrap (IntKind.i64.wrap (k.tmod (8 : Int)) + (1 : Int))).tmod (8 : Int))) else ((IntKind.i64.wrap (IntKind.i64.wrap (k.tmod (8 : Int)) + (1 : Int))).tmod (8 : Int)))) else ((IntKind.i64.wrap (IntKind.i64.wrap (k.tmod (8 : Int)) + (1 : Int))).tmod (8 : Int))) else ((IntKind.i64.wrap ((IntKind.i64.wrap (IntKind.i64.wrap (k.tmod (8 : Int)) + (1 : Int))).tmod (8 : Int) + (4 : Int))).tmod (8 : Int)))) else (bif d == (2 : Int) then (bif s == (1 : Int) then (bif (IntKind.i64.wrap (IntKind.i64.wrap (k.tmod (8 : Int)) + (1 : Int))).tmod (8 : Int) == (4 : Int) then (2 : Int) else (bif s == (-1 : Int) then (bif (IntKind.i64.wrap (IntKind.i64.wrap (k.tmod (8 : Int)) + (1 : Int))).tmod (8 : Int) == (0 : Int) then (2 : Int) else ((IntKind.i64.wrap (IntKind.i64.wrap (k.tmod (8 : Int)) + (1 : Int))).tmod (8 : Int))) else ((IntKind.i64.wrap (IntKind.i64.wrap (k.tmod (8 : Int)) + (1 : Int))).tmod (8 : Int)))) else (bif s == (-1 : Int) then (bif (IntKind.i64.wrap (IntKind.i64.wrap (k.tmod (8 : Int)) + (1 : Int))).tmod (8 : Int) == (0 : Int) then (2 : Int) else ((IntKind.i64.wrap (IntKind.i64.wrap (k.tmod (8 : Int)) + (1 : Int))).tmod (8 : Int))) else ((IntKind.i64.wrap (IntKind.i64.wrap (k.tmod (8 : Int)) + (1 : Int))).tmod (8 : Int)))) else ((IntKind.i64.wrap (IntKind.i64.wrap (k.tmod (8 : Int)) + (1 : Int))).tmod (8 : Int)))))
theorem oddityF (d s k : Int) : PureC Tryz.prog [] 102 [.int .i64 d, .int .i64 s, .int .u8 k] (.int .i64 (oddityF_v d s k)) := by
  have rr := fun (tp : List Bool) (ms : List Prop) h hm => pure_run evOk (callF_ok evOk (noOrc_ok _ _) 8) Tryz.func102 (A := [.int .i64 d, .int .i64 s, .int .u8 k]) rfl none_ann rfl rfl evNg (tabs := []) (R := .int .i64 (oddityF_v d s k)) (tp := tp) (ms := ms) h hm
  refine oe ((IntKind.i64.wrap (IntKind.i64.wrap (k.tmod (8 : Int)) - d)).tmod (2 : Int) == 0) (fun d1 => oe (d == 1) (fun d2 => oe (IntKind.i64.wrap (k.tmod (8 : Int)) == 1) (fun d3 => oe (s == 1) (fun d4 => oe (d == 2) (fun d5 => oe (IntKind.i64.wrap (k.tmod (8 : Int)) == 4) (fun d6 => rr [false, true, true, false, true, true, true] [(2 : Int) = oddityF_v d s k, Dec (IntKind.i64.wrap (k.tmod (8 : Int)) == 4) true, Dec (s == 1) true, Dec (d == 2) true, Dec (!true == (s == 1)) false, Dec (IntKind.i64.wrap (k.tmod (8 : Int)) == 1) true, Dec (d == 1) true, Dec ((IntKind.i64.wrap (IntKind.i64.wrap (k.tmod (8 : Int)) - d)).tmod (2 : Int) != (0 : Int)) false, (2 : Int) ≠ (0 : Int), (8 : Int) ≠ (0 : Int)] (by kernel_rfl) ⟨(((ct d1).trans ((ct d2).trans ((ct d3).trans ((ct d4).trans ((ct d5).trans ((ct d6).trans rfl)))))) : oddityF_v d s k = _).symm, d6, d4, d5, (dN (dT d4)), d3, d2, (dN d1), ?_, (?_ : (8 : Int) ≠ (0 : Int))⟩) (fun d6 => oe (s == -1) (fun d7 => oe (IntKind.i64.wrap (k.tmod (8 : Int)) == 0) (fun d8 => rr [false, true, true, false, true, true, false, true, true] [(2 : Int) = oddityF_v d s k, Dec (IntKind.i64.wrap (k.tmod (8 : Int)) == 0) true, Dec (s == -1) true, Dec (IntKind.i64.wrap (k.tmod (8 : Int)) == 4) false, Dec (s == 1) true, Dec (d == 2) true, Dec (!true == (s == 1)) false, Dec (IntKind.i64.wrap (k.tmod (8 : Int)) == 1) true, Dec (d == 1) true, Dec ((IntKind.i64.wrap (IntKind.i64.wrap (k.tmod (8 : Int)) - d)).tmod (2 : Int) != (0 : Int)) false, (2 : Int) ≠ (0 : Int), (8 : Int) ≠ (0 : Int)] (by kernel_rfl) ⟨(((ct d1).trans ((ct d2).trans ((ct d3).trans ((ct d4).trans ((ct d5).trans ((cf d6).trans ((ct d7).trans ((ct d8).trans rfl)))))))) : oddityF_v d s k = _).symm, d8, d7, d6, d4, d5, (dN (dT d4)), d3, d2, (dN d1), ?_, (?_ : (8 : Int) ≠ (0 : Int))⟩) (fun d8 => rr [false, true, true, false, true, true, false, true, false] [(IntKind.i64.wrap (k.tmod (8 : Int))) = oddityF_v d s k, Dec (IntKind.i64.wrap (k.tmod (8 : Int)) == 0) false, Dec (s == -1) true, Dec (IntKind.i64.wrap (k.tmod (8 : Int)) == 4) false, Dec (s == 1) true, Dec (d == 2) true, Dec (!true == (s == 1)) false, Dec (IntKind.i64.wrap (k.tmod (8 : Int)) == 1) true, Dec (d == 1) true, Dec ((IntKind.i64.wrap (IntKind.i64.wrap (k.tmod (8 : Int)) - d)).tmod (2 : Int) != (0 : Int)) false, (2 : Int) ≠ (0 : Int), (8 : Int) ≠ (0 : Int)] (by kernel_rfl) ⟨(((ct d1).trans ((ct d2).trans ((ct d3).trans ((ct d4).trans ((ct d5).trans ((cf d6).trans ((ct d7).trans ((cf d8).trans rfl)))))))) : oddityF_v d s k = _).symm, d8, d7, d6, d4, d5, (dN (dT d4)), d3, d2, (dN d1), ?_, (?_ : (8 : Int) ≠ (0 : Int))⟩)) (fun d7 => rr [false, true, true, false, true, true, false, false] [(IntKind.i64.wrap (k.tmod (8 : Int))) = oddityF_v d s k, Dec (s == -1) false, Dec (IntKind.i64.wrap (k.tmod (8 : Int)) == 4) false, Dec (s == 1) true, Dec (d == 2) true, Dec (!true == (s == 1)) false, Dec (IntKind.i64.wrap (k.tmod (8 : Int)) == 1) true, Dec (d == 1) true, Dec ((IntKind.i64.wrap (IntKind.i64.wrap (k.tmod (8 : Int)) - d)).tmod (2 : Int) != (0 : Int)) false, (2 : Int) ≠ (0 : Int), (8 : Int) ≠ (0 : Int)] (by kernel_rfl) ⟨(((ct d1).trans ((ct d2).trans ((ct d3).trans ((ct d4).trans ((ct d5).trans ((cf d6).trans ((cf d7).trans rfl))))))) : oddityF_v d s k = _).symm, d7, d6, d4, d5, (dN (dT d4)), d3, d2, (dN d1), ?_, (?_ : (8 : Int) ≠ (0 : Int))⟩))) (fun d5 => rr [false, true, true, false, false] [(IntKind.i64.wrap (k.tmod (8 : Int))) = oddityF_v d s k, Dec (d == 2) false, Dec (!true == (s == 1)) false, Dec (IntKind.i64.wrap (k.tmod (8 : Int)) == 1) true, Dec (d == 1) true, Dec ((IntKind.i64.wrap (IntKind.i64.wrap (k.tmod (8 : Int)) - d)).tmod (2 : Int) != (0 : Int)) false, (2 : Int) ≠ (0 : Int), (8 : Int) ≠ (0 : Int)] (by kernel_rfl) ⟨(((ct d1).trans ((ct d2).trans ((ct d3).trans ((ct d4).trans ((cf d5).trans rfl))))) : oddityF_v d s k = _).symm, d5, (dN (dT d4)), d3, d2, (dN d1), ?_, (?_ : (8 : Int) ≠ (0 : Int))⟩)) (fun d4 => rr [false, true, true, true] [((IntKind.i64.wrap (IntKind.i64.wrap (k.tmod (8 : Int)) + 4)).tmod (8 : Int)) = oddityF_v d s k, (8 : Int) ≠ (0 : Int), Dec (!true == (s == 1)) true, Dec (IntKind.i64.wrap (k.tmod (8 : Int)) == 1) true, Dec (d == 1) true, Dec ((IntKind.i64.wrap (IntKind.i64.wrap (k.tmod (8 : Int)) - d)).tmod (2 : Int) != (0 : Int)) false, (2 : Int) ≠ (0 : Int), (8 : Int) ≠ (0 : Int)] (by kernel_rfl) ⟨(((ct d1).trans ((ct d2).trans ((ct d3).trans ((cf d4).trans rfl)))) : oddityF_v d s k = _).symm, ?_, (dN (dT d4)), d3, d2, (dN d1), ?_, (?_ : (8 : Int) ≠ (0 : Int))⟩)) (fun d3 => oe ((IntKind.i64.wrap (k.tmod (8 : Int)) == 7) == (s == 1)) (fun d4 => oe (d == 2) (fun d5 => oe (s == 1) (fun d6 => oe (IntKind.i64.wrap (k.tmod (8 : Int)) == 4) (fun d7 => rr [false, true, false, false, true, true, true] [(2 : Int) = oddityF_v d s k, Dec (IntKind.i64.wrap (k.tmod (8 : Int)) == 4) true, Dec (s == 1) true, Dec (d == 2) true, Dec (!(IntKind.i64.wrap (k.tmod (8 : Int)) == 7) == (s == 1)) false, Dec (IntKind.i64.wrap (k.tmod (8 : Int)) == 1) false, Dec (d == 1) true, Dec ((IntKind.i64.wrap (IntKind.i64.wrap (k.tmod (8 : Int)) - d)).tmod (2 : Int) != (0 : Int)) false, (2 : Int) ≠ (0 : Int), (8 : Int) ≠ (0 : Int)] (by kernel_rfl) ⟨(((ct d1).trans ((ct d2).trans ((cf d3).trans ((ct d4).trans ((ct d5).trans ((ct d6).trans ((ct d7).trans rfl))))))) : oddityF_v d s k = _).symm, d7, d6, d5, (dN d4), d3, d2, (dN d1), ?_, (?_ : (8 : Int) ≠ (0 : Int))⟩) (fun d7 => oe (s == -1) (fun d8 => oe (IntKind.i64.wrap (k.tmod (8 : Int)) == 0) (fun d9 => rr [false, true, false, false, true, true, false, true, true] [(2 : Int) = oddityF_v d s k, Dec (IntKind.i64.wrap (k.tmod (8 : Int)) == 0) true, Dec (s == -1) true, Dec (IntKind.i64.wrap (k.tmod (8 : Int)) == 4) false, Dec (s == 1) true, Dec (d == 2) true, Dec (!(IntKind.i64.wrap (k.tmod (8 : Int)) == 7) == (s == 1)) false, Dec (IntKind.i64.wrap (k.tmod (8 : Int)) == 1) false, Dec (d == 1) true, Dec ((IntKind.i64.wrap (IntKind.i64.wrap (k.tmod (8 : Int)) - d)).tmod (2 : Int) != (0 : Int)) false, (2 : Int) ≠ (0 : Int), (8 : Int) ≠ (0 : Int)] (by kernel_rfl) ⟨(((ct d1).trans ((ct d2).trans ((cf d3).trans ((ct d4).trans ((ct d5).trans ((ct d6).trans ((cf d7).trans ((ct d8).trans ((ct d9).trans rfl))))))))) : oddityF_v d s k = _).symm, d9, d8, d7, d6, d5, (dN d4), d3, d2, (dN d1), ?_, (?_ : (8 : Int) ≠ (0 : Int))⟩) (fun d9 => rr [false, true, false, false, true, true, false, true, false] [(IntKind.i64.wrap (k.tmod (8 : Int))) = oddityF_v d s k, Dec (IntKind.i64.wrap (k.tmod (8 : Int)) == 0) false, Dec (s == -1) true, Dec (IntKind.i64.wrap (k.tmod (8 : Int)) == 4) false, Dec (s == 1) true, Dec (d == 2) true, Dec (!(IntKind.i64.wrap (k.tmod (8 : Int)) == 7) == (s == 1)) false, Dec (IntKind.i64.wrap (k.tmod (8 : Int)) == 1) false, Dec (d == 1) true, Dec ((IntKind.i64.wrap (IntKind.i64.wrap (k.tmod (8 : Int)) - d)).tmod (2 : Int) != (0 : Int)) false, (2 : Int) ≠ (0 : Int), (8 : Int) ≠ (0 : Int)] (by kernel_rfl) ⟨(((ct d1).trans ((ct d2).trans ((cf d3).trans ((ct d4).trans ((ct d5).trans ((ct d6).trans ((cf d7).trans ((ct d8).trans ((cf d9).trans rfl))))))))) : oddityF_v d s k = _).symm, d9, d8, d7, d6, d5, (dN d4), d3, d2, (dN d1), ?_, (?_ : (8 : Int) ≠ (0 : Int))⟩)) (fun d8 => rr [false, true, false, false, true, true, false, false] [(IntKind.i64.wrap (k.tmod (8 : Int))) = oddityF_v d s k, Dec (s == -1) false, Dec (IntKind.i64.wrap (k.tmod (8 : Int)) == 4) false, Dec (s == 1) true, Dec (d == 2) true, Dec (!(IntKind.i64.wrap (k.tmod (8 : Int)) == 7) == (s == 1)) false, Dec (IntKind.i64.wrap (k.tmod (8 : Int)) == 1) false, Dec (d == 1) true, Dec ((IntKind.i64.wrap (IntKind.i64.wrap (k.tmod (8 : Int)) - d)).tmod (2 : Int) != (0 : Int)) false, (2 : Int) ≠ (0 : Int), (8 : Int) ≠ (0 : Int)] (by kernel_rfl) ⟨(((ct d1).trans ((ct d2).trans ((cf d3).trans ((ct d4).trans ((ct d5).trans ((ct d6).trans ((cf d7).trans ((cf d8).trans rfl)))))))) : oddityF_v d s k = _).symm, d8, d7, d6, d5, (dN d4), d3, d2, (dN d1), ?_, (?_ : (8 : Int) ≠ (0 : Int))⟩))) (fun d6 => oe (s == -1) (fun d7 => oe (IntKind.i64.wrap (k.tmod (8 : Int)) == 0) (fun d8 => rr [false, true, false, false, true, false, true, true] [(2 : Int) = oddityF_v d s k, Dec (IntKind.i64.wrap (k.tmod (8 : Int)) == 0) true, Dec (s == -1) true, Dec (s == 1) false, Dec (d == 2) true, Dec (!(IntKind.i64.wrap (k.tmod (8 : Int)) == 7) == (s == 1)) false, Dec (IntKind.i64.wrap (k.tmod (8 : Int)) == 1) false, Dec (d == 1) true, Dec ((IntKind.i64.wrap (IntKind.i64.wrap (k.tmod (8 : Int)) - d)).tmod (2 : Int) != (0 : Int)) false, (2 : Int) ≠ (0 : Int), (8 : Int) ≠ (0 : Int)] (by kernel_rfl) ⟨(((ct d1).trans ((ct d2).trans ((cf d3).trans ((ct d4).trans ((ct d5).trans ((cf d6).trans ((ct d7).trans ((ct d8).trans rfl)))))))) : oddityF_v d s k = _).symm, d8, d7, d6, d5, (dN d4), d3, d2, (dN d1), ?_, (?_ : (8 : Int) ≠ (0 : Int))⟩) (fun d8 => rr [false, true, false, false, true, false, true, false] [(IntKind.i64.wrap (k.tmod (8 : Int))) = oddityF_v d s k, Dec (IntKind.i64.wrap (k.tmod (8 : Int)) == 0) false, Dec (s == -1) true, Dec (s == 1) false, Dec (d == 2) true, Dec (!(IntKind.i64.wrap (k.tmod (8 : Int)) == 7) == (s == 1)) false, Dec (IntKind.i64.wrap (k.tmod (8 : Int)) == 1) false, Dec (d == 1) true, Dec ((IntKind.i64.wrap (IntKind.i64.wrap (k.tmod (8 : Int)) - d)).tmod (2 : Int) != (0 : Int)) false, (2 : Int) ≠ (0 : Int), (8 : Int) ≠ (0 : Int)] (by kernel_rfl) ⟨(((ct d1).trans ((ct d2).trans ((cf d3).trans ((ct d4).trans ((ct d5).trans ((cf d6).trans ((ct d7).trans ((cf d8).trans rfl)))))))) : oddityF_v d s k = _).symm, d8, d7, d6, d5, (dN d4), d3, d2, (dN d1), ?_, (?_ : (8 : Int) ≠ (0 : Int))⟩)) (fun d7 => rr [false, true, false, false, true, false, false] [(IntKind.i64.wrap (k.tmod (8 : Int))) = oddityF_v d s k, Dec (s == -1) false, Dec (s == 1) false, Dec (d == 2) true, Dec (!(IntKind.i64.wrap (k.tmod (8 : Int)) == 7) == (s == 1)) false, Dec (IntKind.i64.wrap (k.tmod (8 : Int)) == 1) false, Dec (d == 1) true, Dec ((IntKind.i64.wrap (IntKind.i64.wrap (k.tmod (8 : Int)) - d)).tmod (2 : Int) != (0 : Int)) false, (2 : Int) ≠ (0 : Int), (8 : Int) ≠ (0 : Int)] (by kernel_rfl) ⟨(((ct d1).trans ((ct d2).trans ((cf d3).trans ((ct d4).trans ((ct d5).trans ((cf d6).trans ((cf d7).trans rfl))))))) : oddityF_v d s k = _).symm, d7, d6, d5, (dN d4), d3, d2, (dN d1), ?_, (?_ : (8 : Int) ≠ (0 : Int))⟩))) (fun d5 => rr [false, true, false, false, false] [(IntKind.i64.wrap (k.tmod (8 : Int))) = oddityF_v d s k, Dec (d == 2) false, Dec (!(IntKind.i64.wrap (k.tmod (8 : Int)) == 7) == (s == 1)) false, Dec (IntKind.i64.wrap (k.tmod (8 : Int)) == 1) false, Dec (d == 1) true, Dec ((IntKind.i64.wrap (IntKind.i64.wrap (k.tmod (8 : Int)) - d)).tmod (2 : Int) != (0 : Int)) false, (2 : Int) ≠ (0 : Int), (8 : Int) ≠ (0 : Int)] (by kernel_rfl) ⟨(((ct d1).trans ((ct d2).trans ((cf d3).trans ((ct d4).trans ((cf d5).trans rfl))))) : oddityF_v d s k = _).symm, d5, (dN d4), d3, d2, (dN d1), ?_, (?_ : (8 : Int) ≠ (0 : Int))⟩)) (fun d4 => rr [false, true, false, true] [((IntKind.i64.wrap (IntKind.i64.wrap (k.tmod (8 : Int)) + 4)).tmod (8 : Int)) = oddityF_v d s k, (8 : Int) ≠ (0 : Int), Dec (!(IntKind.i64.wrap (k.tmod (8 : Int)) == 7) == (s == 1)) true, Dec (IntKind.i64.wrap (k.tmod (8 : Int)) == 1) false, Dec (d == 1) true, Dec ((IntKind.i64.wrap (IntKind.i64.wrap (k.tmod (8 : Int)) - d)).tmod (2 : Int) != (0 : Int)) false, (2 : Int) ≠ (0 : Int), (8 : Int) ≠ (0 : Int)] (by kernel_rfl) ⟨(((ct d1).trans ((ct d2).trans ((cf d3).trans ((cf d4).trans rfl)))) : oddityF_v d s k = _).symm, ?_, (dN d4), d3, d2, (dN d1), ?_, (?_ : (8 : Int) ≠ (0 : Int))⟩))) (fun d2 => oe (d == 2) (fun d3 => oe (s == 1) (fun d4 => oe (IntKind.i64.wrap (k.tmod (8 : Int)) == 4) (fun d5 => rr [false, false, true, true, true] [(2 : Int) = oddityF_v d s k, Dec (IntKind.i64.wrap (k.tmod (8 : Int)) == 4) true, Dec (s == 1) true, Dec (d == 2) true, Dec (d == 1) false, Dec ((IntKind.i64.wrap (IntKind.i64.wrap (k.tmod (8 : Int)) - d)).tmod (2 : Int) != (0 : Int)) false, (2 : Int) ≠ (0 : Int), (8 : Int) ≠ (0 : Int)] (by kernel_rfl) ⟨(((ct d1).trans ((cf d2).trans ((ct d3).trans ((ct d4).trans ((ct d5).trans rfl))))) : oddityF_v d s k = _).symm, d5, d4, d3, d2, (dN d1), ?_, (?_ : (8 : Int) ≠ (0 : Int))⟩) (fun d5 => oe (s == -1) (fun d6 => oe (IntKind.i64.wrap (k.tmod (8 : Int)) == 0) (fun d7 => rr [false, false, true, true, false, true, true] [(2 : Int) = oddityF_v d s k, Dec (IntKind.i64.wrap (k.tmod (8 : Int)) == 0) true, Dec (s == -1) true, Dec (IntKind.i64.wrap (k.tmod (8 : Int)) == 4) false, Dec (s == 1) true, Dec (d == 2) true, Dec (d == 1) false, Dec ((IntKind.i64.wrap (IntKind.i64.wrap (k.tmod (8 : Int)) - d)).tmod (2 : Int) != (0 : Int)) false, (2 : Int) ≠ (0 : Int), (8 : Int) ≠ (0 : Int)] (by kernel_rfl) ⟨(((ct d1).trans ((cf d2).trans ((ct d3).trans ((ct d4).trans ((cf d5).trans ((ct d6).trans ((ct d7).trans rfl))))))) : oddityF_v d s k = _).symm, d7, d6, d5, d4, d3, d2, (dN d1), ?_, (?_ : (8 : Int) ≠ (0 : Int))⟩) (fun d7 => rr [false, false, true, true, false, true, false] [(IntKind.i64.wrap (k.tmod (8 : Int))) = oddityF_v d s k, Dec (IntKind.i64.wrap (k.tmod (8 : Int)) == 0) false, Dec (s == -1) true, Dec (IntKind.i64.wrap (k.tmod (8 : Int)) == 4) false, Dec (s == 1) true, Dec (d == 2) true, Dec (d == 1) false, Dec ((IntKind.i64.wrap (IntKind.i64.wrap (k.tmod (8 : Int)) - d)).tmod (2 : Int) != (0 : Int)) false, (2 : Int) ≠ (0 : Int), (8 : Int) ≠ (0 : Int)] (by kernel_rfl) ⟨(((ct d1).trans ((cf d2).trans ((ct d3).trans ((ct d4).trans ((cf d5).trans ((ct d6).trans ((cf d7).trans rfl))))))) : oddityF_v d s k = _).symm, d7, d6, d5, d4, d3, d2, (dN d1), ?_, (?_ : (8 : Int) ≠ (0 : Int))⟩)) (fun d6 => rr [false, false, true, true, false, false] [(IntKind.i64.wrap (k.tmod (8 : Int))) = oddityF_v d s k, Dec (s == -1) false, Dec (IntKind.i64.wrap (k.tmod (8 : Int)) == 4) false, Dec (s == 1) true, Dec (d == 2) true, Dec (d == 1) false, Dec ((IntKind.i64.wrap (IntKind.i64.wrap (k.tmod (8 : Int)) - d)).tmod (2 : Int) != (0 : Int)) false, (2 : Int) ≠ (0 : Int), (8 : Int) ≠ (0 : Int)] (by kernel_rfl) ⟨(((ct d1).trans ((cf d2).trans ((ct d3).trans ((ct d4).trans ((cf d5).trans ((cf d6).trans rfl)))))) : oddityF_v d s k = _).symm, d6, d5, d4, d3, d2, (dN d1), ?_, (?_ : (8 : Int) ≠ (0 : Int))⟩))) (fun d4 => oe (s == -1) (fun d5 => oe (IntKind.i64.wrap (k.tmod (8 : Int)) == 0) (fun d6 => rr [false, false, true, false, true, true] [(2 : Int) = oddityF_v d s k, Dec (IntKind.i64.wrap (k.tmod (8 : Int)) == 0) true, Dec (s == -1) true, Dec (s == 1) false, Dec (d == 2) true, Dec (d == 1) false, Dec ((IntKind.i64.wrap (IntKind.i64.wrap (k.tmod (8 : Int)) - d)).tmod (2 : Int) != (0 : Int)) false, (2 : Int) ≠ (0 : Int), (8 : Int) ≠ (0 : Int)] (by kernel_rfl) ⟨(((ct d1).trans ((cf d2).trans ((ct d3).trans ((cf d4).trans ((ct d5).trans ((ct d6).trans rfl)))))) : oddityF_v d s k = _).symm, d6, d5, d4, d3, d2, (dN d1), ?_, (?_ : (8 : Int) ≠ (0 : Int))⟩) (fun d6 => rr [false, false, true, false, true, false] [(IntKind.i64.wrap (k.tmod (8 : Int))) = oddityF_v d s k, Dec (IntKind.i64.wrap (k.tmod (8 : Int)) == 0) false, Dec (s == -1) true, Dec (s == 1) false, Dec (d == 2) true, Dec (d == 1) false, Dec ((IntKind.i64.wrap (IntKind.i64.wrap (k.tmod (8 : Int)) - d)).tmod (2 : Int) != (0 : Int)) false, (2 : Int) ≠ (0 : Int), (8 : Int) ≠ (0 : Int)] (by kernel_rfl) ⟨(((ct d1).trans ((cf d2).trans ((ct d3).trans ((cf d4).trans ((ct d5).trans ((cf d6).trans rfl)))))) : oddityF_v d s k = _).symm, d6, d5, d4, d3, d2, (dN d1), ?_, (?_ : (8 : Int) ≠ (0 : Int))⟩)) (fun d5 => rr [false, false, true, false, false] [(IntKind.i64.wrap (k.tmod (8 : Int))) = oddityF_v d s k, Dec (s == -1) false, Dec (s == 1) false, Dec (d == 2) true, Dec (d == 1) false, Dec ((IntKind.i64.wrap (IntKind.i64.wrap (k.tmod (8 : Int)) - d)).tmod (2 : Int) != (0 : Int)) false, (2 : Int) ≠ (0 : Int), (8 : Int) ≠ (0 : Int)] (by kernel_rfl) ⟨(((ct d1).trans ((cf d2).trans ((ct d3).trans ((cf d4).trans ((cf d5).trans rfl))))) : oddityF_v d s k = _).symm, d5, d4, d3, d2, (dN d1), ?_, (?_ : (8 : Int) ≠ (0 : Int))⟩))) (fun d3 => rr [false, false, false] [(IntKind.i64.wrap (k.tmod (8 : Int))) = oddityF_v d s k, Dec (d == 2) false, Dec (d == 1) false, Dec ((IntKind.i64.wrap (IntKind.i64.wrap (k.tmod (8 : Int)) - d)).tmod (2 : Int) != (0 : Int)) false, (2 : Int) ≠ (0 : Int), (8 : Int) ≠ (0 : Int)] (by kernel_rfl) ⟨(((ct d1).trans ((cf d2).trans ((cf d3).trans rfl))) : oddityF_v d s k = _).symm, d3, d2, (dN d1), ?_, (?_ : (8 : Int) ≠ (0 : Int))⟩))) (fun d1 => oe (d == 1) (fun d2 => oe ((IntKind.i64.wrap (IntKind.i64.wrap (k.tmod (8 : Int)) + 1)).tmod (8 : Int) == 1) (fun d3 => oe (s == 1) (fun d4 => oe (d == 2) (fun d5 => oe ((IntKind.i64.wrap (IntKind.i64.wrap (k.tmod (8 : Int)) + 1)).tmod (8 : Int) == 4) (fun d6 => rr [true, true, true, false, true, true, true] [(2 : Int) = oddityF_v d s k, Dec ((IntKind.i64.wrap (IntKind.i64.wrap (k.tmod (8 : Int)) + 1)).tmod (8 : Int) == 4) true, Dec (s == 1) true, Dec (d == 2) true, Dec (!true == (s == 1)) false, Dec ((IntKind.i64.wrap (IntKind.i64.wrap (k.tmod (8 : Int)) + 1)).tmod (8 : Int) == 1) true, Dec (d == 1) true, (8 : Int) ≠ (0 : Int), Dec ((IntKind.i64.wrap (IntKind.i64.wrap (k.tmod (8 : Int)) - d)).tmod (2 : Int) != (0 : Int)) true, (2 : Int) ≠ (0 : Int), (8 : Int) ≠ (0 : Int)] (by kernel_rfl) ⟨(((cf d1).trans ((ct d2).trans ((ct d3).trans ((ct d4).trans ((ct d5).trans ((ct d6).trans rfl)))))) : oddityF_v d s k = _).symm, d6, d4, d5, (dN (dT d4)), d3, d2, ?_, (dN d1), ?_, (?_ : (8 : Int) ≠ (0 : Int))⟩) (fun d6 => oe (s == -1) (fun d7 => oe ((IntKind.i64.wrap (IntKind.i64.wrap (k.tmod (8 : Int)) + 1)).tmod (8 : Int) == 0) (fun d8 => rr [true, true, true, false, true, true, false, true, true] [(2 : Int) = oddityF_v d s k, Dec ((IntKind.i64.wrap (IntKind.i64.wrap (k.tmod (8 : Int)) + 1)).tmod (8 : Int) == 0) true, Dec (s == -1) true, Dec ((IntKind.i64.wrap (IntKind.i64.wrap (k.tmod (8 : Int)) + 1)).tmod (8 : Int) == 4) false, Dec (s == 1) true, Dec (d == 2) true, Dec (!true == (s == 1)) false, Dec ((IntKind.i64.wrap (IntKind.i64.wrap (k.tmod (8 : Int)) + 1)).tmod (8 : Int) == 1) true, Dec (d == 1) true, (8 : Int) ≠ (0 : Int), Dec ((IntKind.i64.wrap (IntKind.i64.wrap (k.tmod (8 : Int)) - d)).tmod (2 : Int) != (0 : Int)) true, (2 : Int) ≠ (0 : Int), (8 : Int) ≠ (0 : Int)] (by kernel_rfl) ⟨(((cf d1).trans ((ct d2).trans ((ct d3).trans ((ct d4).trans ((ct d5).trans ((cf d6).trans ((ct d7).trans ((ct d8).trans rfl)))))))) : oddityF_v d s k = _).symm, d8, d7, d6, d4, d5, (dN (dT d4)), d3, d2, ?_, (dN d1), ?_, (?_ : (8 : Int) ≠ (0 : Int))⟩) (fun d8 => rr [true, true, true, false, true, true, false, true, false] [((IntKind.i64.wrap (IntKind.i64.wrap (k.tmod (8 : Int)) + 1)).tmod (8 : Int)) = oddityF_v d s k, Dec ((IntKind.i64.wrap (IntKind.i64.wrap (k.tmod (8 : Int)) + 1)).tmod (8 : Int) == 0) false, Dec (s == -1) true, Dec ((IntKind.i64.wrap (IntKind.i64.wrap (k.tmod (8 : Int)) + 1)).tmod (8 : Int) == 4) false, Dec (s == 1) true, Dec (d == 2) true, Dec (!true == (s == 1)) false, Dec ((IntKind.i64.wrap (IntKind.i64.wrap (k.tmod (8 : Int)) + 1)).tmod (8 : Int) == 1) true, Dec (d == 1) true, (8 : Int) ≠ (0 : Int), Dec ((IntKind.i64.wrap (IntKind.i64.wrap (k.tmod (8 : Int)) - d)).tmod (2 : Int) != (0 : Int)) true, (2 : Int) ≠ (0 : Int), (8 : Int) ≠ (0 : Int)] (by kernel_rfl) ⟨(((cf d1).trans ((ct d2).trans ((ct d3).trans ((ct d4).trans ((ct d5).trans ((cf d6).trans ((ct d7).trans ((cf d8).trans rfl)))))))) : oddityF_v d s k = _).symm, d8, d7, d6, d4, d5, (dN (dT d4)), d3, d2, ?_, (dN d1), ?_, (?_ : (8 : Int) ≠ (0 : Int))⟩)) (fun d7 => rr [true, true, true, false, true, true, false, false] [((IntKind.i64.wrap (IntKind.i64.wrap (k.tmod (8 : Int)) + 1)).tmod (8 : Int)) = oddityF_v d s k, Dec (s == -1) false, Dec ((IntKind.i64.wrap (IntKind.i64.wrap (k.tmod (8 : Int)) + 1)).tmod (8 : Int) == 4) false, Dec (s == 1) true, Dec (d == 2) true, Dec (!true == (s == 1)) false, Dec ((IntKind.i64.wrap (IntKind.i64.wrap (k.tmod (8 : Int)) + 1)).tmod (8 : Int) == 1) true, Dec (d == 1) true, (8 : Int) ≠ (0 : Int), Dec ((IntKind.i64.wrap (IntKind.i64.wrap (k.tmod (8 : Int)) - d)).tmod (2 : Int) != (0 : Int)) true, (2 : Int) ≠ (0 : Int), (8 : Int) ≠ (0 : Int)] (by kernel_rfl) ⟨(((cf d1).trans ((ct d2).trans ((ct d3).trans ((ct d4).trans ((ct d5).trans ((cf d6).trans ((cf d7).trans rfl))))))) : oddityF_v d s k = _).symm, d7, d6, d4, d5, (dN (dT d4)), d3, d2, ?_, (dN d1), ?_, (?_ : (8 : Int) ≠ (0 : Int))⟩))) (fun d5 => rr [true, true, true, false, false] [((IntKind.i64.wrap (IntKind.i64.wrap (k.tmod (8 : Int)) + 1)).tmod (8 : Int)) = oddityF_v d s k, Dec (d == 2) false, Dec (!true == (s == 1)) false, Dec ((IntKind.i64.wrap (IntKind.i64.wrap (k.tmod (8 : Int)) + 1)).tmod (8 : Int) == 1) true, Dec (d == 1) true, (8 : Int) ≠ (0 : Int), Dec ((IntKind.i64.wrap (IntKind.i64.wrap (k.tmod (8 : Int)) - d)).tmod (2 : Int) != (0 : Int)) true, (2 : Int) ≠ (0 : Int), (8 : Int) ≠ (0 : Int)] (by kernel_rfl) ⟨(((cf d1).trans ((ct d2).trans ((ct d3).trans ((ct d4).trans ((cf d5).trans rfl))))) : oddityF_v d s k = _).symm, d5, (dN (dT d4)), d3, d2, ?_, (dN d1), ?_, (?_ : (8 : Int) ≠ (0 : Int))⟩)) (fun d4 => rr [true, true, true, true] [((IntKind.i64.wrap ((IntKind.i64.wrap (IntKind.i64.wrap (k.tmod (8 : Int)) + 1)).tmod (8 : Int) + 4)).tmod (8 : Int)) = oddityF_v d s k, (8 : Int) ≠ (0 : Int), Dec (!true == (s == 1)) true, Dec ((IntKind.i64.wrap (IntKind.i64.wrap (k.tmod (8 : Int)) + 1)).tmod (8 : Int) == 1) true, Dec (d == 1) true, (8 : Int) ≠ (0 : Int), Dec ((IntKind.i64.wrap (IntKind.i64.wrap (k.tmod (8 : Int)) - d)).tmod (2 : Int) != (0 : Int)) true, (2 : Int) ≠ (0 : Int), (8 : Int) ≠ (0 : Int)] (by kernel_rfl) ⟨(((cf d1).trans ((ct d2).trans ((ct d3).trans ((cf d4).trans rfl)))) : oddityF_v d s k = _).symm, ?_, (dN (dT d4)), d3, d2, ?_, (dN d1), ?_, (?_ : (8 : Int) ≠ (0 : Int))⟩)) (fun d3 => oe (((IntKind.i64.wrap (IntKind.i64.wrap (k.tmod (8 : Int)) + 1)).tmod (8 : Int) == 7) == (s == 1)) (fun d4 => oe (d == 2) (fun d5 => oe (s == 1) (fun d6 => oe ((IntKind.i64.wrap (IntKind.i64.wrap (k.tmod (8 : Int)) + 1)).tmod (8 : Int) == 4) (fun d7 => rr [true, true, false, false, true, true, true] [(2 : Int) = oddityF_v d s k, Dec ((IntKind.i64.wrap (IntKind.i64.wrap (k.tmod (8 : Int)) + 1)).tmod (8 : Int) == 4) true, Dec (s == 1) true, Dec (d == 2) true, Dec (!((IntKind.i64.wrap (IntKind.i64.wrap (k.tmod (8 : Int)) + 1)).tmod (8 : Int) == 7) == (s == 1)) false, Dec ((IntKind.i64.wrap (IntKind.i64.wrap (k.tmod (8 : Int)) + 1)).tmod (8 : Int) == 1) false, Dec (d == 1) true, (8 : Int) ≠ (0 : Int), Dec ((IntKind.i64.wrap (IntKind.i64.wrap (k.tmod (8 : Int)) - d)).tmod (2 : Int) != (0 : Int)) true, (2 : Int) ≠ (0 : Int), (8 : Int) ≠ (0 : Int)] (by kernel_rfl) ⟨(((cf d1).trans ((ct d2).trans ((cf d3).trans ((ct d4).trans ((ct d5).trans ((ct d6).trans ((ct d7).trans rfl))))))) : oddityF_v d s k = _).symm, d7, d6, d5, (dN d4), d3, d2, ?_, (dN d1), ?_, (?_ : (8 : Int) ≠ (0 : Int))⟩) (fun d7 => oe (s == -1) (fun d8 => oe ((IntKind.i64.wrap (IntKind.i64.wrap (k.tmod (8 : Int)) + 1)).tmod (8 : Int) == 0) (fun d9 => rr [true, true, false, false, true, true, false, true, true] [(2 : Int) = oddityF_v d s k, Dec ((IntKind.i64.wrap (IntKind.i64.wrap (k.tmod (8 : Int)) + 1)).tmod (8 : Int) == 0) true, Dec (s == -1) true, Dec ((IntKind.i64.wrap (IntKind.i64.wrap (k.tmod (8 : Int)) + 1)).tmod (8 : Int) == 4) false, Dec (s == 1) true, Dec (d == 2) true, Dec (!((IntKind.i64.wrap (IntKind.i64.wrap (k.tmod (8 : Int)) + 1)).tmod (8 : Int) == 7) == (s == 1)) false, Dec ((IntKind.i64.wrap (IntKind.i64.wrap (k.tmod (8 : Int)) + 1)).tmod (8 : Int) == 1) false, Dec (d == 1) true, (8 : Int) ≠ (0 : Int), Dec ((IntKind.i64.wrap (IntKind.i64.wrap (k.tmod (8 : Int)) - d)).tmod (2 : Int) != (0 : Int)) true, (2 : Int) ≠ (0 : Int), (8 : Int) ≠ (0 : Int)] (by kernel_rfl) ⟨(((cf d1).trans ((ct d2).trans ((cf d3).trans ((ct d4).trans ((ct d5).trans ((ct d6).trans ((cf d7).trans ((ct d8).trans ((ct d9).trans rfl))))))))) : oddityF_v d s k = _).symm, d9, d8, d7, d6, d5, (dN d4), d3, d2, ?_, (dN d1), ?_, (?_ : (8 : Int) ≠ (0 : Int))⟩) (fun d9 => rr [true, true, false, false, true, true, false, true, false] [((IntKind.i64.wrap (IntKind.i64.wrap (k.tmod (8 : Int)) + 1)).tmod (8 : Int)) = oddityF_v d s k, Dec ((IntKind.i64.wrap (IntKind.i64.wrap (k.tmod (8 : Int)) + 1)).tmod (8 : Int) == 0) false, Dec (s == -1) true, Dec ((IntKind.i64.wrap (IntKind.i64.wrap (k.tmod (8 : Int)) + 1)).tmod (8 : Int) == 4) false, Dec (s == 1) true, Dec (d == 2) true, Dec (!((IntKind.i64.wrap (IntKind.i64.wrap (k.tmod (8 : Int)) + 1)).tmod (8 : Int) == 7) == (s == 1)) false, Dec ((IntKind.i64.wrap (IntKind.i64.wrap (k.tmod (8 : Int)) + 1)).tmod (8 : Int) == 1) false, Dec (d == 1) true, (8 : Int) ≠ (0 : Int), Dec ((IntKind.i64.wrap (IntKind.i64.wrap (k.tmod (8 : Int)) - d)).tmod (2 : Int) != (0 : Int)) true, (2 : Int) ≠ (0 : Int), (8 : Int) ≠ (0 : Int)] (by kernel_rfl) ⟨(((cf d1).trans ((ct d2).trans ((cf d3).trans ((ct d4).trans ((ct d5).trans ((ct d6).trans ((cf d7).trans ((ct d8).trans ((cf d9).trans rfl))))))))) : oddityF_v d s k = _).symm, d9, d8, d7, d6, d5, (dN d4), d3, d2, ?_, (dN d1), ?_, (?_ : (8 : Int) ≠ (0 : Int))⟩)) (fun d8 => rr [true, true, false, false, true, true, false, false] [((IntKind.i64.wrap (IntKind.i64.wrap (k.tmod (8 : Int)) + 1)).tmod (8 : Int)) = oddityF_v d s k, Dec (s == -1) false, Dec ((IntKind.i64.wrap (IntKind.i64.wrap (k.tmod (8 : Int)) + 1)).tmod (8 : Int) == 4) false, Dec (s == 1) true, Dec (d == 2) true, Dec (!((IntKind.i64.wrap (IntKind.i64.wrap (k.tmod (8 : Int)) + 1)).tmod (8 : Int) == 7) == (s == 1)) false, Dec ((IntKind.i64.wrap (IntKind.i64.wrap (k.tmod (8 : Int)) + 1)).tmod (8 : Int) == 1) false, Dec (d == 1) true, (8 : Int) ≠ (0 : Int), Dec ((IntKind.i64.wrap (IntKind.i64.wrap (k.tmod (8 : Int)) - d)).tmod (2 : Int) != (0 : Int)) true, (2 : Int) ≠ (0 : Int), (8 : Int) ≠ (0 : Int)] (by kernel_rfl) ⟨(((cf d1).trans ((ct d2).trans ((cf d3).trans ((ct d4).trans ((ct d5).trans ((ct d6).trans ((cf d7).trans ((cf d8).trans rfl)))))))) : oddityF_v d s k = _).symm, d8, d7, d6, d5, (dN d4), d3, d2, ?_, (dN d1), ?_, (?_ : (8 : Int) ≠ (0 : Int))⟩))) (fun d6 => oe (s == -1) (fun d7 => oe ((IntKind.i64.wrap (IntKind.i64.wrap (k.tmod (8 : Int)) + 1)).tmod (8 : Int) == 0) (fun d8 => rr [true, true, false, false, true, false, true, true] [(2 : Int) = oddityF_v d s k, Dec ((IntKind.i64.wrap (IntKind.i64.wrap (k.tmod (8 : Int)) + 1)).tmod (8 : Int) == 0) true, Dec (s == -1) true, Dec (s == 1) false, Dec (d == 2) true, Dec (!((IntKind.i64.wrap (IntKind.i64.wrap (k.tmod (8 : Int)) + 1)).tmod (8 : Int) == 7) == (s == 1)) false, Dec ((IntKind.i64.wrap (IntKind.i64.wrap (k.tmod (8 : Int)) + 1)).tmod (8 : Int) == 1) false, Dec (d == 1) true, (8 : Int) ≠ (0 : Int), Dec ((IntKind.i64.wrap (IntKind.i64.wrap (k.tmod (8 : Int)) - d)).tmod (2 : Int) != (0 : Int)) true, (2 : Int) ≠ (0 : Int), (8 : Int) ≠ (0 : Int)] (by kernel_rfl) ⟨(((cf d1).trans ((ct d2).trans ((cf d3).trans ((ct d4).trans ((ct d5).trans ((cf d6).trans ((ct d7).trans ((ct d8).trans rfl)))))))) : oddityF_v d s k = _).symm, d8, d7, d6, d5, (dN d4), d3, d2, ?_, (dN d1), ?_, (?_ : (8 : Int) ≠ (0 : Int))⟩) (fun d8 => rr [true, true, false, false, true, false, true, false] [((IntKind.i64.wrap (IntKind.i64.wrap (k.tmod (8 : Int)) + 1)).tmod (8 : Int)) = oddityF_v d s k, Dec ((IntKind.i64.wrap (IntKind.i64.wrap (k.tmod (8 : Int)) + 1)).tmod (8 : Int) == 0) false, Dec (s == -1) true, Dec (s == 1) false, Dec (d == 2) true, Dec (!((IntKind.i64.wrap (IntKind.i64.wrap (k.tmod (8 : Int)) + 1)).tmod (8 : Int) == 7) == (s == 1)) false, Dec ((IntKind.i64.wrap (IntKind.i64.wrap (k.tmod (8 : Int)) + 1)).tmod (8 : Int) == 1) false, Dec (d == 1) true, (8 : Int) ≠ (0 : Int), Dec ((IntKind.i64.wrap (IntKind.i64.wrap (k.tmod (8 : Int)) - d)).tmod (2 : Int) != (0 : Int)) true, (2 : Int) ≠ (0 : Int), (8 : Int) ≠ (0 : Int)] (by kernel_rfl) ⟨(((cf d1).trans ((ct d2).trans ((cf d3).trans ((ct d4).trans ((ct d5).trans ((cf d6).trans ((ct d7).trans ((cf d8).trans rfl)))))))) : oddityF_v d s k = _).symm, d8, d7, d6, d5, (dN d4), d3, d2, ?_, (dN d1), ?_, (?_ : (8 : Int) ≠ (0 : Int))⟩)) (fun d7 => rr [true, true, false, false, true, false, false] [((IntKind.i64.wrap (IntKind.i64.wrap (k.tmod (8 : Int)) + 1)).tmod (8 : Int)) = oddityF_v d s k, Dec (s == -1) false, Dec (s == 1) false, Dec (d == 2) true, Dec (!((IntKind.i64.wrap (IntKind.i64.wrap (k.tmod (8 : Int)) + 1)).tmod (8 : Int) == 7) == (s == 1)) false, Dec ((IntKind.i64.wrap (IntKind.i64.wrap (k.tmod (8 : Int)) + 1)).tmod (8 : Int) == 1) false, Dec (d == 1) true, (8 : Int) ≠ (0 : Int), Dec ((IntKind.i64.wrap (IntKind.i64.wrap (k.tmod (8 : Int)) - d)).tmod (2 : Int) != (0 : Int)) true, (2 : Int) ≠ (0 : Int), (8 : Int) ≠ (0 : Int)] (by kernel_rfl) ⟨(((cf d1).trans ((ct d2).trans ((cf d3).trans ((ct d4).trans ((ct d5).trans ((cf d6).trans ((cf d7).trans rfl))))))) : oddityF_v d s k = _).symm, d7, d6, d5, (dN d4), d3, d2, ?_, (dN d1), ?_, (?_ : (8 : Int) ≠ (0 : Int))⟩))) (fun d5 => rr [true, true, false, false, false] [((IntKind.i64.wrap (IntKind.i64.wrap (k.tmod (8 : Int)) + 1)).tmod (8 : Int)) = oddityF_v d s k, Dec (d == 2) false, Dec (!((IntKind.i64.wrap (IntKind.i64.wrap (k.tmod (8 : Int)) + 1)).tmod (8 : Int) == 7) == (s == 1)) false, Dec ((IntKind.i64.wrap (IntKind.i64.wrap (k.tmod (8 : Int)) + 1)).tmod (8 : Int) == 1) false, Dec (d == 1) true, (8 : Int) ≠ (0 : Int), Dec ((IntKind.i64.wrap (IntKind.i64.wrap (k.tmod (8 : Int)) - d)).tmod (2 : Int) != (0 : Int)) true, (2 : Int) ≠ (0 : Int), (8 : Int) ≠ (0 : Int)] (by kernel_rfl) ⟨(((cf d1).trans ((ct d2).trans ((cf d3).trans ((ct d4).trans ((cf d5).trans rfl))))) : oddityF_v d s k = _).symm, d5, (dN d4), d3, d2, ?_, (dN d1), ?_, (?_ : (8 : Int) ≠ (0 : Int))⟩)) (fun d4 => rr [true, true, false, true] [((IntKind.i64.wrap ((IntKind.i64.wrap (IntKind.i64.wrap (k.tmod (8 : Int)) + 1)).tmod (8 : Int) + 4)).tmod (8 : Int)) = oddityF_v d s k, (8 : Int) ≠ (0 : Int), Dec (!((IntKind.i64.wrap (IntKind.i64.wrap (k.tmod (8 : Int)) + 1)).tmod (8 : Int) == 7) == (s == 1)) true, Dec ((IntKind.i64.wrap (IntKind.i64.wrap (k.tmod (8 : Int)) + 1)).tmod (8 : Int) == 1) false, Dec (d == 1) true, (8 : Int) ≠ (0 : Int), Dec ((IntKind.i64.wrap (IntKind.i64.wrap (k.tmod (8 : Int)) - d)).tmod (2 : Int) != (0 : Int)) true, (2 : Int) ≠ (0 : Int), (8 : Int) ≠ (0 : Int)] (by kernel_rfl) ⟨(((cf d1).trans ((ct d2).trans ((cf d3).trans ((cf d4).trans rfl)))) : oddityF_v d s k = _).symm, ?_, (dN d4), d3, d2, ?_, (dN d1), ?_, (?_ : (8 : Int) ≠ (0 : Int))⟩))) (fun d2 => oe (d == 2) (fun d3 => oe (s == 1) (fun d4 => oe ((IntKind.i64.wrap (IntKind.i64.wrap (k.tmod (8 : Int)) + 1)).tmod (8 : Int) == 4) (fun d5 => rr [true, false, true, true, true] [(2 : Int) = oddityF_v d s k, Dec ((IntKind.i64.wrap (IntKind.i64.wrap (k.tmod (8 : Int)) + 1)).tmod (8 : Int) == 4) true, Dec (s == 1) true, Dec (d == 2) true, Dec (d == 1) false, (8 : Int) ≠ (0 : Int), Dec ((IntKind.i64.wrap (IntKind.i64.wrap (k.tmod (8 : Int)) - d)).tmod (2 : Int) != (0 : Int)) true, (2 : Int) ≠ (0 : Int), (8 : Int) ≠ (0 : Int)] (by kernel_rfl) ⟨(((cf d1).trans ((cf d2).trans ((ct d3).trans ((ct d4).trans ((ct d5).trans rfl))))) : oddityF_v d s k = _).symm, d5, d4, d3, d2, ?_, (dN d1), ?_, (?_ : (8 : Int) ≠ (0 : Int))⟩) (fun d5 => oe (s == -1) (fun d6 => oe ((IntKind.i64.wrap (IntKind.i64.wrap (k.tmod (8 : Int)) + 1)).tmod (8 : Int) == 0) (fun d7 => rr [true, false, true, true, false, true, true] [(2 : Int) = oddityF_v d s k, Dec ((IntKind.i64.wrap (IntKind.i64.wrap (k.tmod (8 : Int)) + 1)).tmod (8 : Int) == 0) true, Dec (s == -1) true, Dec ((IntKind.i64.wrap (IntKind.i64.wrap (k.tmod (8 : Int)) + 1)).tmod (8 : Int) == 4) false, Dec (s == 1) true, Dec (d == 2) true, Dec (d == 1) false, (8 : Int) ≠ (0 : Int), Dec ((IntKind.i64.wrap (IntKind.i64.wrap (k.tmod (8 : Int)) - d)).tmod (2 : Int) != (0 : Int)) true, (2 : Int) ≠ (0 : Int), (8 : Int) ≠ (0 : Int)] (by kernel_rfl) ⟨(((cf d1).trans ((cf d2).trans ((ct d3).trans ((ct d4).trans ((cf d5).trans ((ct d6).trans ((ct d7).trans rfl))))))) : oddityF_v d s k = _).symm, d7, d6, d5, d4, d3, d2, ?_, (dN d1), ?_, (?_ : (8 : Int) ≠ (0 : Int))⟩) (fun d7 => rr [true, false, true, true, false, true, false] [((IntKind.i64.wrap (IntKind.i64.wrap (k.tmod (8 : Int)) + 1)).tmod (8 : Int)) = oddityF_v d s k, Dec ((IntKind.i64.wrap (IntKind.i64.wrap (k.tmod (8 : Int)) + 1)).tmod (8 : Int) == 0) false, Dec (s == -1) true, Dec ((IntKind.i64.wrap (IntKind.i64.wrap (k.tmod (8 : Int)) + 1)).tmod (8 : Int) == 4) false, Dec (s == 1) true, Dec (d == 2) true, Dec (d == 1) false, (8 : Int) ≠ (0 : Int), Dec ((IntKind.i64.wrap (IntKind.i64.wrap (k.tmod (8 : Int)) - d)).tmod (2 : Int) != (0 : Int)) true, (2 : Int) ≠ (0 : Int), (8 : Int) ≠ (0 : Int)] (by kernel_rfl) ⟨(((cf d1).trans ((cf d2).trans ((ct d3).trans ((ct d4).trans ((cf d5).trans ((ct d6).trans ((cf d7).trans rfl))))))) : oddityF_v d s k = _).symm, d7, d6, d5, d4, d3, d2, ?_, (dN d1), ?_, (?_ : (8 : Int) ≠ (0 : Int))⟩)) (fun d6 => rr [true, false, true, true, false, false] [((IntKind.i64.wrap (IntKind.i64.wrap (k.tmod (8 : Int)) + 1)).tmod (8 : Int)) = oddityF_v d s k, Dec (s == -1) false, Dec ((IntKind.i64.wrap (IntKind.i64.wrap (k.tmod (8 : Int)) + 1)).tmod (8 : Int) == 4) false, Dec (s == 1) true, Dec (d == 2) true, Dec (d == 1) false, (8 : Int) ≠ (0 : Int), Dec ((IntKind.i64.wrap (IntKind.i64.wrap (k.tmod (8 : Int)) - d)).tmod (2 : Int) != (0 : Int)) true, (2 : Int) ≠ (0 : Int), (8 : Int) ≠ (0 : Int)] (by kernel_rfl) ⟨(((cf d1).trans ((cf d2).trans ((ct d3).trans ((ct d4).trans ((cf d5).trans ((cf d6).trans rfl)))))) : oddityF_v d s k = _).symm, d6, d5, d4, d3, d2, ?_, (dN d1), ?_, (?_ : (8 : Int) ≠ (0 : Int))⟩))) (fun d4 => oe (s == -1) (fun d5 => oe ((IntKind.i64.wrap (IntKind.i64.wrap (k.tmod (8 : Int)) + 1)).tmod (8 : Int) == 0) (fun d6 => rr [true, false, true, false, true, true] [(2 : Int) = oddityF_v d s k, Dec ((IntKind.i64.wrap (IntKind.i64.wrap (k.tmod (8 : Int)) + 1)).tmod (8 : Int) == 0) true, Dec (s == -1) true, Dec (s == 1) false, Dec (d == 2) true, Dec (d == 1) false, (8 : Int) ≠ (0 : Int), Dec ((IntKind.i64.wrap (IntKind.i64.wrap (k.tmod (8 : Int)) - d)).tmod (2 : Int) != (0 : Int)) true, (2 : Int) ≠ (0 : Int), (8 : Int) ≠ (0 : Int)] (by kernel_rfl) ⟨(((cf d1).trans ((cf d2).trans ((ct d3).trans ((cf d4).trans ((ct d5).trans ((ct d6).trans rfl)))))) : oddityF_v d s k = _).symm, d6, d5, d4, d3, d2, ?_, (dN d1), ?_, (?_ : (8 : Int) ≠ (0 : Int))⟩) (fun d6 => rr [true, false, true, false, true, false] [((IntKind.i64.wrap (IntKind.i64.wrap (k.tmod (8 : Int)) + 1)).tmod (8 : Int)) = oddityF_v d s k, Dec ((IntKind.i64.wrap (IntKind.i64.wrap (k.tmod (8 : Int)) + 1)).tmod (8 : Int) == 0) false, Dec (s == -1) true, Dec (s == 1) false, Dec (d == 2) true, Dec (d == 1) false, (8 : Int) ≠ (0 : Int), Dec ((IntKind.i64.wrap (IntKind.i64.wrap (k.tmod (8 : Int)) - d)).tmod (2 : Int) != (0 : Int)) true, (2 : Int) ≠ (0 : Int), (8 : Int) ≠ (0 : Int)] (by kernel_rfl) ⟨(((cf d1).trans ((cf d2).trans ((ct d3).trans ((cf d4).trans ((ct d5).trans ((cf d6).trans rfl)))))) : oddityF_v d s k = _).symm, d6, d5, d4, d3, d2, ?_, (dN d1), ?_, (?_ : (8 : Int) ≠ (0 : Int))⟩)) (fun d5 => rr [true, false, true, false, false] [((IntKind.i64.wrap (IntKind.i64.wrap (k.tmod (8 : Int)) + 1)).tmod (8 : Int)) = oddityF_v d s k, Dec (s == -1) false, Dec (s == 1) false, Dec (d == 2) true, Dec (d == 1) false, (8 : Int) ≠ (0 : Int), Dec ((IntKind.i64.wrap (IntKind.i64.wrap (k.tmod (8 : Int)) - d)).tmod (2 : Int) != (0 : Int)) true, (2 : Int) ≠ (0 : Int), (8 : Int) ≠ (0 : Int)] (by kernel_rfl) ⟨(((cf d1).trans ((cf d2).trans ((ct d3).trans ((cf d4).trans ((cf d5).trans rfl))))) : oddityF_v d s k = _).symm, d5, d4, d3, d2, ?_, (dN d1), ?_, (?_ : (8 : Int) ≠ (0 : Int))⟩))) (fun d3 => rr [true, false, false] [((IntKind.i64.wrap (IntKind.i64.wrap (k.tmod (8 : Int)) + 1)).tmod (8 : Int)) = oddityF_v d s k, Dec (d == 2) false, Dec (d == 1) false, (8 : Int) ≠ (0 : Int), Dec ((IntKind.i64.wrap (IntKind.i64.wrap (k.tmod (8 : Int)) - d)).tmod (2 : Int) != (0 : Int)) true, (2 : Int) ≠ (0 : Int), (8 : Int) ≠ (0 : Int)] (by kernel_rfl) ⟨(((cf d1).trans ((cf d2).trans ((cf d3).trans rfl))) : oddityF_v d s k = _).symm, d3, d2, ?_, (dN d1), ?_, (?_ : (8 : Int) ≠ (0 : Int))⟩)))
  all_goals first | (decide)
end Go.Proofs.YtgdhgnhgmbkpdaaGreatDoor.S

namespace Go.Proofs.YtgdhgnhgmbkpdaaGreatDoor.S
open Go.QfSy Go.RowKit
def dimM (p : Prt) (r : Int) : Int := 1 + p.x1 % (if r < 3 then r else 3)
def signM (p : Prt) : Int := 1 - 2 * (p.x2 % 2)
def oddM (p : Prt) (r : Int) (two : Bool) : Bool := bif two then (bif dimM p r % 2 == 1 then true else decide (p.x3 % 3 > 0)) else false
noncomputable def conM (p : Prt) (e r : Int) (two : Bool) : Con := ⟨e, dimM p r, signM p, oddM p r two, bif oddM p r two then oddityF_v (dimM p r) (signM p) p.x4 else 0⟩
noncomputable def entsO : List OEnt := [
  ⟨102, [], fun A => match A with
    | [.int .i64 d, .int .i64 s, .int .u8 k] => some (.int .i64 (oddityF_v d s k), [])
    | _ => none⟩]
theorem entsO_ok : ∀ e ∈ entsO, EntOk Tryz.prog e := by
  intro e he
  simp only [entsO, List.mem_cons, List.not_mem_nil, or_false] at he
  subst he
  intro A R ms h hm
  simp only at h
  split at h
  · cases h; exact oddityF _ _ _
  · cases h
theorem dimM_b {p : Prt} {r : Int} (hp : p.ok) (h1 : 1 ≤ r) : 1 ≤ dimM p r ∧ dimM p r ≤ 3 ∧ dimM p r ≤ r := by
  obtain ⟨_, ⟨a, b⟩, _⟩ := hp
  unfold dimM
  split
  · have := Int.emod_nonneg p.x1 (b := r) (by omega)
    have := Int.emod_lt_of_pos p.x1 (b := r) (by omega)
    omega
  · omega
theorem signM_b {p : Prt} (hp : p.ok) : signM p = 1 ∨ signM p = -1 := by
  unfold signM; omega
theorem raw_dim {p : Prt} {r : Int} (hp : p.ok) (h1 : 1 ≤ r) (h2 : r ≤ 100) : IntKind.i64.wrap ((1 : Int) + (IntKind.i64.wrap p.x1).tmod (if r < (3 : Int) then r else (3 : Int))) = dimM p r := by
  have hb := dimM_b hp h1
  obtain ⟨_, ⟨a, b⟩, _⟩ := hp
  rw [w64 (n := p.x1) (by omega) (by omega), Int.tmod_eq_emod_of_nonneg a]
  exact w64 (by unfold dimM at hb; omega) (by unfold dimM at hb; omega)
theorem raw_sign {p : Prt} (hp : p.ok) : IntKind.i64.wrap ((1 : Int) - IntKind.i64.wrap ((2 : Int) * IntKind.i64.wrap (p.x2.tmod (2 : Int)))) = signM p := by
  obtain ⟨_, _, ⟨a, b⟩, _⟩ := hp
  rw [Int.tmod_eq_emod_of_nonneg a]
  unfold signM
  rw [w64 (n := p.x2 % 2) (by omega) (by omega), w64 (n := 2 * (p.x2 % 2)) (by omega) (by omega), w64 (by omega) (by omega)]
theorem constituentF (p : Prt) (e r : Int) (two : Bool) (hp : p.ok) (h1 : 1 ≤ r) (h2 : r ≤ 100) : PureC Tryz.prog [] 65 [.agg p.rvs, .int .i64 e, .int .i64 r, .bool two] (.agg (conM p e r two).rvs) := by
  have hd := raw_dim hp h1 h2; have hs := raw_sign hp; have hb := dimM_b hp h1; have ht : (dimM p r).tmod 2 = dimM p r % 2 := Int.tmod_eq_emod_of_nonneg (by omega); have hx : p.x3.tmod 3 = p.x3 % 3 := Int.tmod_eq_emod_of_nonneg (by have := hp.2.2.2.1.1; omega)
  have rr := fun (tp : List Bool) (ms : List Prop) h hm => pure_run evOk (callF_ok evOk (orcOf_ok entsO_ok) 8) Tryz.func65 (A := [.agg p.rvs, .int .i64 e, .int .i64 r, .bool two]) rfl none_ann rfl rfl evNg (tabs := []) (R := .agg (conM p e r two).rvs) (tp := tp) (ms := ms) h hm
  refine oe (two) (fun d1 => oe ((IntKind.i64.wrap ((1 : Int) + (IntKind.i64.wrap p.x1).tmod (if r < 3 then r else (3 : Int)))).tmod (2 : Int) == 1) (fun d2 => rr [true, true] [e = (conM p e r two).exp, IntKind.i64.wrap ((1 : Int) + (IntKind.i64.wrap p.x1).tmod (if r < 3 then r else (3 : Int))) = (conM p e r two).dim, IntKind.i64.wrap ((1 : Int) - IntKind.i64.wrap ((2 : Int) * IntKind.i64.wrap (p.x2.tmod (2 : Int)))) = (conM p e r two).sign, true = (conM p e r two).odd, oddityF_v (IntKind.i64.wrap ((1 : Int) + (IntKind.i64.wrap p.x1).tmod (if r < 3 then r else (3 : Int)))) (IntKind.i64.wrap ((1 : Int) - IntKind.i64.wrap ((2 : Int) * IntKind.i64.wrap (p.x2.tmod (2 : Int))))) p.x4 = (conM p e r two).oddity, Dec ((IntKind.i64.wrap ((1 : Int) + (IntKind.i64.wrap p.x1).tmod (if r < 3 then r else (3 : Int)))).tmod (2 : Int) == 1) true, (2 : Int) ≠ (0 : Int), Dec two true, (2 : Int) ≠ (0 : Int), (if r < 3 then r else (3 : Int)) ≠ (0 : Int)] (by kernel_rfl) ⟨?_, ?_, ?_, ?_, ?_, d2, ?_, d1, ?_, (?_ : (if r < 3 then r else (3 : Int)) ≠ (0 : Int))⟩) (fun d2 => oe (decide (p.x3.tmod (3 : Int) > 0)) (fun d3 => rr [true, false, true] [e = (conM p e r two).exp, IntKind.i64.wrap ((1 : Int) + (IntKind.i64.wrap p.x1).tmod (if r < 3 then r else (3 : Int))) = (conM p e r two).dim, IntKind.i64.wrap ((1 : Int) - IntKind.i64.wrap ((2 : Int) * IntKind.i64.wrap (p.x2.tmod (2 : Int)))) = (conM p e r two).sign, decide (p.x3.tmod (3 : Int) > 0) = (conM p e r two).odd, oddityF_v (IntKind.i64.wrap ((1 : Int) + (IntKind.i64.wrap p.x1).tmod (if r < 3 then r else (3 : Int)))) (IntKind.i64.wrap ((1 : Int) - IntKind.i64.wrap ((2 : Int) * IntKind.i64.wrap (p.x2.tmod (2 : Int))))) p.x4 = (conM p e r two).oddity, Dec (decide (p.x3.tmod (3 : Int) > 0)) true, (3 : Int) ≠ (0 : Int), Dec ((IntKind.i64.wrap ((1 : Int) + (IntKind.i64.wrap p.x1).tmod (if r < 3 then r else (3 : Int)))).tmod (2 : Int) == 1) false, (2 : Int) ≠ (0 : Int), Dec two true, (2 : Int) ≠ (0 : Int), (if r < 3 then r else (3 : Int)) ≠ (0 : Int)] (by kernel_rfl) ⟨?_, ?_, ?_, ?_, ?_, d3, ?_, d2, ?_, d1, ?_, (?_ : (if r < 3 then r else (3 : Int)) ≠ (0 : Int))⟩) (fun d3 => rr [true, false, false] [e = (conM p e r two).exp, IntKind.i64.wrap ((1 : Int) + (IntKind.i64.wrap p.x1).tmod (if r < 3 then r else (3 : Int))) = (conM p e r two).dim, IntKind.i64.wrap ((1 : Int) - IntKind.i64.wrap ((2 : Int) * IntKind.i64.wrap (p.x2.tmod (2 : Int)))) = (conM p e r two).sign, decide (p.x3.tmod (3 : Int) > 0) = (conM p e r two).odd, (0 : Int) = (conM p e r two).oddity, Dec (decide (p.x3.tmod (3 : Int) > 0)) false, (3 : Int) ≠ (0 : Int), Dec ((IntKind.i64.wrap ((1 : Int) + (IntKind.i64.wrap p.x1).tmod (if r < 3 then r else (3 : Int)))).tmod (2 : Int) == 1) false, (2 : Int) ≠ (0 : Int), Dec two true, (2 : Int) ≠ (0 : Int), (if r < 3 then r else (3 : Int)) ≠ (0 : Int)] (by kernel_rfl) ⟨?_, ?_, ?_, ?_, ?_, d3, ?_, d2, ?_, d1, ?_, (?_ : (if r < 3 then r else (3 : Int)) ≠ (0 : Int))⟩))) (fun d1 => rr [false] [e = (conM p e r two).exp, IntKind.i64.wrap ((1 : Int) + (IntKind.i64.wrap p.x1).tmod (if r < 3 then r else (3 : Int))) = (conM p e r two).dim, IntKind.i64.wrap ((1 : Int) - IntKind.i64.wrap ((2 : Int) * IntKind.i64.wrap (p.x2.tmod (2 : Int)))) = (conM p e r two).sign, false = (conM p e r two).odd, (0 : Int) = (conM p e r two).oddity, Dec two false, (2 : Int) ≠ (0 : Int), (if r < 3 then r else (3 : Int)) ≠ (0 : Int)] (by kernel_rfl) ⟨?_, ?_, ?_, ?_, ?_, d1, ?_, (?_ : (if r < 3 then r else (3 : Int)) ≠ (0 : Int))⟩)
  all_goals first | (first | rfl | decide | (split <;> omega) | (simp only [hd, hs, ht, hx] at * <;> simp only [conM, oddM, hd, hs, ht, hx, *, cond_true, cond_false]))
end Go.Proofs.YtgdhgnhgmbkpdaaGreatDoor.S

namespace Go.Proofs.YtgdhgnhgmbkpdaaGreatDoor.S
open Go.QfSy Go.RowKit
abbrev atP (X : List Prt) (i : Nat) : Prt := X.getD i Prt.zero
theorem dropP {X : List Prt} {k : Nat} (h : k < X.length) : X.drop k = atP X k :: X.drop (k + 1) := by
  rw [List.drop_eq_getElem_cons h]
  simp [atP, h]
theorem okP {X : List Prt} (hX : ∀ p ∈ X, p.ok) (k : Nat) : (atP X k).ok := by
  unfold atP
  rcases Nat.lt_or_ge k X.length with h | h
  · have : X.getD k Prt.zero = X[k] := by simp [h]
    rw [this]
    exact hX _ (List.getElem_mem h)
  · have : X.getD k Prt.zero = Prt.zero := by simp [h]
    rw [this]
    refine ⟨?_, ?_, ?_, ?_, ?_⟩ <;> (unfold U8 Prt.zero; decide)
def expM (p : Prt) (e : Int) : Int := e + (1 + p.x0 % 4 % 3)
theorem expM_b {p : Prt} (e : Int) : e + 1 ≤ expM p e ∧ expM p e ≤ e + 3 := by unfold expM; omega
theorem raw_exp {p : Prt} (hp : p.ok) {e : Int} (h1 : -1 ≤ e) (h2 : e ≤ 1000000000) : IntKind.i64.wrap (e + IntKind.i64.wrap ((1 : Int) + ((IntKind.i64.wrap p.x0).tmod (4 : Int)).tmod (3 : Int))) = expM p e := by
  obtain ⟨⟨a, b⟩, _⟩ := hp
  rw [w64 (n := p.x0) (by omega) (by omega), Int.tmod_eq_emod_of_nonneg a, Int.tmod_eq_emod_of_nonneg (by omega)]
  unfold expM
  rw [w64 (n := 1 + p.x0 % 4 % 3) (by omega) (by omega), w64 (by omega) (by omega)]
noncomputable def listM (most : Int) (two : Bool) : List Prt → Int → Int → List Con
  | [], _, _ => []
  | p :: X, e, n => if n ≥ most then [] else conM p (expM p e) (most - n) two :: listM most two X (expM p e) (n + dimM p (most - n))
noncomputable def listF (most : Int) (two : Bool) (X : List Prt) : List Con := listM most two X (-1) 0
noncomputable def listV (most : Int) (two : Bool) (X : List Prt) : List Con := bif (listF most two X).isEmpty then [conM Prt.zero 0 1 two] else listF most two X
noncomputable def entsC : List OEnt := [
  ⟨65, [], fun A => match A with
    | [.agg [.int .u8 x0, .int .u8 x1, .int .u8 x2, .int .u8 x3, .int .u8 x4], .int .i64 e, .int .i64 r, .bool two] => some (.agg (conM ⟨x0, x1, x2, x3, x4⟩ e r two).rvs, [(⟨x0, x1, x2, x3, x4⟩ : Prt).ok ∧ 1 ≤ r ∧ r ≤ 100])
    | _ => none⟩]
theorem entsC_ok : ∀ e ∈ entsC, EntOk Tryz.prog e := by
  intro e he
  simp only [entsC, List.mem_cons, List.not_mem_nil, or_false] at he
  subst he
  intro A R ms h hm
  simp only at h
  split at h
  · cases h
    obtain ⟨h1, h2, h3⟩ := all_one hm
    exact constituentF _ _ _ _ h1 h2 h3
  · cases h
noncomputable def listA (most : Int) (two : Bool) (X : List Prt) : Ann := ⟨⟨[(1, .vint .i64 most), (2, .vbool two), (7, .nils), (8, .int .i64 (-1)), (9, .int .i64 0), (14, (roP X).av), (15, .vint .i64 X.length), (16, .int .i64 0)], [], 1001⟩, some (listF most two X).isEmpty, fun d => match d with
  | true => (.exit 0, ⟨[(2, .vbool two), (7, .nils), (9, .int .i64 0)], [], 1001⟩)
  | false => (.exit 0, ⟨[(2, .vbool two), (7, .lo 1001 (listF most two X).length), (9, .vint .i64 (dimS (listF most two X)))], [(1001, ⟨.con (listF most two X), 59, 5, true, true⟩)], 1002⟩)⟩
noncomputable def listS (most : Int) (two : Bool) (X : List Prt) : Nat × Int × Int × List Con → St
  | (k, e, n, []) => ⟨[(1, .vint .i64 most), (2, .vbool two), (7, .nils), (8, .vint .i64 e), (9, .vint .i64 n), (14, (roP X).av), (15, .vint .i64 X.length), (16, .vint .i64 (k : Int))], [], 1002⟩
  | (k, e, n, c :: l) => ⟨[(1, .vint .i64 most), (2, .vbool two), (7, .lo 1001 (l.length + 1)), (8, .vint .i64 e), (9, .vint .i64 n), (14, (roP X).av), (15, .vint .i64 X.length), (16, .vint .i64 (k : Int))], [(1001, ⟨.con (c :: l), 59, 5, true, true⟩)], 1002⟩
theorem dimS_nonneg {L : List Con} (h : ∀ c ∈ L, 1 ≤ c.dim) : 0 ≤ dimS L ∧ (L ≠ [] → 1 ≤ dimS L) := by
  induction L with
  | nil => simp [dimS]
  | cons c l ih =>
    have h1 := h c (by simp)
    have h2 := (ih (fun x hx => h x (by simp [hx]))).1
    simp only [dimS]
    exact ⟨by omega, fun _ => by omega⟩
def listI (most : Int) (two : Bool) (X : List Prt) (i : Nat × Int × Int × List Con) : Prop :=
  i.1 ≤ X.length ∧ -1 ≤ i.2.1 ∧ i.2.1 ≤ 3 * (i.1 : Int) ∧ 0 ≤ i.2.2.1 ∧ i.2.2.1 ≤ most ∧ i.2.2.1 = dimS i.2.2.2 ∧ i.2.2.2.length ≤ i.1 ∧ (∀ c ∈ i.2.2.2, 1 ≤ c.dim) ∧ i.2.2.2 ++ listM most two (X.drop i.1) i.2.1 i.2.2.1 = listF most two X
theorem listI_next {most : Int} {two : Bool} {X : List Prt} (hX : ∀ p ∈ X, p.ok) {k : Nat} {e n : Int} {acc : List Con} (h : listI most two X (k, e, n, acc)) (hk : k < X.length) (hn : n < most) :
    listI most two X (k + 1, expM (atP X k) e, n + dimM (atP X k) (most - n), acc ++ [conM (atP X k) (expM (atP X k) e) (most - n) two]) := by
  obtain ⟨a1, a2, a3, a4, a5, a6, a7, a8, a9⟩ := h
  simp only at a1 a2 a3 a4 a5 a6 a7 a8 a9
  have hb := expM_b (p := atP X k) e
  have hd := dimM_b (okP hX k) (r := most - n) (by omega)
  refine ⟨hk, ?_, ?_, ?_, ?_, ?_, ?_, ?_, ?_⟩
  · show -1 ≤ expM (atP X k) e
    omega
  · show expM (atP X k) e ≤ 3 * ((k + 1 : Nat) : Int)
    omega
  · show 0 ≤ n + dimM (atP X k) (most - n)
    omega
  · show n + dimM (atP X k) (most - n) ≤ most
    omega
  · show n + dimM (atP X k) (most - n) = dimS (acc ++ [_])
    rw [dimS_append, ← a6]
    simp [dimS, conM]
  · show (acc ++ [_]).length ≤ k + 1
    simp; omega
  · intro c hc
    rcases List.mem_append.1 hc with hc | hc
    · exact a8 c hc
    · rw [List.mem_singleton.1 hc]; exact hd.1
  · show (acc ++ [_]) ++ listM most two (X.drop (k + 1)) (expM (atP X k) e) (n + dimM (atP X k) (most - n)) = _
    rw [← a9, dropP hk]
    simp only [listM]
    rw [if_neg (by omega)]
    simp
theorem listI_end {most : Int} {two : Bool} {X : List Prt} {k : Nat} {e n : Int} {acc : List Con} (h : listI most two X (k, e, n, acc)) (hk : X.length ≤ k ∨ most ≤ n) : acc = listF most two X := by
  obtain ⟨a1, a2, a3, a4, a5, a6, a7, a8, a9⟩ := h
  simp only at a9
  rw [← a9]
  have : listM most two (X.drop k) e n = [] := by
    rcases hk with hk | hk
    · rw [List.drop_eq_nil_of_le hk]; rfl
    · cases hd : X.drop k with
      | nil => rfl
      | cons p l => simp only [listM]; rw [if_pos (by omega)]
  rw [this]; simp
theorem list_loop (most : Int) (two : Bool) (X : List Prt) (hX : ∀ p ∈ X, p.ok) (hm1 : 1 ≤ most) (hm2 : most ≤ 100) (hn : X.length ≤ 1000) : AnnOk Tryz.prog EV.ng (Nat.max 3 Tryz.f40.ntmps) (bodyAt Tryz.f40 [0, 1, 0, 1, 1, 1]) (listA most two X) := by
  refine ann_of evOk (callF_ok evOk (orcOf_ok entsC_ok) 8) none_ann (by kernel_rfl) (by kernel_rfl) (listS most two X) (fun i => X.length - i.1) (fun d i => listI most two X i ∧ d = (listF most two X).isEmpty) ?_ ?_
  · intro d hd
    exact ⟨(0, -1, 0, []), [most = most, two = two, (-1 : Int) = -1, (0 : Int) = 0, X.length = X.length ∧ (fun i => (X.getD i Prt.zero).rvs) = fun i => (X.getD i Prt.zero).rvs, (↑X.length : Int) = ↑X.length, (0 : Int) = (↑(0 : Nat) : Int)], by kernel_rfl, (by refine ⟨?_, ?_, ?_, ?_, ?_, ?_, (?_ : (0 : Int) = (↑(0 : Nat) : Int))⟩ <;> (first | rfl | assumption | omega | simp_all)), (by exact ⟨⟨Nat.zero_le _, by decide, by decide, by decide, by show (0 : Int) ≤ most; omega, rfl, Nat.le_refl _, by simp, rfl⟩, hd.symm⟩)⟩
  · rintro d hd ⟨k, e, n, acc⟩ hI
    cases d
    · -- d = false
      obtain ⟨hI, hD⟩ := hI
      have hI' := hI
      obtain ⟨a1, a2, a3, a4, a5, a6, a7, a8, a9⟩ := hI'
      simp only at a1 a2 a3 a4 a5 a6 a7 a8 a9
      have er := raw_exp (okP hX k) (e := e) (by omega) (by omega)
      have ek : IntKind.i64.wrap ((k : Int) + 1) = ((k + 1 : Nat) : Int) := by rw [w64 (by omega) (by omega)]; omega
      have em : IntKind.i64.wrap (most - n) = most - n := w64 (by omega) (by omega)
      have hempty : ∀ a, a = listF most two X → a.isEmpty = (listF most two X).isEmpty := fun a h => by rw [h]
      rcases acc with _ | ⟨c, l⟩
      · -- 1
        refine oe (decide ((↑k : Int) < (↑X.length : Int))) (fun d1 => oe (decide (n ≥ most)) (fun d2 => CtG.no ?_) (fun d2 => ⟨[true, false], .inl ⟨(k + 1, expM (atP X k) e, n + dimM (atP X k) (most - n), [conM (atP X k) (expM (atP X k) e) (most - n) two]), [most = most, two = two, (1 : Nat) = (0 : Nat) + (1 : Nat), IntKind.i64.wrap (e + IntKind.i64.wrap ((1 : Int) + ((IntKind.i64.wrap (X.getD k Prt.zero).x0).tmod (4 : Int)).tmod (3 : Int))) = expM (atP X k) e, IntKind.i64.wrap (n + (conM (X.getD k Prt.zero) (IntKind.i64.wrap (e + IntKind.i64.wrap ((1 : Int) + ((IntKind.i64.wrap (X.getD k Prt.zero).x0).tmod (4 : Int)).tmod (3 : Int)))) (IntKind.i64.wrap (most - n)) two).dim) = n + dimM (atP X k) (most - n), X.length = X.length ∧ (fun i => (X.getD i Prt.zero).rvs) = fun i => (X.getD i Prt.zero).rvs, (↑X.length : Int) = ↑X.length, IntKind.i64.wrap ((↑k : Int) + 1) = (↑(k + (1 : Nat)) : Int), [conM (X.getD k Prt.zero) (IntKind.i64.wrap (e + IntKind.i64.wrap ((1 : Int) + ((IntKind.i64.wrap (X.getD k Prt.zero).x0).tmod (4 : Int)).tmod (3 : Int)))) (IntKind.i64.wrap (most - n)) two] = [conM (atP X k) (expM (atP X k) e) (most - n) two], (0 : Nat) < (1 : Nat) ∧ (1 : Nat) ≤ (1000000 : Nat), (X.getD k Prt.zero).ok ∧ (1 : Int) ≤ IntKind.i64.wrap (most - n) ∧ IntKind.i64.wrap (most - n) ≤ 100, (3 : Int) ≠ (0 : Int), (4 : Int) ≠ (0 : Int), Dec (decide (n ≥ most)) false, (0 : Int) ≤ ↑k ∧ (↑k : Int) < ↑X.length, Dec (decide ((↑k : Int) < ↑X.length)) true], by kernel_rfl, ⟨?_, ?_, ?_, ?_, ?_, ?_, ?_, ?_, ?_, ?_, ?_, ?_, ?_, d2, ?_, d1⟩, MuG.out ?_, InG.out ?_⟩⟩)) (fun d1 => CtG.no ?_)
        all_goals first | (refine MuG.mk ?_; (simp only [decide_eq_true_eq, decide_eq_false_iff_not] at *; show X.length - (k + 1) < X.length - k; omega)) | (refine InG.mk ?_; (simp only [decide_eq_true_eq, decide_eq_false_iff_not] at *; exact ⟨listI_next hX hI (by omega) (by omega), hD⟩)) | (refine CtG.mk ?_; (simp only [decide_eq_true_eq, decide_eq_false_iff_not] at *; have := hempty _ (listI_end hI (by omega)); rw [← hD] at this; cases this)) | (first | rfl | exact ⟨rfl, rfl⟩ | ((try simp only [Int.toNat_natCast, er, em, ek, decide_eq_true_eq, decide_eq_false_iff_not, View.num] at *) <;> first | omega | exact a6 | exact ⟨okP hX k, by omega, by omega⟩ | (have hdm := dimM_b (okP hX k) (r := most - n) (by omega); show IntKind.i64.wrap (n + dimM (atP X k) (most - n)) = _; rw [w64 (by omega) (by omega)]) | (rw [← listI_end hI (by omega)]; rfl) | (have := listI_end hI (by omega); simp_all; done) | (rw [a6]; rw [listI_end hI (by omega)]; done) | (simp at a7 ⊢; omega) | rfl | simp))
      · -- 2
        refine oe (decide ((↑k : Int) < ↑X.length)) (fun d1 => oe (decide (n ≥ most)) (fun d2 => ⟨[true, true], .inr ⟨[two = two, l.length + (1 : Nat) = (listF most two X).length, n = dimS (listF most two X), c :: l = listF most two X, Dec (decide (n ≥ most)) true, (0 : Int) ≤ ↑k ∧ (↑k : Int) < ↑X.length, Dec (decide ((↑k : Int) < ↑X.length)) true], by kernel_rfl, ⟨?_, ?_, ?_, ?_, d2, ?_, d1⟩, rfl⟩⟩) (fun d2 => ⟨[true, false], .inl ⟨(k + 1, expM (atP X k) e, n + dimM (atP X k) (most - n), c :: (l ++ [conM (atP X k) (expM (atP X k) e) (most - n) two])), [most = most, two = two, l.length + (1 : Nat) + (1 : Nat) = (l ++ [conM (atP X k) (expM (atP X k) e) (most - n) two]).length + (1 : Nat), IntKind.i64.wrap (e + IntKind.i64.wrap ((1 : Int) + ((IntKind.i64.wrap (X.getD k Prt.zero).x0).tmod (4 : Int)).tmod (3 : Int))) = expM (atP X k) e, IntKind.i64.wrap (n + (conM (X.getD k Prt.zero) (IntKind.i64.wrap (e + IntKind.i64.wrap ((1 : Int) + ((IntKind.i64.wrap (X.getD k Prt.zero).x0).tmod (4 : Int)).tmod (3 : Int)))) (IntKind.i64.wrap (most - n)) two).dim) = n + dimM (atP X k) (most - n), X.length = X.length ∧ (fun i => (X.getD i Prt.zero).rvs) = fun i => (X.getD i Prt.zero).rvs, (↑X.length : Int) = ↑X.length, IntKind.i64.wrap ((↑k : Int) + 1) = (↑(k + (1 : Nat)) : Int), c :: l ++ [conM (X.getD k Prt.zero) (IntKind.i64.wrap (e + IntKind.i64.wrap ((1 : Int) + ((IntKind.i64.wrap (X.getD k Prt.zero).x0).tmod (4 : Int)).tmod (3 : Int)))) (IntKind.i64.wrap (most - n)) two] = c :: (l ++ [conM (atP X k) (expM (atP X k) e) (most - n) two]), (View.con (c :: l)).num = l.length + (1 : Nat) ∧ l.length + (1 : Nat) + (1 : Nat) ≤ (1000000 : Nat), (X.getD k Prt.zero).ok ∧ (1 : Int) ≤ IntKind.i64.wrap (most - n) ∧ IntKind.i64.wrap (most - n) ≤ 100, (3 : Int) ≠ (0 : Int), (4 : Int) ≠ (0 : Int), Dec (decide (n ≥ most)) false, (0 : Int) ≤ ↑k ∧ (↑k : Int) < ↑X.length, Dec (decide ((↑k : Int) < ↑X.length)) true], by kernel_rfl, ⟨?_, ?_, ?_, ?_, ?_, ?_, ?_, ?_, ?_, ?_, ?_, ?_, ?_, d2, ?_, d1⟩, MuG.out ?_, InG.out ?_⟩⟩)) (fun d1 => ⟨[false], .inr ⟨[two = two, l.length + (1 : Nat) = (listF most two X).length, n = dimS (listF most two X), c :: l = listF most two X, Dec (decide ((↑k : Int) < (↑X.length : Int))) false], by kernel_rfl, ⟨?_, ?_, ?_, ?_, d1⟩, rfl⟩⟩)
        all_goals first | (refine MuG.mk ?_; (simp only [decide_eq_true_eq, decide_eq_false_iff_not] at *; show X.length - (k + 1) < X.length - k; omega)) | (refine InG.mk ?_; (simp only [decide_eq_true_eq, decide_eq_false_iff_not] at *; exact ⟨listI_next hX hI (by omega) (by omega), hD⟩)) | (refine CtG.mk ?_; (simp only [decide_eq_true_eq, decide_eq_false_iff_not] at *; have := hempty _ (listI_end hI (by omega)); rw [← hD] at this; cases this)) | (first | rfl | exact ⟨rfl, rfl⟩ | ((try simp only [Int.toNat_natCast, er, em, ek, decide_eq_true_eq, decide_eq_false_iff_not, View.num] at *) <;> first | omega | exact a6 | exact ⟨okP hX k, by omega, by omega⟩ | (have hdm := dimM_b (okP hX k) (r := most - n) (by omega); show IntKind.i64.wrap (n + dimM (atP X k) (most - n)) = _; rw [w64 (by omega) (by omega)]) | (rw [← listI_end hI (by omega)]; rfl) | (have := listI_end hI (by omega); simp_all; done) | (rw [a6]; rw [listI_end hI (by omega)]; done) | (simp at a7 ⊢; omega) | rfl | simp))
    · -- d = true
      obtain ⟨hI, hD⟩ := hI
      have hI' := hI
      obtain ⟨a1, a2, a3, a4, a5, a6, a7, a8, a9⟩ := hI'
      simp only at a1 a2 a3 a4 a5 a6 a7 a8 a9
      have er := raw_exp (okP hX k) (e := e) (by omega) (by omega)
      have ek : IntKind.i64.wrap ((k : Int) + 1) = ((k + 1 : Nat) : Int) := by rw [w64 (by omega) (by omega)]; omega
      have em : IntKind.i64.wrap (most - n) = most - n := w64 (by omega) (by omega)
      have hempty : ∀ a, a = listF most two X → a.isEmpty = (listF most two X).isEmpty := fun a h => by rw [h]
      rcases acc with _ | ⟨c, l⟩
      · -- 1
        refine oe (decide ((↑k : Int) < ↑X.length)) (fun d1 => oe (decide (n ≥ most)) (fun d2 => ⟨[true, true], .inr ⟨[two = two, n = 0, Dec (decide (n ≥ most)) true, (0 : Int) ≤ ↑k ∧ (↑k : Int) < ↑X.length, Dec (decide ((↑k : Int) < ↑X.length)) true], by kernel_rfl, ⟨?_, ?_, d2, ?_, d1⟩, rfl⟩⟩) (fun d2 => ⟨[true, false], .inl ⟨(k + 1, expM (atP X k) e, n + dimM (atP X k) (most - n), [conM (atP X k) (expM (atP X k) e) (most - n) two]), [most = most, two = two, (1 : Nat) = (0 : Nat) + (1 : Nat), IntKind.i64.wrap (e + IntKind.i64.wrap ((1 : Int) + ((IntKind.i64.wrap (X.getD k Prt.zero).x0).tmod (4 : Int)).tmod (3 : Int))) = expM (atP X k) e, IntKind.i64.wrap (n + (conM (X.getD k Prt.zero) (IntKind.i64.wrap (e + IntKind.i64.wrap ((1 : Int) + ((IntKind.i64.wrap (X.getD k Prt.zero).x0).tmod (4 : Int)).tmod (3 : Int)))) (IntKind.i64.wrap (most - n)) two).dim) = n + dimM (atP X k) (most - n), X.length = X.length ∧ (fun i => (X.getD i Prt.zero).rvs) = fun i => (X.getD i Prt.zero).rvs, (↑X.length : Int) = ↑X.length, IntKind.i64.wrap ((↑k : Int) + 1) = (↑(k + (1 : Nat)) : Int), [conM (X.getD k Prt.zero) (IntKind.i64.wrap (e + IntKind.i64.wrap ((1 : Int) + ((IntKind.i64.wrap (X.getD k Prt.zero).x0).tmod (4 : Int)).tmod (3 : Int)))) (IntKind.i64.wrap (most - n)) two] = [conM (atP X k) (expM (atP X k) e) (most - n) two], (0 : Nat) < (1 : Nat) ∧ (1 : Nat) ≤ (1000000 : Nat), (X.getD k Prt.zero).ok ∧ (1 : Int) ≤ IntKind.i64.wrap (most - n) ∧ IntKind.i64.wrap (most - n) ≤ 100, (3 : Int) ≠ (0 : Int), (4 : Int) ≠ (0 : Int), Dec (decide (n ≥ most)) false, (0 : Int) ≤ ↑k ∧ (↑k : Int) < ↑X.length, Dec (decide ((↑k : Int) < ↑X.length)) true], by kernel_rfl, ⟨?_, ?_, ?_, ?_, ?_, ?_, ?_, ?_, ?_, ?_, ?_, ?_, ?_, d2, ?_, d1⟩, MuG.out ?_, InG.out ?_⟩⟩)) (fun d1 => ⟨[false], .inr ⟨[two = two, n = (0 : Int), Dec (decide ((↑k : Int) < (↑X.length : Int))) false], by kernel_rfl, ⟨?_, ?_, d1⟩, rfl⟩⟩)
        all_goals first | (refine MuG.mk ?_; (simp only [decide_eq_true_eq, decide_eq_false_iff_not] at *; show X.length - (k + 1) < X.length - k; omega)) | (refine InG.mk ?_; (simp only [decide_eq_true_eq, decide_eq_false_iff_not] at *; exact ⟨listI_next hX hI (by omega) (by omega), hD⟩)) | (refine CtG.mk ?_; (simp only [decide_eq_true_eq, decide_eq_false_iff_not] at *; have := hempty _ (listI_end hI (by omega)); rw [← hD] at this; cases this)) | (first | rfl | exact ⟨rfl, rfl⟩ | ((try simp only [Int.toNat_natCast, er, em, ek, decide_eq_true_eq, decide_eq_false_iff_not, View.num] at *) <;> first | omega | exact a6 | exact ⟨okP hX k, by omega, by omega⟩ | (have hdm := dimM_b (okP hX k) (r := most - n) (by omega); show IntKind.i64.wrap (n + dimM (atP X k) (most - n)) = _; rw [w64 (by omega) (by omega)]) | (rw [← listI_end hI (by omega)]; rfl) | (have := listI_end hI (by omega); simp_all; done) | (rw [a6]; rw [listI_end hI (by omega)]; done) | (simp at a7 ⊢; omega) | rfl | simp))
      · -- 2
        refine oe (decide ((↑k : Int) < (↑X.length : Int))) (fun d1 => oe (decide (n ≥ most)) (fun d2 => CtG.no ?_) (fun d2 => ⟨[true, false], .inl ⟨(k + 1, expM (atP X k) e, n + dimM (atP X k) (most - n), c :: (l ++ [conM (atP X k) (expM (atP X k) e) (most - n) two])), [most = most, two = two, l.length + (1 : Nat) + (1 : Nat) = (l ++ [conM (atP X k) (expM (atP X k) e) (most - n) two]).length + (1 : Nat), IntKind.i64.wrap (e + IntKind.i64.wrap ((1 : Int) + ((IntKind.i64.wrap (X.getD k Prt.zero).x0).tmod (4 : Int)).tmod (3 : Int))) = expM (atP X k) e, IntKind.i64.wrap (n + (conM (X.getD k Prt.zero) (IntKind.i64.wrap (e + IntKind.i64.wrap ((1 : Int) + ((IntKind.i64.wrap (X.getD k Prt.zero).x0).tmod (4 : Int)).tmod (3 : Int)))) (IntKind.i64.wrap (most - n)) two).dim) = n + dimM (atP X k) (most - n), X.length = X.length ∧ (fun i => (X.getD i Prt.zero).rvs) = fun i => (X.getD i Prt.zero).rvs, (↑X.length : Int) = ↑X.length, IntKind.i64.wrap ((↑k : Int) + 1) = (↑(k + (1 : Nat)) : Int), c :: l ++ [conM (X.getD k Prt.zero) (IntKind.i64.wrap (e + IntKind.i64.wrap ((1 : Int) + ((IntKind.i64.wrap (X.getD k Prt.zero).x0).tmod (4 : Int)).tmod (3 : Int)))) (IntKind.i64.wrap (most - n)) two] = c :: (l ++ [conM (atP X k) (expM (atP X k) e) (most - n) two]), (View.con (c :: l)).num = l.length + (1 : Nat) ∧ l.length + (1 : Nat) + (1 : Nat) ≤ (1000000 : Nat), (X.getD k Prt.zero).ok ∧ (1 : Int) ≤ IntKind.i64.wrap (most - n) ∧ IntKind.i64.wrap (most - n) ≤ 100, (3 : Int) ≠ (0 : Int), (4 : Int) ≠ (0 : Int), Dec (decide (n ≥ most)) false, (0 : Int) ≤ ↑k ∧ (↑k : Int) < ↑X.length, Dec (decide ((↑k : Int) < ↑X.length)) true], by kernel_rfl, ⟨?_, ?_, ?_, ?_, ?_, ?_, ?_, ?_, ?_, ?_, ?_, ?_, ?_, d2, ?_, d1⟩, MuG.out ?_, InG.out ?_⟩⟩)) (fun d1 => CtG.no ?_)
        all_goals first | (refine MuG.mk ?_; (simp only [decide_eq_true_eq, decide_eq_false_iff_not] at *; show X.length - (k + 1) < X.length - k; omega)) | (refine InG.mk ?_; (simp only [decide_eq_true_eq, decide_eq_false_iff_not] at *; exact ⟨listI_next hX hI (by omega) (by omega), hD⟩)) | (refine CtG.mk ?_; (simp only [decide_eq_true_eq, decide_eq_false_iff_not] at *; have := hempty _ (listI_end hI (by omega)); rw [← hD] at this; cases this)) | (first | rfl | exact ⟨rfl, rfl⟩ | ((try simp only [Int.toNat_natCast, er, em, ek, decide_eq_true_eq, decide_eq_false_iff_not, View.num] at *) <;> first | omega | exact a6 | exact ⟨okP hX k, by omega, by omega⟩ | (have hdm := dimM_b (okP hX k) (r := most - n) (by omega); show IntKind.i64.wrap (n + dimM (atP X k) (most - n)) = _; rw [w64 (by omega) (by omega)]) | (rw [← listI_end hI (by omega)]; rfl) | (have := listI_end hI (by omega); simp_all; done) | (rw [a6]; rw [listI_end hI (by omega)]; done) | (simp at a7 ⊢; omega) | rfl | simp))
theorem listM_dims {most : Int} {two : Bool} {X : List Prt} (hX : ∀ p ∈ X, p.ok) : ∀ {e n : Int}, ∀ c ∈ listM most two X e n, 1 ≤ c.dim := by
  induction X with
  | nil => intro e n c hc; simp [listM] at hc
  | cons p l ih =>
    intro e n c hc
    simp only [listM] at hc
    split at hc
    · simp at hc
    · rcases List.mem_cons.1 hc with hc | hc
      · rw [hc]; exact (dimM_b (hX p (by simp)) (r := most - n) (by omega)).1
      · exact ih (fun x hx => hX x (by simp [hx])) c hc
theorem listF_pos {most : Int} {two : Bool} {X : List Prt} (hX : ∀ p ∈ X, p.ok) (h : (listF most two X).isEmpty = false) : 1 ≤ dimS (listF most two X) := by
  refine (dimS_nonneg (listM_dims hX)).2 ?_
  intro h0
  unfold listF at h
  rw [h0] at h
  cases h
theorem list_pure (pr : Int) (X : List Prt) (most : Int) (two : Bool) (hX : ∀ p ∈ X, p.ok) (hm1 : 1 ≤ most) (hm2 : most ≤ 100) (hn : X.length ≤ 1000) : PureC Tryz.prog [] 40 [.agg [.int .u8 pr, roP X], .int .i64 most, .bool two] (roC (listV most two X)) := by
  have rr := fun (tp : List Bool) (ms : List Prop) h hm => pure_run evOk (callF_ok evOk (orcOf_ok entsC_ok) 8) Tryz.func40 (A := [.agg [.int .u8 pr, roP X], .int .i64 most, .bool two]) (N := Nat.max 1 Tryz.f40.ntmps) rfl (one_ann (list_loop most two X hX hm1 hm2 hn)) rfl rfl evNg (tabs := []) (R := roC (listV most two X)) (tp := tp) (ms := ms) h hm
  refine oe ((listF most two X).isEmpty) (fun d1 => rr [true] [(1 : Nat) = (listV most two X).length ∧ (1 : Nat) = [conM (Prt.mk (0 : Int) (0 : Int) (0 : Int) (0 : Int) (0 : Int)) (0 : Int) (1 : Int) two].length ∧ ∀ (i : Nat), i < (1 : Nat) → ((rws (listV most two X))) i = ([conM (Prt.mk (0 : Int) (0 : Int) (0 : Int) (0 : Int) (0 : Int)) (0 : Int) (1 : Int) two].getD i Con.zero).rvs, (0 : Nat) < (1 : Nat) ∧ (1 : Nat) ≤ (1000000 : Nat), (Prt.mk (0 : Int) (0 : Int) (0 : Int) (0 : Int) (0 : Int)).ok ∧ (1 : Int) ≤ 1 ∧ (1 : Int) ≤ 100, most = most, two = two, X.length = X.length ∧ (fun i => (X.getD i Prt.zero).rvs) = fun i => (X.getD i Prt.zero).rvs, (↑X.length : Int) = ↑X.length, Dec (listF most two X).isEmpty true] (by kernel_rfl) ⟨?_, ?_, ?_, ?_, ?_, ?_, ?_, d1⟩) (fun d1 => oe (dimS (listF most two X) == 0) (fun d2 => rr [false, true] [(listF most two X).length + (1 : Nat) = (listV most two X).length ∧ (listF most two X).length + (1 : Nat) = (listF most two X ++ [conM (Prt.mk (0 : Int) (0 : Int) (0 : Int) (0 : Int) (0 : Int)) (0 : Int) (1 : Int) two]).length ∧ ∀ (i : Nat), i < (listF most two X).length + (1 : Nat) → ((rws (listV most two X))) i = ((listF most two X ++ [conM (Prt.mk (0 : Int) (0 : Int) (0 : Int) (0 : Int) (0 : Int)) (0 : Int) (1 : Int) two]).getD i Con.zero).rvs, (View.con (listF most two X)).num = (listF most two X).length ∧ (listF most two X).length + (1 : Nat) ≤ (1000000 : Nat), (Prt.mk (0 : Int) (0 : Int) (0 : Int) (0 : Int) (0 : Int)).ok ∧ (1 : Int) ≤ 1 ∧ (1 : Int) ≤ 100, Dec (dimS (listF most two X) == 0) true, most = most, two = two, X.length = X.length ∧ (fun i => (X.getD i Prt.zero).rvs) = fun i => (X.getD i Prt.zero).rvs, (↑X.length : Int) = ↑X.length, Dec (listF most two X).isEmpty false] (by kernel_rfl) ⟨?_, ?_, ?_, d2, ?_, ?_, ?_, ?_, d1⟩) (fun d2 => rr [false, false] [(listF most two X).length = (listV most two X).length ∧ (listF most two X).length = (listF most two X).length ∧ ∀ (i : Nat), i < (listF most two X).length → ((rws (listV most two X))) i = ((listF most two X).getD i Con.zero).rvs, Dec (dimS (listF most two X) == 0) false, most = most, two = two, X.length = X.length ∧ (fun i => (X.getD i Prt.zero).rvs) = fun i => (X.getD i Prt.zero).rvs, (↑X.length : Int) = ↑X.length, Dec (listF most two X).isEmpty false] (by kernel_rfl) ⟨?_, d2, ?_, ?_, ?_, ?_, d1⟩))
  all_goals first | (first | rfl | exact ⟨rfl, rfl⟩ | decide | (exfalso; have h0 := listF_pos hX d1; simp at d2; omega) | (simp only [listV, d1, cond_true, cond_false]; exact ⟨rfl, rfl, fun i _ => rfl⟩) | (rw [show listV most two X = listF most two X from by simp only [listV, d1, cond_false]]; exact ⟨rfl, rfl, fun i _ => rfl⟩) | (simp [Prt.ok, U8]; done))
end Go.Proofs.YtgdhgnhgmbkpdaaGreatDoor.S

namespace Go.Proofs.YtgdhgnhgmbkpdaaGreatDoor.S
open Go.QfSy Go.RowKit
theorem ord_listM {most : Int} (hm : most ≤ 8) {two : Bool} : ∀ {X : List Prt} {e n : Int}, (∀ p ∈ X, p.ok) → -1 ≤ e → 0 ≤ n → n ≤ most → e + 3 * (most - n) ≤ 60 → ordL (listM most two X e n) e n = true
  | [], e, n, _, _, _, _, _ => rfl
  | p :: X, e, n, hX, h1, h2, h3, h4 => by
    simp only [listM]
    split
    · rfl
    · have hp := hX p (by simp)
      have hd := dimM_b hp (r := most - n) (by omega)
      have he := expM_b (p := p) e
      have hs := signM_b hp
      simp only [ordL, Bool.and_eq_true]
      refine ⟨?_, ?_⟩
      · unfold okO
        rw [decide_eq_true_eq]
        show 0 ≤ expM p e ∧ expM p e ≤ 60 ∧ e < expM p e ∧ (signM p = 1 ∨ signM p = -1) ∧ 1 ≤ dimM p (most - n) ∧ dimM p (most - n) ≤ 8 - n
        omega
      · show ordL (listM most two X (expM p e) (n + dimM p (most - n))) (expM p e) (n + dimM p (most - n)) = true
        exact ord_listM hm (fun x hx => hX x (by simp [hx])) (by omega) (by omega) (by omega) (by omega)
theorem zero_ok : Prt.zero.ok := by refine ⟨?_, ?_, ?_, ?_, ?_⟩ <;> (unfold U8 Prt.zero; decide)
theorem ord_listV {most : Int} (h1 : 1 ≤ most) (hm : most ≤ 8) {two : Bool} {X : List Prt} (hX : ∀ p ∈ X, p.ok) : orderV (listV most two X) = true := by
  unfold listV
  cases he : (listF most two X).isEmpty with
  | false =>
    simp only [cond_false]
    unfold orderV
    rw [Bool.and_eq_true]
    refine ⟨ord_listM hm hX (by decide) (by decide) (by omega) (by omega), ?_⟩
    have := listF_pos hX he
    simp; omega
  | true =>
    simp only [cond_true]
    have hd := dimM_b zero_ok (r := 1) (by decide)
    have hs := signM_b zero_ok
    unfold orderV
    have e1 : (conM Prt.zero 0 1 two).exp = 0 := rfl
    have e2 : (conM Prt.zero 0 1 two).dim = dimM Prt.zero 1 := rfl
    have e3 : (conM Prt.zero 0 1 two).sign = signM Prt.zero := rfl
    rw [Bool.and_eq_true, decide_eq_true_eq]
    simp only [ordL, okO, dimS, Bool.and_true, decide_eq_true_eq, e1, e2, e3]
    omega
theorem oddF_mod (d s k : Int) (hk : 0 ≤ k) : oddityF_v d s k = oddityF_v d s (k % 8) := by
  have h : (k % 8).tmod 8 = k.tmod 8 := by
    rw [Int.tmod_eq_emod_of_nonneg hk, Int.tmod_eq_emod_of_nonneg (by omega)]; omega
  unfold oddityF_v
  rw [h]
theorem oddF_tab : ∀ d ∈ ([1, 2, 3] : List Int), ∀ s ∈ ([1, -1] : List Int), ∀ t ∈ ([0, 1, 2, 3, 4, 5, 6, 7] : List Int), legalB ⟨0, d, s, true, oddityF_v d s t⟩ = true := by
  decide +kernel
theorem legal_con {p : Prt} {e r : Int} (hp : p.ok) (hr : 1 ≤ r) (h0 : 0 ≤ e) (h1 : e ≤ 60) : legalB (conM p e r true) = true := by
  have hd := dimM_b hp hr
  have hs := signM_b hp
  have hx := hp.2.2.2.2
  unfold legalB
  rw [decide_eq_true_eq]
  cases ho : oddM p r true with
  | false =>
    have h2 : dimM p r % 2 = 0 := by
      unfold oddM at ho
      simp only [cond_true] at ho
      cases hb : (dimM p r % 2 == 1) with
      | true => rw [hb] at ho; cases ho
      | false => have := beq_eq_false_iff_ne.1 hb; omega
    have e1 : conM p e r true = ⟨e, dimM p r, signM p, false, 0⟩ := by unfold conM; rw [ho]; rfl
    rw [e1]
    exact ⟨⟨h0, h1⟩, ⟨hd.1, by show dimM p r ≤ 8; omega⟩, hs, ⟨(by decide : (0 : Int) ≤ 0), (by decide : (0 : Int) ≤ 7)⟩, fun _ => ⟨h2, rfl⟩, fun h => by cases h⟩
  | true =>
    have e1 : conM p e r true = ⟨e, dimM p r, signM p, true, oddityF_v (dimM p r) (signM p) p.x4⟩ := by unfold conM; rw [ho]; rfl
    rw [e1, oddF_mod _ _ _ hx.1]
    have h3 : dimM p r ∈ ([1, 2, 3] : List Int) := by simp; omega
    have h4 : signM p ∈ ([1, -1] : List Int) := by simp; exact hs
    have h5 : p.x4 % 8 ∈ ([0, 1, 2, 3, 4, 5, 6, 7] : List Int) := by simp; omega
    have := oddF_tab _ h3 _ h4 _ h5
    unfold legalB at this
    rw [decide_eq_true_eq] at this
    exact ⟨⟨h0, h1⟩, this.2⟩
theorem legal_listM {most : Int} (hm : most ≤ 8) : ∀ {X : List Prt} {e n : Int}, (∀ p ∈ X, p.ok) → -1 ≤ e → 0 ≤ n → n ≤ most → e + 3 * (most - n) ≤ 60 → (listM most true X e n).all legalB = true
  | [], e, n, _, _, _, _, _ => rfl
  | p :: X, e, n, hX, h1, h2, h3, h4 => by
    simp only [listM]
    split
    · rfl
    · have hp := hX p (by simp)
      have hd := dimM_b hp (r := most - n) (by omega)
      have he := expM_b (p := p) e
      simp only [List.all_cons, Bool.and_eq_true]
      exact ⟨legal_con hp (by omega) (by omega) (by omega), legal_listM hm (fun x hx => hX x (by simp [hx])) (by omega) (by omega) (by omega) (by omega)⟩
theorem legal_listV {most : Int} (h1 : 1 ≤ most) (hm : most ≤ 8) {X : List Prt} (hX : ∀ p ∈ X, p.ok) : (listV most true X).all legalB = true := by
  unfold listV
  cases he : (listF most true X).isEmpty with
  | false => exact legal_listM hm hX (by decide) (by decide) (by omega) (by omega)
  | true => simp only [cond_true, List.all_cons, List.all_nil, Bool.and_true]; exact legal_con zero_ok (by decide) (by decide) (by decide)
theorem val2_listV {most : Int} (h1 : 1 ≤ most) (hm : most ≤ 8) {X : List Prt} (hX : ∀ p ∈ X, p.ok) : val2M 2 (listV most true X) = true := by
  unfold val2M
  rw [ord_listV h1 hm hX, legal_listV h1 hm hX]; rfl
end Go.Proofs.YtgdhgnhgmbkpdaaGreatDoor.S

namespace Go.Proofs.YtgdhgnhgmbkpdaaGreatDoor.S
open Go.QfSy Go.RowKit
def Prt.ofR : List RV → Prt
  | [.int .u8 a, .int .u8 b, .int .u8 c, .int .u8 d, .int .u8 e] => ⟨a, b, c, d, e⟩
  | _ => Prt.zero
def prtR (n : Nat) (row : Nat → List RV) : List Prt := (List.range n).map fun i => Prt.ofR (row i)
theorem prtR_ro (L : List Prt) : prtR L.length (fun i => (L.getD i Prt.zero).rvs) = L := by
  apply List.ext_getElem
  · simp [prtR]
  · intro i h1 h2
    simp [prtR, h2]; rfl
theorem roP_ro {n : Nat} {row : Nat → List RV} (h : ∀ i, i < n → row i = (Prt.ofR (row i)).rvs) {F : Fz} {V : Value} (k : RRel F (.sl n 5 row) V) : RRel F (roP (prtR n row)) V := by
  unfold roP
  have hn : (prtR n row).length = n := by simp [prtR]
  rw [hn]
  refine k.rows (fun i hi => ?_)
  rw [h i hi]
  congr 1
  simp [prtR, hi]
theorem list_rows {pr most : Int} {two : Bool} {n : Nat} {row : Nat → List RV} (h1 : ∀ i, i < n → row i = (Prt.ofR (row i)).rvs) (h2 : ∀ p ∈ prtR n row, p.ok) (h3 : 1 ≤ most) (h4 : most ≤ 100) (h5 : n ≤ 1000) : PureC Tryz.prog [] 40 [.agg [.int .u8 pr, .sl n 5 row], .int .i64 most, .bool two] (roC (listV most two (prtR n row))) := by
  refine (list_pure pr _ most two h2 h3 h4 (by simpa [prtR] using h5)).args (fun F Args hr => ?_)
  cases hr with | cons k0 hr => cases k0 with | agg k0 => cases k0 with | cons a0 k0 => cases k0 with | cons a1 k0 =>
  cases k0
  exact .cons (.agg (.cons a0 (.cons (roP_ro h1 a1) .nil))) hr
theorem listV_len {most : Int} {two : Bool} {X : List Prt} : (listV most two X).length ≤ X.length + 1 := by
  have key : ∀ (X : List Prt) (e n : Int), (listM most two X e n).length ≤ X.length := by
    intro X
    induction X with
    | nil => intro e n; simp [listM]
    | cons p l ih =>
      intro e n
      simp only [listM]
      split
      · simp
      · simp; exact ih _ _
  unfold listV
  cases (listF most two X).isEmpty
  · have := key X (-1) 0
    simp only [cond_false]; unfold listF; omega
  · simp
end Go.Proofs.YtgdhgnhgmbkpdaaGreatDoor.S
namespace Go.Proofs.YtgdhgnhgmbkpdaaGreatDoor.S
open Go.QfSy
abbrev rps (L : List Prt) : List Prt := prtR L.length fun i => (L.getD i Prt.zero).rvs
end Go.Proofs.YtgdhgnhgmbkpdaaGreatDoor.S

namespace Go.Proofs.YtgdhgnhgmbkpdaaGreatDoor.Q
open Go.RowKit
theorem below_drewN {B : Nat} {a w : World} (h : Below B a w) (n : Nat) : Below B a (w.drewN n) := ⟨h.os, h.tape, h.output, h.size, h.block⟩
structure Con where
  exp : Int
  dim : Int
  sign : Int
  odd : Bool
  oddity : Int
deriving DecidableEq
def Con.agg (c : Con) : Value := .agg #[.int .i64 c.exp, .int .i64 c.dim, .int .i64 c.sign, .bool c.odd, .int .i64 c.oddity]
structure ConAt (w : World) (b o : Nat) (c : Con) : Prop where
  c0 : w.cell? ⟨b, o, none⟩ = some (.int .i64 c.exp)
  c1 : w.cell? ⟨b, o + 1, none⟩ = some (.int .i64 c.dim)
  c2 : w.cell? ⟨b, o + 2, none⟩ = some (.int .i64 c.sign)
  c3 : w.cell? ⟨b, o + 3, none⟩ = some (.bool c.odd)
  c4 : w.cell? ⟨b, o + 4, none⟩ = some (.int .i64 c.oddity)
theorem ConAt.below {w w' : World} {b o n : Nat} {c : Con} (h : ConAt w b o c) (hb : Below n w w') (hl : b < n) : ConAt w' b o c :=
  ⟨(hb.cell (p := ⟨b, _, none⟩) hl).trans h.c0, (hb.cell (p := ⟨b, _, none⟩) hl).trans h.c1, (hb.cell (p := ⟨b, _, none⟩) hl).trans h.c2, (hb.cell (p := ⟨b, _, none⟩) hl).trans h.c3, (hb.cell (p := ⟨b, _, none⟩) hl).trans h.c4⟩
def Lst (w : World) (v : Value) (l : List Con) : Prop :=
  (l = [] ∧ ∃ a c, v = .slice a 0 c) ∨
  (l ≠ [] ∧ ∃ b o cap, v = .slice (some ⟨b, o, none⟩) l.length cap ∧ b < w.heap.size ∧ l.length ≤ cap ∧ (∀ i c, l[i]? = some c → ConAt w b (o + i * 5) c))
theorem Lst.below {w w' : World} {v : Value} {l : List Con} {n : Nat} (h : Lst w v l) (hb : Below n w w') (hn : w.heap.size ≤ n) : Lst w' v l := by
  rcases h with ⟨h1, h2⟩ | ⟨h1, b, o, cap, h2, h3, hcp, h4⟩
  · exact .inl ⟨h1, h2⟩
  · refine .inr ⟨h1, b, o, cap, h2, ?_, hcp, fun i c hi => (h4 i c hi).below hb (by omega)⟩
    have := hb.size; omega
theorem con_eql (c : Con) (w : World) : (binOp .neq 59 c.agg c.agg).run Tryz.prog w = .ok (.bool false) w := by
  have u3 := Tryz.underlying3
  have a3 := Tryz.isAgg3
  have z3 := Tryz.sizeOf3
  have u4 := Tryz.underlying4
  have a4 := Tryz.isAgg4
  have z4 := Tryz.sizeOf4
  have hS : Tryz.prog.underlying 59 = some (.struct (Tryz.prog.fieldsOf 59)) := by kernel_rfl
  have hp : Tryz.prog.stoodInHeld 59 = false := by kernel_rfl
  simp only [Con.agg]
  rw [run_neq_struct, show (10000 : Nat) = 9999 + 1 from rfl, run_equalIn_agg w 9999 59 _ _ hS hp]
  simp only [Program.fieldsOf, Tryz.underlying59]
  go_simp
set_option maxHeartbeats 4000000 in
theorem sameList_cons (l : List Con) (n b o cap b' o' cap' : Nat) (w : World) (hn : Hid (l.length = n)) (hn0 : 0 < n) (hn1 : n ≤ 1000) (hb : b < w.heap.size) (hb' : b' < w.heap.size)
    (hc : Hid (∀ i c, l[i]? = some c → ConAt w b (o + i * 5) c)) (hc' : Hid (∀ i c, l[i]? = some c → ConAt w b' (o' + i * 5) c)) :
    Calls Tryz.prog 38 #[.slice (some ⟨b, o, none⟩) n cap, .slice (some ⟨b', o', none⟩) n cap'] w fun e w' => e = .returned (.bool true) ∧ Below w.heap.size w w' := by
  go_enter Tryz.func38, Tryz.ntmps38
  go_wp2
  go_loopw [13] (fun i wr => ∃ (k : Nat), k ≤ n ∧ i = .int .i64 k ∧ Below w.heap.size w wr) (fun i _ => (n - (intOf i).toNat))
  case atStart => exact ⟨0, by omega, rfl, Below.refl _ _⟩
  case round =>
    obtain ⟨k, hk, rfl, hbe⟩ := hrel
    by_cases hlt : k < n
    · obtain ⟨c, hkc⟩ : ∃ c, l[k]? = some c := ⟨l[k]'(by rw [hn.out]; exact hlt), List.getElem?_eq_getElem _⟩
      obtain ⟨g0, g1, g2, g3, g4⟩ := (hc.out k c hkc).below hbe hb
      obtain ⟨f0, f1, f2, f3, f4⟩ := (hc'.out k c hkc).below hbe hb'
      have hix : (0 : Int) ≤ (k : Int) := by omega
      have hix' : (k : Int) < (n : Int) := by omega
      clear hkc
      have hneq := con_eql c
      unfold Con.agg at hneq
      go_wp2
      go_hide hQ
      go_quiet (fail)
      subst hQ
      go_wp2
      go_roundw
      case rel => exact ⟨k + 1, by omega, by go_num, below_drewN hbe _⟩
      case measure => simp [intOf]; omega
    · go_wp2
      go_ret
      exact ⟨rfl, hbe⟩
theorem sameList_nil (a a' : Option Addr) (cap cap' : Nat) (w : World) :
    Calls Tryz.prog 38 #[.slice a 0 cap, .slice a' 0 cap'] w fun e w' => e = .returned (.bool true) ∧ Below w.heap.size w w' := by
  go_enter Tryz.func38, Tryz.ntmps38
  go_wp2
  go_loopw [13] (fun i wr => i = .int .i64 0 ∧ wr = w) (fun _ _ => 0)
  case atStart => exact ⟨rfl, rfl⟩
  case round =>
    obtain ⟨rfl, rfl⟩ := hrel
    go_wp2
    go_ret
    exact ⟨rfl, Below.refl _ _⟩
theorem sameList_calls (l : List Con) (v v' : Value) (w : World) (h : Lst w v l) (h' : Lst w v' l) (hn : l.length ≤ 1000) :
    Calls Tryz.prog 38 #[v, v'] w fun e w' => e = .returned (.bool true) ∧ Below w.heap.size w w' := by
  rcases h with ⟨rfl, a, c, rfl⟩ | ⟨hne, b, o, cap, rfl, hb, hcp, hc⟩
  · rcases h' with ⟨_, a', c', rfl⟩ | ⟨hne, _⟩
    · exact sameList_nil a a' c c' w
    · exact absurd rfl hne
  · rcases h' with ⟨rfl, _⟩ | ⟨_, b', o', cap', rfl, hb', hcp', hc'⟩
    · exact absurd rfl hne
    · have hpos : 0 < l.length := by cases l; exact absurd rfl hne; simp
      exact sameList_cons l l.length b o cap b' o' cap' w rfl hpos hn hb hb' hc hc'
set_option maxHeartbeats 1000000 in
theorem same_calls (p : Int) (l : List Con) (a a' : Option Addr) (n n' c c' : Nat) (w : World) (h : Hid (Lst w (.slice a n c) l)) (h' : Hid (Lst w (.slice a' n' c') l)) (hn : Hid (l.length ≤ 1000)) :
    Calls Tryz.prog 13 #[.agg #[.int .i64 p, .slice a n c], .agg #[.int .i64 p, .slice a' n' c']] w fun e w' => e = .returned (.bool true) ∧ Below w.heap.size w w' := by
  have hcall := Lib.hid (fun (W : World) (hW : Below w.heap.size w W) => sameList_calls l (.slice a n c) (.slice a' n' c') W (h.out.below hW (Nat.le_refl _)) (h'.out.below hW (Nat.le_refl _)) hn.out)
  clear h h'
  go_enter Tryz.func13, Tryz.ntmps13
  go_wp2_with (go_at_call 38; refine (hcall.out _ ?_).mono ?_; (exact ((Below.refl _ _).alloc (Nat.le_refl _) _).alloc (by simp) _); rintro e w1 ⟨rfl, hb1⟩)
  go_ret
  exact ⟨rfl, (((Below.refl _ _).alloc (Nat.le_refl _) _).alloc (by simp) _).trans (hb1.mono (by simp; omega))⟩
end Go.Proofs.YtgdhgnhgmbkpdaaGreatDoor.Q

namespace Go.Proofs.YtgdhgnhgmbkpdaaGreatDoor.S
open Go.QfSy Go.RowKit
def toQ (c : Con) : Q.Con := ⟨c.exp, c.dim, c.sign, c.odd, c.oddity⟩
theorem cell_of {F : Fz} {w : World} (hF : Vld F w) {B o : Nat} {v : Value} (h : FzAt F B o v) : w.cell? ⟨B, o, none⟩ = some v ∧ B < w.heap.size := by
  obtain ⟨cs, el, fr, h1, h2⟩ := h
  have h3 := hF _ _ h1
  refine ⟨?_, (Array.getElem?_eq_some_iff.1 h3).1⟩
  simp [World.cell?, h3, h2]
theorem rs5 {F : Fz} {c : Con} {Vs : List Value} (h : RsRel F c.rvs Vs) : Vs = [.int .i64 c.exp, .int .i64 c.dim, .int .i64 c.sign, .bool c.odd, .int .i64 c.oddity] := by
  unfold Con.rvs at h
  cases h with | cons h0 h => cases h with | cons h1 h => cases h with | cons h2 h => cases h with | cons h3 h => cases h with | cons h4 h =>
  cases h; cases h0; cases h1; cases h2; cases h3; cases h4
  rfl
theorem lst_of {F : Fz} {w : World} (hF : Vld F w) {L : List Con} {V : Value} (h : RRel F (roC L) V) : Q.Lst w V (L.map toQ) ∧ ∃ a n c, V = .slice a n c := by
  unfold roC at h
  cases h with
  | sl0 sz row a c hn =>
    have : L = [] := List.eq_nil_of_length_eq_zero hn
    subst this
    exact ⟨.inl ⟨rfl, a, c, rfl⟩, _, _, _, rfl⟩
  | @sl _ _ B o c _ cs hc hl hf h =>
    refine ⟨?_, _, _, _, rfl⟩
    cases L with
    | nil => exact .inl ⟨rfl, _, _, rfl⟩
    | cons c0 l =>
      have key : ∀ i, i < (c0 :: l).length → ∀ j v, ([.int .i64 ((c0 :: l).getD i Con.zero).exp, .int .i64 ((c0 :: l).getD i Con.zero).dim, .int .i64 ((c0 :: l).getD i Con.zero).sign, .bool ((c0 :: l).getD i Con.zero).odd, .int .i64 ((c0 :: l).getD i Con.zero).oddity] : List Value)[j]? = some v → w.cell? ⟨B, o + i * 5 + j, none⟩ = some v ∧ B < w.heap.size := by
        intro i hi j v hv
        have := rs5 (h i hi)
        exact cell_of hF (hf i j v hi (by rw [this]; exact hv))
      refine .inr ⟨by simp, B, o, c, by simp, (key 0 (by simp) 0 _ rfl).2, by simpa using hc, ?_⟩
      intro i q hq
      rw [List.getElem?_map] at hq
      cases hi : (c0 :: l)[i]? with
      | none => rw [hi] at hq; cases hq
      | some x =>
        rw [hi] at hq
        cases hq
        have hlt := (List.getElem?_eq_some_iff.1 hi).1
        have hx : (c0 :: l).getD i Con.zero = x := by rw [List.getD_eq_getElem?_getD, hi]; rfl
        have k := key i hlt
        rw [hx] at k
        exact ⟨(k 0 _ rfl).1, (k 1 _ rfl).1, (k 2 _ rfl).1, (k 3 _ rfl).1, (k 4 _ rfl).1⟩
theorem flat_pure {tabs : List Tb} {f : Nat} {A : List RV} {R : RV} {V : Value} (hR : ∀ F, RRel F R V) (hfn : ∃ fn, Tryz.prog.funcs[f]? = some fn ∧ fn.body.isSome = true)
    (h : ∀ (w : World) (F : Fz) (Args : List Value), TabW tabs w → Vld F w → RsRel F A Args → Calls Tryz.prog f Args.toArray w fun e w' => e = .returned V ∧ Below w.heap.size w w') : PureC Tryz.prog tabs f A R := by
  refine ⟨hfn, ?_⟩
  intro w F Args ht hF hr
  refine (h w F Args ht hF hr).mono ?_
  rintro e w' ⟨rfl, hb⟩
  exact ⟨V, F, rfl, fun _ _ h => h, hF.below hb, fun _ _ h => .inl h, hR F, hb⟩
theorem same_pure (p : Int) (L : List Con) (hn : L.length ≤ 1000) : PureC Tryz.prog [] 13 [.agg [.int .i64 p, roC L], .agg [.int .i64 p, roC L]] (.bool true) := by
  refine flat_pure (fun _ => .bool _) ⟨_, Tryz.func13, rfl⟩ ?_
  intro w F Args ht hF hr
  cases hr with | cons h0 hr => cases hr with | cons k0 hr => cases hr; cases h0 with | agg h0 => cases h0 with | cons h1 h0 => cases h1; cases h0 with | cons h2 h0 => cases h0; cases k0 with | agg k0 => cases k0 with | cons k1 k0 => cases k1; cases k0 with | cons k2 k0 =>
  cases k0
  obtain ⟨l1, a, n, c, rfl⟩ := lst_of hF h2
  obtain ⟨l2, a', n', c', rfl⟩ := lst_of hF k2
  exact Q.same_calls p _ a a' n n' c c' w (Lib.hid l1) (Lib.hid l2) (Lib.hid (by simpa using hn))
end Go.Proofs.YtgdhgnhgmbkpdaaGreatDoor.S

namespace Go.Proofs.YtgdhgnhgmbkpdaaGreatDoor.S
open Go.QfSy Go.RowKit
end Go.Proofs.YtgdhgnhgmbkpdaaGreatDoor.S

namespace Go.Proofs.YtgdhgnhgmbkpdaaGreatDoor.Q
open Go.RowKit
end Go.Proofs.YtgdhgnhgmbkpdaaGreatDoor.Q

namespace Go.Proofs.YtgdhgnhgmbkpdaaGreatDoor.Q
open Go.RowKit
def off (k : Nat) : Int := ([7, 11, 13, 17, 19, 23, 29, 31, 37] : List Int).getD k 37
end Go.Proofs.YtgdhgnhgmbkpdaaGreatDoor.Q

namespace Go.Proofs.YtgdhgnhgmbkpdaaGreatDoor.Q
open Go.RowKit
theorem addr_add (b o k : Nat) : (⟨b, o, none⟩ : Addr).add k = ⟨b, o + k, none⟩ := by
  unfold Addr.add
  split
  · rename_i h; subst h; rfl
  · rfl
end Go.Proofs.YtgdhgnhgmbkpdaaGreatDoor.Q

namespace Go.Proofs.YtgdhgnhgmbkpdaaGreatDoor.Q
open Go.RowKit
end Go.Proofs.YtgdhgnhgmbkpdaaGreatDoor.Q

namespace Go.Proofs.YtgdhgnhgmbkpdaaGreatDoor.Q
open Go.RowKit
end Go.Proofs.YtgdhgnhgmbkpdaaGreatDoor.Q

namespace Go.Proofs.YtgdhgnhgmbkpdaaGreatDoor.Q
open Go.RowKit
def even (c : Con) : Bool := !c.odd && decide (c.oddity = 0)
theorem all_drop {l : List Con} {k : Nat} {c : Con} (h : l[k]? = some c) : (l.drop k).all even = (even c && (l.drop (k + 1)).all even) := by
  rw [List.getElem?_eq_some_iff] at h
  obtain ⟨hk, rfl⟩ := h
  rw [List.drop_eq_getElem_cons hk]
  rfl
end Go.Proofs.YtgdhgnhgmbkpdaaGreatDoor.Q

namespace Go.Proofs.YtgdhgnhgmbkpdaaGreatDoor.Q
def pw (p e : Int) : Int := p ^ e.toNat % 8
def four (c : Con) : Int := if c.exp % 2 = 1 ∧ c.sign = -1 then 4 else 0
def ex1 (p : Int) : List Con → Int
  | [] => 0
  | c :: l => (c.dim * (pw p c.exp - 1) + four c) + ex1 p l
def ex2 (p : Int) : List Con → Int
  | [] => 0
  | c :: l => (c.dim * (pw p c.exp + 7) + four c) + ex2 p l
end Go.Proofs.YtgdhgnhgmbkpdaaGreatDoor.Q

namespace Go.Proofs.YtgdhgnhgmbkpdaaGreatDoor.Q
open Go.RowKit
end Go.Proofs.YtgdhgnhgmbkpdaaGreatDoor.Q

namespace Go.Proofs.YtgdhgnhgmbkpdaaGreatDoor.Q
open Go.RowKit
end Go.Proofs.YtgdhgnhgmbkpdaaGreatDoor.Q

namespace Go.Proofs.YtgdhgnhgmbkpdaaGreatDoor.Q
open Go.RowKit
end Go.Proofs.YtgdhgnhgmbkpdaaGreatDoor.Q

namespace Go.Proofs.YtgdhgnhgmbkpdaaGreatDoor.Q
open Go.RowKit
end Go.Proofs.YtgdhgnhgmbkpdaaGreatDoor.Q



namespace Go.Proofs.YtgdhgnhgmbkpdaaGreatDoor.S
open Go.QfSy Go.RowKit
end Go.Proofs.YtgdhgnhgmbkpdaaGreatDoor.S

namespace Go.Proofs.YtgdhgnhgmbkpdaaGreatDoor.S
open Go.QfSy Go.RowKit
end Go.Proofs.YtgdhgnhgmbkpdaaGreatDoor.S

namespace Go.Proofs.YtgdhgnhgmbkpdaaGreatDoor.S
open Go.QfSy Go.RowKit
end Go.Proofs.YtgdhgnhgmbkpdaaGreatDoor.S

namespace Go.Proofs.YtgdhgnhgmbkpdaaGreatDoor.S
open Go.QfSy Go.RowKit
end Go.Proofs.YtgdhgnhgmbkpdaaGreatDoor.S

namespace Go.Proofs.YtgdhgnhgmbkpdaaGreatDoor.S
open Go.QfSy Go.RowKit
def sgS (c : Con) : ByteArray := bif c.sign == -1 then ⟨#[45]⟩ else ⟨#[43]⟩
def cTxt (c : Con) : ByteArray := (((⟨#[32]⟩ ++ digS c.exp) ++ ⟨#[94]⟩) ++ sgS c) ++ digS c.dim
def txB (h : ByteArray) : List Con → ByteArray
  | [] => h
  | c :: l => txB (h ++ cTxt c) l
def txS (p : Int) (L : List Con) : ByteArray := txB (digS p ++ ⟨#[58]⟩) L
noncomputable def bldH (b : Nat) (s : ByteArray) : List (Nat × Blk) := [(1001, ⟨.plain [.ptr 1001 0, .lo b s.size], 52, 0, false, true⟩), (b, ⟨.ints .u8 (bytesI s), 5, 1, true, true⟩)]
theorem txB_take (H : ByteArray) {L : List Con} {k : Nat} (hk : k < L.length) : txB H (L.take (k + 1)) = txB H (L.take k) ++ cTxt (L.getD k Con.zero) := by
  induction L generalizing H k with
  | nil => simp at hk
  | cons c l ih =>
    cases k with
    | zero => rfl
    | succ k => exact ih (H ++ cTxt c) (by simpa using hk)
theorem bytesI_app (a b : ByteArray) : bytesI (a ++ b) = bytesI a ++ bytesI b := by
  unfold bytesI
  rw [ByteArray.data_append]
  simp
theorem dec_len : ∀ (j u : Nat), u < 10 ^ (j + 1) → (Lib.decDigits u).length ≤ j + 1
  | 0, u, h => by rw [Lib.decDigits, dif_pos (by omega)]; simp
  | j + 1, u, h => by
    rw [Lib.decDigits]
    split
    · simp
    · rw [List.length_append]
      have := dec_len j (u / 10) (by rw [Nat.div_lt_iff_lt_mul (by omega)]; rw [Nat.pow_succ] at h; exact h)
      simp; omega
theorem digS_size {n : Int} (h0 : 0 ≤ n) (h1 : n < 10000) : (digS n).size ≤ 4 := by
  unfold digS
  rw [strL_size]
  unfold Lib.itoa
  rw [if_neg (by omega)]
  exact dec_len 3 n.toNat (by omega)
theorem one_size (b : UInt8) : (ByteArray.mk #[b]).size = 1 := rfl
theorem sgS_size (c : Con) : (sgS c).size = 1 := by unfold sgS; cases c.sign == -1 <;> rfl
theorem cTxt_size {c : Con} (h : 0 ≤ c.exp ∧ c.exp ≤ 60 ∧ 1 ≤ c.dim ∧ c.dim ≤ 8) : (cTxt c).size ≤ 13 := by
  have h1 := digS_size (n := c.exp) (by omega) (by omega)
  have h2 := digS_size (n := c.dim) (by omega) (by omega)
  have h3 := sgS_size c
  unfold cTxt
  simp only [ByteArray.size_append, one_size]
  omega
theorem txB_size {L : List Con} (hL : ∀ c ∈ L, 0 ≤ c.exp ∧ c.exp ≤ 60 ∧ 1 ≤ c.dim ∧ c.dim ≤ 8) : ∀ (H : ByteArray), (txB H L).size ≤ H.size + 13 * L.length := by
  induction L with
  | nil => intro H; exact Nat.le_refl _
  | cons c l ih =>
    intro H
    have h1 := ih (fun x hx => hL x (List.mem_cons_of_mem _ hx)) (H ++ cTxt c)
    have h2 := cTxt_size (hL c List.mem_cons_self)
    rw [ByteArray.size_append] at h1
    show (txB (H ++ cTxt c) l).size ≤ _
    simp only [List.length_cons]
    omega
theorem cTxt_m {c : Con} (h : (c.sign == -1) = true) : cTxt c = ⟨#[32]⟩ ++ digS c.exp ++ ⟨#[94]⟩ ++ ⟨#[45]⟩ ++ digS c.dim := by unfold cTxt sgS; rw [h]; rfl
theorem cTxt_p {c : Con} (h : (c.sign == -1) = false) : cTxt c = ⟨#[32]⟩ ++ digS c.exp ++ ⟨#[94]⟩ ++ ⟨#[43]⟩ ++ digS c.dim := by unfold cTxt sgS; rw [h]; rfl
theorem getD_mem {L : List Con} {k : Nat} (hk : k < L.length) : L.getD k Con.zero ∈ L := by
  have : L.getD k Con.zero = L[k] := by simp [hk]
  rw [this]; exact List.getElem_mem hk
theorem bytesI_bd (s : ByteArray) : ∀ x ∈ bytesI s, 0 ≤ x ∧ x < 256 := by
  intro x hx
  unfold bytesI at hx
  obtain ⟨b, _, rfl⟩ := List.mem_map.1 hx
  have := UInt8.toNat_lt b
  omega
theorem strOf_bytes (s : ByteArray) : strOfNums (bytesI s) = s := by
  unfold strOfNums bytesI
  apply ByteArray.ext
  apply Array.ext'
  simp [Function.comp_def]
end Go.Proofs.YtgdhgnhgmbkpdaaGreatDoor.S

namespace Go.Proofs.YtgdhgnhgmbkpdaaGreatDoor.S
open Go.QfSy Go.RowKit
def iiS : ByteArray := ⟨#[73, 73]⟩
def pd (w : ByteArray) : ByteArray := cA (cB w [94]) [95]
def po (w : ByteArray) : ByteArray := cB (cB w [94]) [95]
def pcT (w : ByteArray) : Con × Bool :=
  bif eqB (pd w) ⟨#[]⟩ then (Con.zero, false) else
    (⟨atoiV (cA w [94]).data.toList, atoiV (tl1 (pd w)).data.toList, bif neg0 (pd w) then -1 else 1, !eqB (po w) iiS, bif eqB (po w) iiS then 0 else atoiV (po w).data.toList⟩, atoiE (cA w [94]).data.toList && (atoiE (tl1 (pd w)).data.toList && (bif eqB (po w) iiS then true else atoiE (po w).data.toList)))
attribute [local irreducible] Lib.cut Lib.atoiAll strL ByteArray.extract ByteArray.toList
set_option maxHeartbeats 8000000 in
theorem pcT_pure (w : ByteArray) (hw : w.size ≤ 1000000) : PureC Tryz.prog [maxT, rngT, synT] 50 [.str w] (.tup [.agg (pcT w).1.rvs, .bool (pcT w).2]) := by
  have z1 := cA_size w [94]; have z2 := cB_size w [94]; have z4 := cA_size (cB w [94]) [95]; have z5 := cB_size (cB w [94]) [95]; have z3 := tl1_size (pd w); change (pd w).size ≤ _ at z4; change (po w).size ≤ _ at z5
  have rr := fun (tp : List Bool) (ms : List Prop) h hm => pure_run evOk (callF_ok evOk (orcOf_ok entsS_ok) 8) Tryz.func50 (A := [.str w]) rfl none_ann rfl rfl evNg (tabs := [maxT, rngT, synT]) (R := .tup [.agg (pcT w).1.rvs, .bool (pcT w).2]) (tp := tp) (ms := ms) h hm
  refine oe ((strL (Lib.cut (strL (Lib.cut w.data.toList #[(94 : UInt8)].toList).snd.fst).data.toList #[(95 : UInt8)].toList).fst).toList == (ByteArray.mk #[]).toList) (fun d1 => rr [true] [(0 : Int) = (pcT w).fst.exp, (0 : Int) = (pcT w).fst.dim, (0 : Int) = (pcT w).fst.sign, false = (pcT w).fst.odd, (0 : Int) = (pcT w).fst.oddity, false = (pcT w).snd, Dec ((strL (Lib.cut (strL (Lib.cut w.data.toList #[(94 : UInt8)].toList).snd.fst).data.toList #[(95 : UInt8)].toList).fst).toList == (ByteArray.mk #[]).toList) true, (strL (Lib.cut w.data.toList #[(94 : UInt8)].toList).snd.fst).size ≤ (1000000 : Nat), w.size ≤ (1000000 : Nat)] (by kernel_rfl) ⟨?_, ?_, ?_, ?_, ?_, ?_, d1, ?_, (?_ : w.size ≤ (1000000 : Nat))⟩) (fun d1 => oe ((↑((strL (Lib.cut (strL (Lib.cut w.data.toList #[(94 : UInt8)].toList).snd.fst).data.toList #[(95 : UInt8)].toList).fst)[Int.toNat (0 : Int)]?.getD (0 : UInt8)).toNat : Int) == 45) (fun d2 => oe ((strL (Lib.cut (strL (Lib.cut w.data.toList #[(94 : UInt8)].toList).snd.fst).data.toList #[(95 : UInt8)].toList).snd.fst).toList == (ByteArray.mk #[(73 : UInt8), (73 : UInt8)]).toList) (fun d3 => oe (atoiE (strL (Lib.cut w.data.toList #[(94 : UInt8)].toList).fst).data.toList) (fun d4 => oe (atoiE ((strL (Lib.cut (strL (Lib.cut w.data.toList #[(94 : UInt8)].toList).snd.fst).data.toList #[(95 : UInt8)].toList).fst).extract (Int.toNat (1 : Int)) (strL (Lib.cut (strL (Lib.cut w.data.toList #[(94 : UInt8)].toList).snd.fst).data.toList #[(95 : UInt8)].toList).fst).size).data.toList) (fun d5 => rr [false, true, false, true, true] [atoiV (strL (Lib.cut w.data.toList #[(94 : UInt8)].toList).fst).data.toList = (pcT w).fst.exp, atoiV ((strL (Lib.cut (strL (Lib.cut w.data.toList #[(94 : UInt8)].toList).snd.fst).data.toList #[(95 : UInt8)].toList).fst).extract (Int.toNat (1 : Int)) (strL (Lib.cut (strL (Lib.cut w.data.toList #[(94 : UInt8)].toList).snd.fst).data.toList #[(95 : UInt8)].toList).fst).size).data.toList = (pcT w).fst.dim, (-1 : Int) = (pcT w).fst.sign, (!(strL (Lib.cut (strL (Lib.cut w.data.toList #[(94 : UInt8)].toList).snd.fst).data.toList #[(95 : UInt8)].toList).snd.fst).toList == (ByteArray.mk #[(73 : UInt8), (73 : UInt8)]).toList) = (pcT w).fst.odd, (0 : Int) = (pcT w).fst.oddity, true = (pcT w).snd, Dec (atoiE ((strL (Lib.cut (strL (Lib.cut w.data.toList #[(94 : UInt8)].toList).snd.fst).data.toList #[(95 : UInt8)].toList).fst).extract (Int.toNat (1 : Int)) (strL (Lib.cut (strL (Lib.cut w.data.toList #[(94 : UInt8)].toList).snd.fst).data.toList #[(95 : UInt8)].toList).fst).size).data.toList) true, Dec (atoiE (strL (Lib.cut w.data.toList #[(94 : UInt8)].toList).fst).data.toList) true, Dec (!(strL (Lib.cut (strL (Lib.cut w.data.toList #[(94 : UInt8)].toList).snd.fst).data.toList #[(95 : UInt8)].toList).snd.fst).toList == (ByteArray.mk #[(73 : UInt8), (73 : UInt8)]).toList) false, ((strL (Lib.cut (strL (Lib.cut w.data.toList #[(94 : UInt8)].toList).snd.fst).data.toList #[(95 : UInt8)].toList).fst).extract (Int.toNat (1 : Int)) (strL (Lib.cut (strL (Lib.cut w.data.toList #[(94 : UInt8)].toList).snd.fst).data.toList #[(95 : UInt8)].toList).fst).size).size ≤ (1000000 : Nat), (0 : Int) ≤ 1 ∧ (1 : Int) ≤ (↑(strL (Lib.cut (strL (Lib.cut w.data.toList #[(94 : UInt8)].toList).snd.fst).data.toList #[(95 : UInt8)].toList).fst).size : Int), (strL (Lib.cut w.data.toList #[(94 : UInt8)].toList).fst).size ≤ (1000000 : Nat), Dec ((↑((strL (Lib.cut (strL (Lib.cut w.data.toList #[(94 : UInt8)].toList).snd.fst).data.toList #[(95 : UInt8)].toList).fst)[Int.toNat (0 : Int)]?.getD (0 : UInt8)).toNat : Int) == 45) true, (0 : Int) ≤ 0 ∧ Int.toNat (0 : Int) < (strL (Lib.cut (strL (Lib.cut w.data.toList #[(94 : UInt8)].toList).snd.fst).data.toList #[(95 : UInt8)].toList).fst).size, Dec ((strL (Lib.cut (strL (Lib.cut w.data.toList #[(94 : UInt8)].toList).snd.fst).data.toList #[(95 : UInt8)].toList).fst).toList == (ByteArray.mk #[]).toList) false, (strL (Lib.cut w.data.toList #[(94 : UInt8)].toList).snd.fst).size ≤ (1000000 : Nat), w.size ≤ (1000000 : Nat)] (by kernel_rfl) ⟨?_, ?_, ?_, ?_, ?_, ?_, d5, d4, (dN d3), ?_, ?_, ?_, d2, ?_, d1, ?_, (?_ : w.size ≤ (1000000 : Nat))⟩) (fun d5 => rr [false, true, false, true, false] [atoiV (strL (Lib.cut w.data.toList #[(94 : UInt8)].toList).fst).data.toList = (pcT w).fst.exp, atoiV ((strL (Lib.cut (strL (Lib.cut w.data.toList #[(94 : UInt8)].toList).snd.fst).data.toList #[(95 : UInt8)].toList).fst).extract (Int.toNat (1 : Int)) (strL (Lib.cut (strL (Lib.cut w.data.toList #[(94 : UInt8)].toList).snd.fst).data.toList #[(95 : UInt8)].toList).fst).size).data.toList = (pcT w).fst.dim, (-1 : Int) = (pcT w).fst.sign, (!(strL (Lib.cut (strL (Lib.cut w.data.toList #[(94 : UInt8)].toList).snd.fst).data.toList #[(95 : UInt8)].toList).snd.fst).toList == (ByteArray.mk #[(73 : UInt8), (73 : UInt8)]).toList) = (pcT w).fst.odd, (0 : Int) = (pcT w).fst.oddity, false = (pcT w).snd, Dec (atoiE ((strL (Lib.cut (strL (Lib.cut w.data.toList #[(94 : UInt8)].toList).snd.fst).data.toList #[(95 : UInt8)].toList).fst).extract (Int.toNat (1 : Int)) (strL (Lib.cut (strL (Lib.cut w.data.toList #[(94 : UInt8)].toList).snd.fst).data.toList #[(95 : UInt8)].toList).fst).size).data.toList) false, Dec (atoiE (strL (Lib.cut w.data.toList #[(94 : UInt8)].toList).fst).data.toList) true, Dec (!(strL (Lib.cut (strL (Lib.cut w.data.toList #[(94 : UInt8)].toList).snd.fst).data.toList #[(95 : UInt8)].toList).snd.fst).toList == (ByteArray.mk #[(73 : UInt8), (73 : UInt8)]).toList) false, ((strL (Lib.cut (strL (Lib.cut w.data.toList #[(94 : UInt8)].toList).snd.fst).data.toList #[(95 : UInt8)].toList).fst).extract (Int.toNat (1 : Int)) (strL (Lib.cut (strL (Lib.cut w.data.toList #[(94 : UInt8)].toList).snd.fst).data.toList #[(95 : UInt8)].toList).fst).size).size ≤ (1000000 : Nat), (0 : Int) ≤ 1 ∧ (1 : Int) ≤ (↑(strL (Lib.cut (strL (Lib.cut w.data.toList #[(94 : UInt8)].toList).snd.fst).data.toList #[(95 : UInt8)].toList).fst).size : Int), (strL (Lib.cut w.data.toList #[(94 : UInt8)].toList).fst).size ≤ (1000000 : Nat), Dec ((↑((strL (Lib.cut (strL (Lib.cut w.data.toList #[(94 : UInt8)].toList).snd.fst).data.toList #[(95 : UInt8)].toList).fst)[Int.toNat (0 : Int)]?.getD (0 : UInt8)).toNat : Int) == 45) true, (0 : Int) ≤ 0 ∧ Int.toNat (0 : Int) < (strL (Lib.cut (strL (Lib.cut w.data.toList #[(94 : UInt8)].toList).snd.fst).data.toList #[(95 : UInt8)].toList).fst).size, Dec ((strL (Lib.cut (strL (Lib.cut w.data.toList #[(94 : UInt8)].toList).snd.fst).data.toList #[(95 : UInt8)].toList).fst).toList == (ByteArray.mk #[]).toList) false, (strL (Lib.cut w.data.toList #[(94 : UInt8)].toList).snd.fst).size ≤ (1000000 : Nat), w.size ≤ (1000000 : Nat)] (by kernel_rfl) ⟨?_, ?_, ?_, ?_, ?_, ?_, d5, d4, (dN d3), ?_, ?_, ?_, d2, ?_, d1, ?_, (?_ : w.size ≤ (1000000 : Nat))⟩)) (fun d4 => rr [false, true, false, false] [atoiV (strL (Lib.cut w.data.toList #[(94 : UInt8)].toList).fst).data.toList = (pcT w).fst.exp, atoiV ((strL (Lib.cut (strL (Lib.cut w.data.toList #[(94 : UInt8)].toList).snd.fst).data.toList #[(95 : UInt8)].toList).fst).extract (Int.toNat (1 : Int)) (strL (Lib.cut (strL (Lib.cut w.data.toList #[(94 : UInt8)].toList).snd.fst).data.toList #[(95 : UInt8)].toList).fst).size).data.toList = (pcT w).fst.dim, (-1 : Int) = (pcT w).fst.sign, (!(strL (Lib.cut (strL (Lib.cut w.data.toList #[(94 : UInt8)].toList).snd.fst).data.toList #[(95 : UInt8)].toList).snd.fst).toList == (ByteArray.mk #[(73 : UInt8), (73 : UInt8)]).toList) = (pcT w).fst.odd, (0 : Int) = (pcT w).fst.oddity, false = (pcT w).snd, Dec (atoiE (strL (Lib.cut w.data.toList #[(94 : UInt8)].toList).fst).data.toList) false, Dec (!(strL (Lib.cut (strL (Lib.cut w.data.toList #[(94 : UInt8)].toList).snd.fst).data.toList #[(95 : UInt8)].toList).snd.fst).toList == (ByteArray.mk #[(73 : UInt8), (73 : UInt8)]).toList) false, ((strL (Lib.cut (strL (Lib.cut w.data.toList #[(94 : UInt8)].toList).snd.fst).data.toList #[(95 : UInt8)].toList).fst).extract (Int.toNat (1 : Int)) (strL (Lib.cut (strL (Lib.cut w.data.toList #[(94 : UInt8)].toList).snd.fst).data.toList #[(95 : UInt8)].toList).fst).size).size ≤ (1000000 : Nat), (0 : Int) ≤ 1 ∧ (1 : Int) ≤ (↑(strL (Lib.cut (strL (Lib.cut w.data.toList #[(94 : UInt8)].toList).snd.fst).data.toList #[(95 : UInt8)].toList).fst).size : Int), (strL (Lib.cut w.data.toList #[(94 : UInt8)].toList).fst).size ≤ (1000000 : Nat), Dec ((↑((strL (Lib.cut (strL (Lib.cut w.data.toList #[(94 : UInt8)].toList).snd.fst).data.toList #[(95 : UInt8)].toList).fst)[Int.toNat (0 : Int)]?.getD (0 : UInt8)).toNat : Int) == 45) true, (0 : Int) ≤ 0 ∧ Int.toNat (0 : Int) < (strL (Lib.cut (strL (Lib.cut w.data.toList #[(94 : UInt8)].toList).snd.fst).data.toList #[(95 : UInt8)].toList).fst).size, Dec ((strL (Lib.cut (strL (Lib.cut w.data.toList #[(94 : UInt8)].toList).snd.fst).data.toList #[(95 : UInt8)].toList).fst).toList == (ByteArray.mk #[]).toList) false, (strL (Lib.cut w.data.toList #[(94 : UInt8)].toList).snd.fst).size ≤ (1000000 : Nat), w.size ≤ (1000000 : Nat)] (by kernel_rfl) ⟨?_, ?_, ?_, ?_, ?_, ?_, d4, (dN d3), ?_, ?_, ?_, d2, ?_, d1, ?_, (?_ : w.size ≤ (1000000 : Nat))⟩)) (fun d3 => oe (atoiE (strL (Lib.cut w.data.toList #[(94 : UInt8)].toList).fst).data.toList) (fun d4 => oe (atoiE ((strL (Lib.cut (strL (Lib.cut w.data.toList #[(94 : UInt8)].toList).snd.fst).data.toList #[(95 : UInt8)].toList).fst).extract (Int.toNat (1 : Int)) (strL (Lib.cut (strL (Lib.cut w.data.toList #[(94 : UInt8)].toList).snd.fst).data.toList #[(95 : UInt8)].toList).fst).size).data.toList) (fun d5 => rr [false, true, true, true, true] [atoiV (strL (Lib.cut w.data.toList #[(94 : UInt8)].toList).fst).data.toList = (pcT w).fst.exp, atoiV ((strL (Lib.cut (strL (Lib.cut w.data.toList #[(94 : UInt8)].toList).snd.fst).data.toList #[(95 : UInt8)].toList).fst).extract (Int.toNat (1 : Int)) (strL (Lib.cut (strL (Lib.cut w.data.toList #[(94 : UInt8)].toList).snd.fst).data.toList #[(95 : UInt8)].toList).fst).size).data.toList = (pcT w).fst.dim, (-1 : Int) = (pcT w).fst.sign, (!(strL (Lib.cut (strL (Lib.cut w.data.toList #[(94 : UInt8)].toList).snd.fst).data.toList #[(95 : UInt8)].toList).snd.fst).toList == (ByteArray.mk #[(73 : UInt8), (73 : UInt8)]).toList) = (pcT w).fst.odd, atoiV (strL (Lib.cut (strL (Lib.cut w.data.toList #[(94 : UInt8)].toList).snd.fst).data.toList #[(95 : UInt8)].toList).snd.fst).data.toList = (pcT w).fst.oddity, atoiE (strL (Lib.cut (strL (Lib.cut w.data.toList #[(94 : UInt8)].toList).snd.fst).data.toList #[(95 : UInt8)].toList).snd.fst).data.toList = (pcT w).snd, Dec (atoiE ((strL (Lib.cut (strL (Lib.cut w.data.toList #[(94 : UInt8)].toList).snd.fst).data.toList #[(95 : UInt8)].toList).fst).extract (Int.toNat (1 : Int)) (strL (Lib.cut (strL (Lib.cut w.data.toList #[(94 : UInt8)].toList).snd.fst).data.toList #[(95 : UInt8)].toList).fst).size).data.toList) true, Dec (atoiE (strL (Lib.cut w.data.toList #[(94 : UInt8)].toList).fst).data.toList) true, (strL (Lib.cut (strL (Lib.cut w.data.toList #[(94 : UInt8)].toList).snd.fst).data.toList #[(95 : UInt8)].toList).snd.fst).size ≤ (1000000 : Nat), Dec (!(strL (Lib.cut (strL (Lib.cut w.data.toList #[(94 : UInt8)].toList).snd.fst).data.toList #[(95 : UInt8)].toList).snd.fst).toList == (ByteArray.mk #[(73 : UInt8), (73 : UInt8)]).toList) true, ((strL (Lib.cut (strL (Lib.cut w.data.toList #[(94 : UInt8)].toList).snd.fst).data.toList #[(95 : UInt8)].toList).fst).extract (Int.toNat (1 : Int)) (strL (Lib.cut (strL (Lib.cut w.data.toList #[(94 : UInt8)].toList).snd.fst).data.toList #[(95 : UInt8)].toList).fst).size).size ≤ (1000000 : Nat), (0 : Int) ≤ 1 ∧ (1 : Int) ≤ (↑(strL (Lib.cut (strL (Lib.cut w.data.toList #[(94 : UInt8)].toList).snd.fst).data.toList #[(95 : UInt8)].toList).fst).size : Int), (strL (Lib.cut w.data.toList #[(94 : UInt8)].toList).fst).size ≤ (1000000 : Nat), Dec ((↑((strL (Lib.cut (strL (Lib.cut w.data.toList #[(94 : UInt8)].toList).snd.fst).data.toList #[(95 : UInt8)].toList).fst)[Int.toNat (0 : Int)]?.getD (0 : UInt8)).toNat : Int) == 45) true, (0 : Int) ≤ 0 ∧ Int.toNat (0 : Int) < (strL (Lib.cut (strL (Lib.cut w.data.toList #[(94 : UInt8)].toList).snd.fst).data.toList #[(95 : UInt8)].toList).fst).size, Dec ((strL (Lib.cut (strL (Lib.cut w.data.toList #[(94 : UInt8)].toList).snd.fst).data.toList #[(95 : UInt8)].toList).fst).toList == (ByteArray.mk #[]).toList) false, (strL (Lib.cut w.data.toList #[(94 : UInt8)].toList).snd.fst).size ≤ (1000000 : Nat), w.size ≤ (1000000 : Nat)] (by kernel_rfl) ⟨?_, ?_, ?_, ?_, ?_, ?_, d5, d4, ?_, (dN d3), ?_, ?_, ?_, d2, ?_, d1, ?_, (?_ : w.size ≤ (1000000 : Nat))⟩) (fun d5 => rr [false, true, true, true, false] [atoiV (strL (Lib.cut w.data.toList #[(94 : UInt8)].toList).fst).data.toList = (pcT w).fst.exp, atoiV ((strL (Lib.cut (strL (Lib.cut w.data.toList #[(94 : UInt8)].toList).snd.fst).data.toList #[(95 : UInt8)].toList).fst).extract (Int.toNat (1 : Int)) (strL (Lib.cut (strL (Lib.cut w.data.toList #[(94 : UInt8)].toList).snd.fst).data.toList #[(95 : UInt8)].toList).fst).size).data.toList = (pcT w).fst.dim, (-1 : Int) = (pcT w).fst.sign, (!(strL (Lib.cut (strL (Lib.cut w.data.toList #[(94 : UInt8)].toList).snd.fst).data.toList #[(95 : UInt8)].toList).snd.fst).toList == (ByteArray.mk #[(73 : UInt8), (73 : UInt8)]).toList) = (pcT w).fst.odd, atoiV (strL (Lib.cut (strL (Lib.cut w.data.toList #[(94 : UInt8)].toList).snd.fst).data.toList #[(95 : UInt8)].toList).snd.fst).data.toList = (pcT w).fst.oddity, false = (pcT w).snd, Dec (atoiE ((strL (Lib.cut (strL (Lib.cut w.data.toList #[(94 : UInt8)].toList).snd.fst).data.toList #[(95 : UInt8)].toList).fst).extract (Int.toNat (1 : Int)) (strL (Lib.cut (strL (Lib.cut w.data.toList #[(94 : UInt8)].toList).snd.fst).data.toList #[(95 : UInt8)].toList).fst).size).data.toList) false, Dec (atoiE (strL (Lib.cut w.data.toList #[(94 : UInt8)].toList).fst).data.toList) true, (strL (Lib.cut (strL (Lib.cut w.data.toList #[(94 : UInt8)].toList).snd.fst).data.toList #[(95 : UInt8)].toList).snd.fst).size ≤ (1000000 : Nat), Dec (!(strL (Lib.cut (strL (Lib.cut w.data.toList #[(94 : UInt8)].toList).snd.fst).data.toList #[(95 : UInt8)].toList).snd.fst).toList == (ByteArray.mk #[(73 : UInt8), (73 : UInt8)]).toList) true, ((strL (Lib.cut (strL (Lib.cut w.data.toList #[(94 : UInt8)].toList).snd.fst).data.toList #[(95 : UInt8)].toList).fst).extract (Int.toNat (1 : Int)) (strL (Lib.cut (strL (Lib.cut w.data.toList #[(94 : UInt8)].toList).snd.fst).data.toList #[(95 : UInt8)].toList).fst).size).size ≤ (1000000 : Nat), (0 : Int) ≤ 1 ∧ (1 : Int) ≤ (↑(strL (Lib.cut (strL (Lib.cut w.data.toList #[(94 : UInt8)].toList).snd.fst).data.toList #[(95 : UInt8)].toList).fst).size : Int), (strL (Lib.cut w.data.toList #[(94 : UInt8)].toList).fst).size ≤ (1000000 : Nat), Dec ((↑((strL (Lib.cut (strL (Lib.cut w.data.toList #[(94 : UInt8)].toList).snd.fst).data.toList #[(95 : UInt8)].toList).fst)[Int.toNat (0 : Int)]?.getD (0 : UInt8)).toNat : Int) == 45) true, (0 : Int) ≤ 0 ∧ Int.toNat (0 : Int) < (strL (Lib.cut (strL (Lib.cut w.data.toList #[(94 : UInt8)].toList).snd.fst).data.toList #[(95 : UInt8)].toList).fst).size, Dec ((strL (Lib.cut (strL (Lib.cut w.data.toList #[(94 : UInt8)].toList).snd.fst).data.toList #[(95 : UInt8)].toList).fst).toList == (ByteArray.mk #[]).toList) false, (strL (Lib.cut w.data.toList #[(94 : UInt8)].toList).snd.fst).size ≤ (1000000 : Nat), w.size ≤ (1000000 : Nat)] (by kernel_rfl) ⟨?_, ?_, ?_, ?_, ?_, ?_, d5, d4, ?_, (dN d3), ?_, ?_, ?_, d2, ?_, d1, ?_, (?_ : w.size ≤ (1000000 : Nat))⟩)) (fun d4 => rr [false, true, true, false] [atoiV (strL (Lib.cut w.data.toList #[(94 : UInt8)].toList).fst).data.toList = (pcT w).fst.exp, atoiV ((strL (Lib.cut (strL (Lib.cut w.data.toList #[(94 : UInt8)].toList).snd.fst).data.toList #[(95 : UInt8)].toList).fst).extract (Int.toNat (1 : Int)) (strL (Lib.cut (strL (Lib.cut w.data.toList #[(94 : UInt8)].toList).snd.fst).data.toList #[(95 : UInt8)].toList).fst).size).data.toList = (pcT w).fst.dim, (-1 : Int) = (pcT w).fst.sign, (!(strL (Lib.cut (strL (Lib.cut w.data.toList #[(94 : UInt8)].toList).snd.fst).data.toList #[(95 : UInt8)].toList).snd.fst).toList == (ByteArray.mk #[(73 : UInt8), (73 : UInt8)]).toList) = (pcT w).fst.odd, atoiV (strL (Lib.cut (strL (Lib.cut w.data.toList #[(94 : UInt8)].toList).snd.fst).data.toList #[(95 : UInt8)].toList).snd.fst).data.toList = (pcT w).fst.oddity, false = (pcT w).snd, Dec (atoiE (strL (Lib.cut w.data.toList #[(94 : UInt8)].toList).fst).data.toList) false, (strL (Lib.cut (strL (Lib.cut w.data.toList #[(94 : UInt8)].toList).snd.fst).data.toList #[(95 : UInt8)].toList).snd.fst).size ≤ (1000000 : Nat), Dec (!(strL (Lib.cut (strL (Lib.cut w.data.toList #[(94 : UInt8)].toList).snd.fst).data.toList #[(95 : UInt8)].toList).snd.fst).toList == (ByteArray.mk #[(73 : UInt8), (73 : UInt8)]).toList) true, ((strL (Lib.cut (strL (Lib.cut w.data.toList #[(94 : UInt8)].toList).snd.fst).data.toList #[(95 : UInt8)].toList).fst).extract (Int.toNat (1 : Int)) (strL (Lib.cut (strL (Lib.cut w.data.toList #[(94 : UInt8)].toList).snd.fst).data.toList #[(95 : UInt8)].toList).fst).size).size ≤ (1000000 : Nat), (0 : Int) ≤ 1 ∧ (1 : Int) ≤ (↑(strL (Lib.cut (strL (Lib.cut w.data.toList #[(94 : UInt8)].toList).snd.fst).data.toList #[(95 : UInt8)].toList).fst).size : Int), (strL (Lib.cut w.data.toList #[(94 : UInt8)].toList).fst).size ≤ (1000000 : Nat), Dec ((↑((strL (Lib.cut (strL (Lib.cut w.data.toList #[(94 : UInt8)].toList).snd.fst).data.toList #[(95 : UInt8)].toList).fst)[Int.toNat (0 : Int)]?.getD (0 : UInt8)).toNat : Int) == 45) true, (0 : Int) ≤ 0 ∧ Int.toNat (0 : Int) < (strL (Lib.cut (strL (Lib.cut w.data.toList #[(94 : UInt8)].toList).snd.fst).data.toList #[(95 : UInt8)].toList).fst).size, Dec ((strL (Lib.cut (strL (Lib.cut w.data.toList #[(94 : UInt8)].toList).snd.fst).data.toList #[(95 : UInt8)].toList).fst).toList == (ByteArray.mk #[]).toList) false, (strL (Lib.cut w.data.toList #[(94 : UInt8)].toList).snd.fst).size ≤ (1000000 : Nat), w.size ≤ (1000000 : Nat)] (by kernel_rfl) ⟨?_, ?_, ?_, ?_, ?_, ?_, d4, ?_, (dN d3), ?_, ?_, ?_, d2, ?_, d1, ?_, (?_ : w.size ≤ (1000000 : Nat))⟩))) (fun d2 => oe ((strL (Lib.cut (strL (Lib.cut w.data.toList #[(94 : UInt8)].toList).snd.fst).data.toList #[(95 : UInt8)].toList).snd.fst).toList == (ByteArray.mk #[(73 : UInt8), (73 : UInt8)]).toList) (fun d3 => oe (atoiE (strL (Lib.cut w.data.toList #[(94 : UInt8)].toList).fst).data.toList) (fun d4 => oe (atoiE ((strL (Lib.cut (strL (Lib.cut w.data.toList #[(94 : UInt8)].toList).snd.fst).data.toList #[(95 : UInt8)].toList).fst).extract (Int.toNat (1 : Int)) (strL (Lib.cut (strL (Lib.cut w.data.toList #[(94 : UInt8)].toList).snd.fst).data.toList #[(95 : UInt8)].toList).fst).size).data.toList) (fun d5 => rr [false, false, false, true, true] [atoiV (strL (Lib.cut w.data.toList #[(94 : UInt8)].toList).fst).data.toList = (pcT w).fst.exp, atoiV ((strL (Lib.cut (strL (Lib.cut w.data.toList #[(94 : UInt8)].toList).snd.fst).data.toList #[(95 : UInt8)].toList).fst).extract (Int.toNat (1 : Int)) (strL (Lib.cut (strL (Lib.cut w.data.toList #[(94 : UInt8)].toList).snd.fst).data.toList #[(95 : UInt8)].toList).fst).size).data.toList = (pcT w).fst.dim, (1 : Int) = (pcT w).fst.sign, (!(strL (Lib.cut (strL (Lib.cut w.data.toList #[(94 : UInt8)].toList).snd.fst).data.toList #[(95 : UInt8)].toList).snd.fst).toList == (ByteArray.mk #[(73 : UInt8), (73 : UInt8)]).toList) = (pcT w).fst.odd, (0 : Int) = (pcT w).fst.oddity, true = (pcT w).snd, Dec (atoiE ((strL (Lib.cut (strL (Lib.cut w.data.toList #[(94 : UInt8)].toList).snd.fst).data.toList #[(95 : UInt8)].toList).fst).extract (Int.toNat (1 : Int)) (strL (Lib.cut (strL (Lib.cut w.data.toList #[(94 : UInt8)].toList).snd.fst).data.toList #[(95 : UInt8)].toList).fst).size).data.toList) true, Dec (atoiE (strL (Lib.cut w.data.toList #[(94 : UInt8)].toList).fst).data.toList) true, Dec (!(strL (Lib.cut (strL (Lib.cut w.data.toList #[(94 : UInt8)].toList).snd.fst).data.toList #[(95 : UInt8)].toList).snd.fst).toList == (ByteArray.mk #[(73 : UInt8), (73 : UInt8)]).toList) false, ((strL (Lib.cut (strL (Lib.cut w.data.toList #[(94 : UInt8)].toList).snd.fst).data.toList #[(95 : UInt8)].toList).fst).extract (Int.toNat (1 : Int)) (strL (Lib.cut (strL (Lib.cut w.data.toList #[(94 : UInt8)].toList).snd.fst).data.toList #[(95 : UInt8)].toList).fst).size).size ≤ (1000000 : Nat), (0 : Int) ≤ 1 ∧ (1 : Int) ≤ (↑(strL (Lib.cut (strL (Lib.cut w.data.toList #[(94 : UInt8)].toList).snd.fst).data.toList #[(95 : UInt8)].toList).fst).size : Int), (strL (Lib.cut w.data.toList #[(94 : UInt8)].toList).fst).size ≤ (1000000 : Nat), Dec ((↑((strL (Lib.cut (strL (Lib.cut w.data.toList #[(94 : UInt8)].toList).snd.fst).data.toList #[(95 : UInt8)].toList).fst)[Int.toNat (0 : Int)]?.getD (0 : UInt8)).toNat : Int) == 45) false, (0 : Int) ≤ 0 ∧ Int.toNat (0 : Int) < (strL (Lib.cut (strL (Lib.cut w.data.toList #[(94 : UInt8)].toList).snd.fst).data.toList #[(95 : UInt8)].toList).fst).size, Dec ((strL (Lib.cut (strL (Lib.cut w.data.toList #[(94 : UInt8)].toList).snd.fst).data.toList #[(95 : UInt8)].toList).fst).toList == (ByteArray.mk #[]).toList) false, (strL (Lib.cut w.data.toList #[(94 : UInt8)].toList).snd.fst).size ≤ (1000000 : Nat), w.size ≤ (1000000 : Nat)] (by kernel_rfl) ⟨?_, ?_, ?_, ?_, ?_, ?_, d5, d4, (dN d3), ?_, ?_, ?_, d2, ?_, d1, ?_, (?_ : w.size ≤ (1000000 : Nat))⟩) (fun d5 => rr [false, false, false, true, false] [atoiV (strL (Lib.cut w.data.toList #[(94 : UInt8)].toList).fst).data.toList = (pcT w).fst.exp, atoiV ((strL (Lib.cut (strL (Lib.cut w.data.toList #[(94 : UInt8)].toList).snd.fst).data.toList #[(95 : UInt8)].toList).fst).extract (Int.toNat (1 : Int)) (strL (Lib.cut (strL (Lib.cut w.data.toList #[(94 : UInt8)].toList).snd.fst).data.toList #[(95 : UInt8)].toList).fst).size).data.toList = (pcT w).fst.dim, (1 : Int) = (pcT w).fst.sign, (!(strL (Lib.cut (strL (Lib.cut w.data.toList #[(94 : UInt8)].toList).snd.fst).data.toList #[(95 : UInt8)].toList).snd.fst).toList == (ByteArray.mk #[(73 : UInt8), (73 : UInt8)]).toList) = (pcT w).fst.odd, (0 : Int) = (pcT w).fst.oddity, false = (pcT w).snd, Dec (atoiE ((strL (Lib.cut (strL (Lib.cut w.data.toList #[(94 : UInt8)].toList).snd.fst).data.toList #[(95 : UInt8)].toList).fst).extract (Int.toNat (1 : Int)) (strL (Lib.cut (strL (Lib.cut w.data.toList #[(94 : UInt8)].toList).snd.fst).data.toList #[(95 : UInt8)].toList).fst).size).data.toList) false, Dec (atoiE (strL (Lib.cut w.data.toList #[(94 : UInt8)].toList).fst).data.toList) true, Dec (!(strL (Lib.cut (strL (Lib.cut w.data.toList #[(94 : UInt8)].toList).snd.fst).data.toList #[(95 : UInt8)].toList).snd.fst).toList == (ByteArray.mk #[(73 : UInt8), (73 : UInt8)]).toList) false, ((strL (Lib.cut (strL (Lib.cut w.data.toList #[(94 : UInt8)].toList).snd.fst).data.toList #[(95 : UInt8)].toList).fst).extract (Int.toNat (1 : Int)) (strL (Lib.cut (strL (Lib.cut w.data.toList #[(94 : UInt8)].toList).snd.fst).data.toList #[(95 : UInt8)].toList).fst).size).size ≤ (1000000 : Nat), (0 : Int) ≤ 1 ∧ (1 : Int) ≤ (↑(strL (Lib.cut (strL (Lib.cut w.data.toList #[(94 : UInt8)].toList).snd.fst).data.toList #[(95 : UInt8)].toList).fst).size : Int), (strL (Lib.cut w.data.toList #[(94 : UInt8)].toList).fst).size ≤ (1000000 : Nat), Dec ((↑((strL (Lib.cut (strL (Lib.cut w.data.toList #[(94 : UInt8)].toList).snd.fst).data.toList #[(95 : UInt8)].toList).fst)[Int.toNat (0 : Int)]?.getD (0 : UInt8)).toNat : Int) == 45) false, (0 : Int) ≤ 0 ∧ Int.toNat (0 : Int) < (strL (Lib.cut (strL (Lib.cut w.data.toList #[(94 : UInt8)].toList).snd.fst).data.toList #[(95 : UInt8)].toList).fst).size, Dec ((strL (Lib.cut (strL (Lib.cut w.data.toList #[(94 : UInt8)].toList).snd.fst).data.toList #[(95 : UInt8)].toList).fst).toList == (ByteArray.mk #[]).toList) false, (strL (Lib.cut w.data.toList #[(94 : UInt8)].toList).snd.fst).size ≤ (1000000 : Nat), w.size ≤ (1000000 : Nat)] (by kernel_rfl) ⟨?_, ?_, ?_, ?_, ?_, ?_, d5, d4, (dN d3), ?_, ?_, ?_, d2, ?_, d1, ?_, (?_ : w.size ≤ (1000000 : Nat))⟩)) (fun d4 => rr [false, false, false, false] [atoiV (strL (Lib.cut w.data.toList #[(94 : UInt8)].toList).fst).data.toList = (pcT w).fst.exp, atoiV ((strL (Lib.cut (strL (Lib.cut w.data.toList #[(94 : UInt8)].toList).snd.fst).data.toList #[(95 : UInt8)].toList).fst).extract (Int.toNat (1 : Int)) (strL (Lib.cut (strL (Lib.cut w.data.toList #[(94 : UInt8)].toList).snd.fst).data.toList #[(95 : UInt8)].toList).fst).size).data.toList = (pcT w).fst.dim, (1 : Int) = (pcT w).fst.sign, (!(strL (Lib.cut (strL (Lib.cut w.data.toList #[(94 : UInt8)].toList).snd.fst).data.toList #[(95 : UInt8)].toList).snd.fst).toList == (ByteArray.mk #[(73 : UInt8), (73 : UInt8)]).toList) = (pcT w).fst.odd, (0 : Int) = (pcT w).fst.oddity, false = (pcT w).snd, Dec (atoiE (strL (Lib.cut w.data.toList #[(94 : UInt8)].toList).fst).data.toList) false, Dec (!(strL (Lib.cut (strL (Lib.cut w.data.toList #[(94 : UInt8)].toList).snd.fst).data.toList #[(95 : UInt8)].toList).snd.fst).toList == (ByteArray.mk #[(73 : UInt8), (73 : UInt8)]).toList) false, ((strL (Lib.cut (strL (Lib.cut w.data.toList #[(94 : UInt8)].toList).snd.fst).data.toList #[(95 : UInt8)].toList).fst).extract (Int.toNat (1 : Int)) (strL (Lib.cut (strL (Lib.cut w.data.toList #[(94 : UInt8)].toList).snd.fst).data.toList #[(95 : UInt8)].toList).fst).size).size ≤ (1000000 : Nat), (0 : Int) ≤ 1 ∧ (1 : Int) ≤ (↑(strL (Lib.cut (strL (Lib.cut w.data.toList #[(94 : UInt8)].toList).snd.fst).data.toList #[(95 : UInt8)].toList).fst).size : Int), (strL (Lib.cut w.data.toList #[(94 : UInt8)].toList).fst).size ≤ (1000000 : Nat), Dec ((↑((strL (Lib.cut (strL (Lib.cut w.data.toList #[(94 : UInt8)].toList).snd.fst).data.toList #[(95 : UInt8)].toList).fst)[Int.toNat (0 : Int)]?.getD (0 : UInt8)).toNat : Int) == 45) false, (0 : Int) ≤ 0 ∧ Int.toNat (0 : Int) < (strL (Lib.cut (strL (Lib.cut w.data.toList #[(94 : UInt8)].toList).snd.fst).data.toList #[(95 : UInt8)].toList).fst).size, Dec ((strL (Lib.cut (strL (Lib.cut w.data.toList #[(94 : UInt8)].toList).snd.fst).data.toList #[(95 : UInt8)].toList).fst).toList == (ByteArray.mk #[]).toList) false, (strL (Lib.cut w.data.toList #[(94 : UInt8)].toList).snd.fst).size ≤ (1000000 : Nat), w.size ≤ (1000000 : Nat)] (by kernel_rfl) ⟨?_, ?_, ?_, ?_, ?_, ?_, d4, (dN d3), ?_, ?_, ?_, d2, ?_, d1, ?_, (?_ : w.size ≤ (1000000 : Nat))⟩)) (fun d3 => oe (atoiE (strL (Lib.cut w.data.toList #[(94 : UInt8)].toList).fst).data.toList) (fun d4 => oe (atoiE ((strL (Lib.cut (strL (Lib.cut w.data.toList #[(94 : UInt8)].toList).snd.fst).data.toList #[(95 : UInt8)].toList).fst).extract (Int.toNat (1 : Int)) (strL (Lib.cut (strL (Lib.cut w.data.toList #[(94 : UInt8)].toList).snd.fst).data.toList #[(95 : UInt8)].toList).fst).size).data.toList) (fun d5 => rr [false, false, true, true, true] [atoiV (strL (Lib.cut w.data.toList #[(94 : UInt8)].toList).fst).data.toList = (pcT w).fst.exp, atoiV ((strL (Lib.cut (strL (Lib.cut w.data.toList #[(94 : UInt8)].toList).snd.fst).data.toList #[(95 : UInt8)].toList).fst).extract (Int.toNat (1 : Int)) (strL (Lib.cut (strL (Lib.cut w.data.toList #[(94 : UInt8)].toList).snd.fst).data.toList #[(95 : UInt8)].toList).fst).size).data.toList = (pcT w).fst.dim, (1 : Int) = (pcT w).fst.sign, (!(strL (Lib.cut (strL (Lib.cut w.data.toList #[(94 : UInt8)].toList).snd.fst).data.toList #[(95 : UInt8)].toList).snd.fst).toList == (ByteArray.mk #[(73 : UInt8), (73 : UInt8)]).toList) = (pcT w).fst.odd, atoiV (strL (Lib.cut (strL (Lib.cut w.data.toList #[(94 : UInt8)].toList).snd.fst).data.toList #[(95 : UInt8)].toList).snd.fst).data.toList = (pcT w).fst.oddity, atoiE (strL (Lib.cut (strL (Lib.cut w.data.toList #[(94 : UInt8)].toList).snd.fst).data.toList #[(95 : UInt8)].toList).snd.fst).data.toList = (pcT w).snd, Dec (atoiE ((strL (Lib.cut (strL (Lib.cut w.data.toList #[(94 : UInt8)].toList).snd.fst).data.toList #[(95 : UInt8)].toList).fst).extract (Int.toNat (1 : Int)) (strL (Lib.cut (strL (Lib.cut w.data.toList #[(94 : UInt8)].toList).snd.fst).data.toList #[(95 : UInt8)].toList).fst).size).data.toList) true, Dec (atoiE (strL (Lib.cut w.data.toList #[(94 : UInt8)].toList).fst).data.toList) true, (strL (Lib.cut (strL (Lib.cut w.data.toList #[(94 : UInt8)].toList).snd.fst).data.toList #[(95 : UInt8)].toList).snd.fst).size ≤ (1000000 : Nat), Dec (!(strL (Lib.cut (strL (Lib.cut w.data.toList #[(94 : UInt8)].toList).snd.fst).data.toList #[(95 : UInt8)].toList).snd.fst).toList == (ByteArray.mk #[(73 : UInt8), (73 : UInt8)]).toList) true, ((strL (Lib.cut (strL (Lib.cut w.data.toList #[(94 : UInt8)].toList).snd.fst).data.toList #[(95 : UInt8)].toList).fst).extract (Int.toNat (1 : Int)) (strL (Lib.cut (strL (Lib.cut w.data.toList #[(94 : UInt8)].toList).snd.fst).data.toList #[(95 : UInt8)].toList).fst).size).size ≤ (1000000 : Nat), (0 : Int) ≤ 1 ∧ (1 : Int) ≤ (↑(strL (Lib.cut (strL (Lib.cut w.data.toList #[(94 : UInt8)].toList).snd.fst).data.toList #[(95 : UInt8)].toList).fst).size : Int), (strL (Lib.cut w.data.toList #[(94 : UInt8)].toList).fst).size ≤ (1000000 : Nat), Dec ((↑((strL (Lib.cut (strL (Lib.cut w.data.toList #[(94 : UInt8)].toList).snd.fst).data.toList #[(95 : UInt8)].toList).fst)[Int.toNat (0 : Int)]?.getD (0 : UInt8)).toNat : Int) == 45) false, (0 : Int) ≤ 0 ∧ Int.toNat (0 : Int) < (strL (Lib.cut (strL (Lib.cut w.data.toList #[(94 : UInt8)].toList).snd.fst).data.toList #[(95 : UInt8)].toList).fst).size, Dec ((strL (Lib.cut (strL (Lib.cut w.data.toList #[(94 : UInt8)].toList).snd.fst).data.toList #[(95 : UInt8)].toList).fst).toList == (ByteArray.mk #[]).toList) false, (strL (Lib.cut w.data.toList #[(94 : UInt8)].toList).snd.fst).size ≤ (1000000 : Nat), w.size ≤ (1000000 : Nat)] (by kernel_rfl) ⟨?_, ?_, ?_, ?_, ?_, ?_, d5, d4, ?_, (dN d3), ?_, ?_, ?_, d2, ?_, d1, ?_, (?_ : w.size ≤ (1000000 : Nat))⟩) (fun d5 => rr [false, false, true, true, false] [atoiV (strL (Lib.cut w.data.toList #[(94 : UInt8)].toList).fst).data.toList = (pcT w).fst.exp, atoiV ((strL (Lib.cut (strL (Lib.cut w.data.toList #[(94 : UInt8)].toList).snd.fst).data.toList #[(95 : UInt8)].toList).fst).extract (Int.toNat (1 : Int)) (strL (Lib.cut (strL (Lib.cut w.data.toList #[(94 : UInt8)].toList).snd.fst).data.toList #[(95 : UInt8)].toList).fst).size).data.toList = (pcT w).fst.dim, (1 : Int) = (pcT w).fst.sign, (!(strL (Lib.cut (strL (Lib.cut w.data.toList #[(94 : UInt8)].toList).snd.fst).data.toList #[(95 : UInt8)].toList).snd.fst).toList == (ByteArray.mk #[(73 : UInt8), (73 : UInt8)]).toList) = (pcT w).fst.odd, atoiV (strL (Lib.cut (strL (Lib.cut w.data.toList #[(94 : UInt8)].toList).snd.fst).data.toList #[(95 : UInt8)].toList).snd.fst).data.toList = (pcT w).fst.oddity, false = (pcT w).snd, Dec (atoiE ((strL (Lib.cut (strL (Lib.cut w.data.toList #[(94 : UInt8)].toList).snd.fst).data.toList #[(95 : UInt8)].toList).fst).extract (Int.toNat (1 : Int)) (strL (Lib.cut (strL (Lib.cut w.data.toList #[(94 : UInt8)].toList).snd.fst).data.toList #[(95 : UInt8)].toList).fst).size).data.toList) false, Dec (atoiE (strL (Lib.cut w.data.toList #[(94 : UInt8)].toList).fst).data.toList) true, (strL (Lib.cut (strL (Lib.cut w.data.toList #[(94 : UInt8)].toList).snd.fst).data.toList #[(95 : UInt8)].toList).snd.fst).size ≤ (1000000 : Nat), Dec (!(strL (Lib.cut (strL (Lib.cut w.data.toList #[(94 : UInt8)].toList).snd.fst).data.toList #[(95 : UInt8)].toList).snd.fst).toList == (ByteArray.mk #[(73 : UInt8), (73 : UInt8)]).toList) true, ((strL (Lib.cut (strL (Lib.cut w.data.toList #[(94 : UInt8)].toList).snd.fst).data.toList #[(95 : UInt8)].toList).fst).extract (Int.toNat (1 : Int)) (strL (Lib.cut (strL (Lib.cut w.data.toList #[(94 : UInt8)].toList).snd.fst).data.toList #[(95 : UInt8)].toList).fst).size).size ≤ (1000000 : Nat), (0 : Int) ≤ 1 ∧ (1 : Int) ≤ (↑(strL (Lib.cut (strL (Lib.cut w.data.toList #[(94 : UInt8)].toList).snd.fst).data.toList #[(95 : UInt8)].toList).fst).size : Int), (strL (Lib.cut w.data.toList #[(94 : UInt8)].toList).fst).size ≤ (1000000 : Nat), Dec ((↑((strL (Lib.cut (strL (Lib.cut w.data.toList #[(94 : UInt8)].toList).snd.fst).data.toList #[(95 : UInt8)].toList).fst)[Int.toNat (0 : Int)]?.getD (0 : UInt8)).toNat : Int) == 45) false, (0 : Int) ≤ 0 ∧ Int.toNat (0 : Int) < (strL (Lib.cut (strL (Lib.cut w.data.toList #[(94 : UInt8)].toList).snd.fst).data.toList #[(95 : UInt8)].toList).fst).size, Dec ((strL (Lib.cut (strL (Lib.cut w.data.toList #[(94 : UInt8)].toList).snd.fst).data.toList #[(95 : UInt8)].toList).fst).toList == (ByteArray.mk #[]).toList) false, (strL (Lib.cut w.data.toList #[(94 : UInt8)].toList).snd.fst).size ≤ (1000000 : Nat), w.size ≤ (1000000 : Nat)] (by kernel_rfl) ⟨?_, ?_, ?_, ?_, ?_, ?_, d5, d4, ?_, (dN d3), ?_, ?_, ?_, d2, ?_, d1, ?_, (?_ : w.size ≤ (1000000 : Nat))⟩)) (fun d4 => rr [false, false, true, false] [atoiV (strL (Lib.cut w.data.toList #[(94 : UInt8)].toList).fst).data.toList = (pcT w).fst.exp, atoiV ((strL (Lib.cut (strL (Lib.cut w.data.toList #[(94 : UInt8)].toList).snd.fst).data.toList #[(95 : UInt8)].toList).fst).extract (Int.toNat (1 : Int)) (strL (Lib.cut (strL (Lib.cut w.data.toList #[(94 : UInt8)].toList).snd.fst).data.toList #[(95 : UInt8)].toList).fst).size).data.toList = (pcT w).fst.dim, (1 : Int) = (pcT w).fst.sign, (!(strL (Lib.cut (strL (Lib.cut w.data.toList #[(94 : UInt8)].toList).snd.fst).data.toList #[(95 : UInt8)].toList).snd.fst).toList == (ByteArray.mk #[(73 : UInt8), (73 : UInt8)]).toList) = (pcT w).fst.odd, atoiV (strL (Lib.cut (strL (Lib.cut w.data.toList #[(94 : UInt8)].toList).snd.fst).data.toList #[(95 : UInt8)].toList).snd.fst).data.toList = (pcT w).fst.oddity, false = (pcT w).snd, Dec (atoiE (strL (Lib.cut w.data.toList #[(94 : UInt8)].toList).fst).data.toList) false, (strL (Lib.cut (strL (Lib.cut w.data.toList #[(94 : UInt8)].toList).snd.fst).data.toList #[(95 : UInt8)].toList).snd.fst).size ≤ (1000000 : Nat), Dec (!(strL (Lib.cut (strL (Lib.cut w.data.toList #[(94 : UInt8)].toList).snd.fst).data.toList #[(95 : UInt8)].toList).snd.fst).toList == (ByteArray.mk #[(73 : UInt8), (73 : UInt8)]).toList) true, ((strL (Lib.cut (strL (Lib.cut w.data.toList #[(94 : UInt8)].toList).snd.fst).data.toList #[(95 : UInt8)].toList).fst).extract (Int.toNat (1 : Int)) (strL (Lib.cut (strL (Lib.cut w.data.toList #[(94 : UInt8)].toList).snd.fst).data.toList #[(95 : UInt8)].toList).fst).size).size ≤ (1000000 : Nat), (0 : Int) ≤ 1 ∧ (1 : Int) ≤ (↑(strL (Lib.cut (strL (Lib.cut w.data.toList #[(94 : UInt8)].toList).snd.fst).data.toList #[(95 : UInt8)].toList).fst).size : Int), (strL (Lib.cut w.data.toList #[(94 : UInt8)].toList).fst).size ≤ (1000000 : Nat), Dec ((↑((strL (Lib.cut (strL (Lib.cut w.data.toList #[(94 : UInt8)].toList).snd.fst).data.toList #[(95 : UInt8)].toList).fst)[Int.toNat (0 : Int)]?.getD (0 : UInt8)).toNat : Int) == 45) false, (0 : Int) ≤ 0 ∧ Int.toNat (0 : Int) < (strL (Lib.cut (strL (Lib.cut w.data.toList #[(94 : UInt8)].toList).snd.fst).data.toList #[(95 : UInt8)].toList).fst).size, Dec ((strL (Lib.cut (strL (Lib.cut w.data.toList #[(94 : UInt8)].toList).snd.fst).data.toList #[(95 : UInt8)].toList).fst).toList == (ByteArray.mk #[]).toList) false, (strL (Lib.cut w.data.toList #[(94 : UInt8)].toList).snd.fst).size ≤ (1000000 : Nat), w.size ≤ (1000000 : Nat)] (by kernel_rfl) ⟨?_, ?_, ?_, ?_, ?_, ?_, d4, ?_, (dN d3), ?_, ?_, ?_, d2, ?_, d1, ?_, (?_ : w.size ≤ (1000000 : Nat))⟩))))
  all_goals first | (first | (with_reducible rfl) | exact hw | (show (cA w [94]).size ≤ 1000000; omega) | (show (cB w [94]).size ≤ 1000000; omega) | (show (tl1 (pd w)).size ≤ 1000000; omega) | (show (po w).size ≤ 1000000; omega) | (have := size_pos (s := pd w) d1; show (0 : Int) ≤ 1 ∧ (1 : Int) ≤ ((pd w).size : Int); omega) | (have := size_pos (s := pd w) d1; show (0 : Int) ≤ 0 ∧ 0 < (pd w).size; omega) | first | ((simp only [pcT, show eqB (pd w) ⟨#[]⟩ = _ from d1, show neg0 (pd w) = _ from d2, show eqB (po w) iiS = _ from d3, show atoiE (cA w [94]).data.toList = _ from d4, show atoiE (tl1 (pd w)).data.toList = _ from d5, cond_true, cond_false, Bool.true_and, Bool.false_and, Bool.not_true, Bool.not_false]) <;> rfl) | ((simp only [pcT, show eqB (pd w) ⟨#[]⟩ = _ from d1, show neg0 (pd w) = _ from d2, show eqB (po w) iiS = _ from d3, show atoiE (cA w [94]).data.toList = _ from d4, cond_true, cond_false, Bool.true_and, Bool.false_and, Bool.not_true, Bool.not_false]) <;> rfl) | ((simp only [pcT, show eqB (pd w) ⟨#[]⟩ = _ from d1, cond_true, cond_false, Bool.true_and, Bool.false_and, Bool.not_true, Bool.not_false]) <;> rfl))
end Go.Proofs.YtgdhgnhgmbkpdaaGreatDoor.S

namespace Go.Proofs.YtgdhgnhgmbkpdaaGreatDoor.S
open Go.QfSy Go.RowKit
noncomputable def coH (p : Int) (L : List Con) : List (Nat × Blk) := [(1000, ⟨.plain [.vint .i64 p, (roC L).av], 24, 0, false, true⟩), (1001, ⟨.plain [.fn 112 [.ptr 1000 0], .fn 113 [.ptr 1000 0]], 152, 0, false, true⟩)]
noncomputable def coAnn (p : Int) (L : List Con) : Ann := ⟨⟨[(3, .ptr 1001 0), (5, .nils), (8, .vint .i64 L.length), (9, .int .i64 0)], coH p L, 1002⟩, some (partsA L L.length).2.isNone, fun d => match d with
  | true => (.exit 0, ⟨[(5, .nils)], [], 1010⟩)
  | false => (.exit 0, ⟨[(5, .lo 1003 ((partsFin L).length + 1))], [(1003, ⟨.rows .i64 (partsFin L) 1004 (partsLst L).length, 107, 1, true, true⟩), (1004, ⟨.ints .i64 (partsLst L), 3, 1, true, true⟩)], 1010⟩)⟩
noncomputable def coS (p : Int) (L : List Con) : Nat × List (List Int) × Option (List Int) → St
  | (k, _, none) => ⟨[(3, .ptr 1001 0), (5, .nils), (8, .vint .i64 L.length), (9, .vint .i64 (k : Int))], coH p L, 1010⟩
  | (k, F, some l) => ⟨[(3, .ptr 1001 0), (5, .lo 1003 (F.length + 1)), (8, .vint .i64 L.length), (9, .vint .i64 (k : Int))], coH p L ++ [(1003, ⟨.rows .i64 F 1004 l.length, 107, 1, true, true⟩), (1004, ⟨.ints .i64 l, 3, 1, true, true⟩)], 1010⟩
theorem joinB_t' {L : List Con} {k : Nat} (h1 : 0 < k) (h2 : (at_ L (k - 1)).odd = true) (h3 : (at_ L k).exp = (at_ L (k - 1)).exp + 1) : joinB L k = true := joinB_t h1 h2 (by omega)
theorem joinB_3' {L : List Con} {k : Nat} (h1 : ¬ (at_ L k).exp = (at_ L (k - 1)).exp + 1) : joinB L k = false := joinB_3 (by omega)
theorem co_loop (p : Int) (L : List Con) (hL : okE L) : AnnOk Tryz.prog EV.ng (Nat.max 2 Tryz.f111.ntmps) (bodyAt Tryz.f111 [0, 1, 0, 1, 1]) (coAnn p L) := by
  refine ann_of evOk (callF_ok evOk (noOrc_ok _ _) 8) none_ann (by kernel_rfl) (by kernel_rfl) (coS p L) (fun i => L.length - i.1) (fun d i => partsI L i ∧ d = (partsA L L.length).2.isNone) ?_ ?_
  · intro d hd
    exact ⟨(0, [], none), [(↑L.length : Int) = ↑L.length, (0 : Int) = (↑(0 : Nat) : Int), p = p, L.length = L.length ∧ (rws L) = (rws L)], by kernel_rfl, (by refine ⟨?_, ?_, ?_, (?_ : L.length = L.length ∧ (rws L) = (rws L))⟩ <;> (first | rfl | assumption | omega | simp_all)), (by exact ⟨⟨Nat.zero_le _, rfl⟩, hd.symm⟩)⟩
  · rintro d hd ⟨k, F, o⟩ hI
    cases d
    · -- d = false
      obtain ⟨hI, hD⟩ := hI
      have hG := partsI_ok hI
      have hk : k ≤ L.length := hI.1
      have hl := hL.1
      have ek : IntKind.i64.wrap ((k : Int) + 1) = ((k + 1 : Nat) : Int) := by rw [w64 (by omega) (by omega)]; omega
      have em : IntKind.i64.wrap ((k : Int) - 1) = (k : Int) - 1 := w64 (by omega) (by omega)
      have et : ((k : Int) - 1).toNat = k - 1 := by omega
      have ew : IntKind.i64.wrap ((at_ L (k - 1)).exp + 1) = (at_ L (k - 1)).exp + 1 := by have := hL.at' (k - 1); exact w64 (by omega) (by omega)
      have hFk : F.length ≤ k := by have := hG.len; cases o <;> simp [allA] at this <;> omega
      have eF : IntKind.i64.wrap (((F.length + 1 : Nat) : Int) - 1) = (F.length : Int) := by rw [w64 (by omega) (by omega)]; omega
      rcases o with _ | l
      · -- 1
        refine oe (decide ((↑k : Int) < ↑L.length)) (fun d1 => oe ((L.getD k Con.zero).odd) (fun d2 => oe (decide ((↑k : Int) > 0)) (fun d3 => oe ((L.getD (IntKind.i64.wrap ((↑k : Int) - 1)).toNat Con.zero).odd) (fun d4 => GnG.no ?_) (fun d4 => ⟨[true, false, true, false], .inl ⟨(k + 1, [], some [(k : Int)]), [(1 : Nat) = (0 : Nat) + (1 : Nat), (↑L.length : Int) = ↑L.length, IntKind.i64.wrap ((↑k : Int) + 1) = (↑(k + (1 : Nat)) : Int), p = p, L.length = L.length ∧ (rws L) = (rws L), ([] : List (List Int)) = [] ∧ (1 : Nat) = [(↑k : Int)].length, [(↑k : Int)] = [(↑k : Int)], Dec (L.getD (IntKind.i64.wrap ((↑k : Int) - 1)).toNat Con.zero).odd false, (0 : Int) ≤ IntKind.i64.wrap ((↑k : Int) - 1) ∧ IntKind.i64.wrap ((↑k : Int) - 1) < ↑L.length, Dec (decide ((↑k : Int) > 0)) true, Dec (!(L.getD k Con.zero).odd) false, (0 : Int) ≤ ↑k ∧ (↑k : Int) < ↑L.length, Dec (decide ((↑k : Int) < ↑L.length)) true], by kernel_rfl, ⟨?_, ?_, ?_, ?_, ?_, ?_, ?_, d4, ?_, d3, (dN d2), ?_, d1⟩, MuG.out ?_, InG.out ?_⟩⟩)) (fun d3 => ⟨[true, false, false], .inl ⟨(k + 1, [], some [(k : Int)]), [(1 : Nat) = (0 : Nat) + (1 : Nat), (↑L.length : Int) = ↑L.length, IntKind.i64.wrap ((↑k : Int) + 1) = (↑(k + (1 : Nat)) : Int), p = p, L.length = L.length ∧ (rws L) = (rws L), ([] : List (List Int)) = [] ∧ (1 : Nat) = [(↑k : Int)].length, [(↑k : Int)] = [(↑k : Int)], Dec (decide ((↑k : Int) > 0)) false, Dec (!(L.getD k Con.zero).odd) false, (0 : Int) ≤ ↑k ∧ (↑k : Int) < ↑L.length, Dec (decide ((↑k : Int) < ↑L.length)) true], by kernel_rfl, ⟨?_, ?_, ?_, ?_, ?_, ?_, ?_, d3, (dN d2), ?_, d1⟩, MuG.out ?_, InG.out ?_⟩⟩)) (fun d2 => ⟨[true, true], .inl ⟨(k + 1, F, none), [(↑L.length : Int) = ↑L.length, IntKind.i64.wrap ((↑k : Int) + 1) = (↑(k + (1 : Nat)) : Int), p = p, L.length = L.length ∧ (rws L) = (rws L), Dec (!(L.getD k Con.zero).odd) true, (0 : Int) ≤ ↑k ∧ (↑k : Int) < ↑L.length, Dec (decide ((↑k : Int) < ↑L.length)) true], by kernel_rfl, ⟨?_, ?_, ?_, ?_, (dN d2), ?_, d1⟩, MuG.out ?_, InG.out ?_⟩⟩)) (fun d1 => CtG.no ?_)
        all_goals first | (refine MuG.mk ?_; (simp only [decide_eq_true_eq, decide_eq_false_iff_not] at *; show L.length - (k + 1) < L.length - k; omega)) | (refine InG.mk ?_; (simp only [em, et, ew, decide_eq_true_eq, decide_eq_false_iff_not, gt_iff_lt, beq_iff_eq, beq_eq_false_iff_ne, ne_eq] at *; first | exact ⟨partsI_no hI (by omega) d2, hD⟩ | exact ⟨partsI_one hI (by omega) d2, hD⟩ | exact ⟨partsI_app hI (by omega) d2 (joinB_t' (by omega) d4 d5), hD⟩ | exact ⟨partsI_new hI (by omega) d2 (joinB_1 (by omega)), hD⟩ | exact ⟨partsI_new hI (by omega) d2 (joinB_2 d4), hD⟩ | exact ⟨partsI_new hI (by omega) d2 (joinB_3' d5), hD⟩)) | (refine CtG.mk ?_; (simp only [decide_eq_false_iff_not] at *; have h0 := partsI_end hI (by omega); rw [h0] at hD; cases hD)) | (refine GnG.mk ?_; (have h0 := ((partsI_ok hI).none rfl).2 (k - 1) (by simp only [decide_eq_true_eq] at d3; show k - 1 < k; omega); simp only [em, et] at d4; exact Bool.noConfusion ((show false = _ from h0.symm).trans d4))) | (first | rfl | exact ⟨rfl, rfl⟩ | ((try simp only [em, ek, et, eF, ew, Int.toNat_natCast, decide_eq_true_eq, decide_eq_false_iff_not, gt_iff_lt, View.num] at *) <;> first | omega | exact ⟨rfl, rfl⟩ | (have := (hG.rows l (by simp [allA])).2.2; exact ⟨by trivial, by omega⟩) | (rw [(partsI_fin hI (by omega)).1]; done) | (rw [(partsI_fin hI (by omega)).2]; done) | (rw [(partsI_fin hI (by omega)).1, (partsI_fin hI (by omega)).2]; exact ⟨rfl, rfl⟩) | (simp; done)))
      · -- 2
        refine oe (decide ((↑k : Int) < ↑L.length)) (fun d1 => oe ((L.getD k Con.zero).odd) (fun d2 => oe (decide ((↑k : Int) > 0)) (fun d3 => oe ((L.getD (IntKind.i64.wrap ((↑k : Int) - 1)).toNat Con.zero).odd) (fun d4 => oe ((L.getD k Con.zero).exp == IntKind.i64.wrap ((L.getD (IntKind.i64.wrap ((↑k : Int) - 1)).toNat Con.zero).exp + 1)) (fun d5 => ⟨[true, false, true, true, true], .inl ⟨(k + 1, F, some (l ++ [(k : Int)])), [F.length + (1 : Nat) = F.length + (1 : Nat), (↑L.length : Int) = ↑L.length, IntKind.i64.wrap ((↑k : Int) + 1) = (↑(k + (1 : Nat)) : Int), p = p, L.length = L.length ∧ (rws L) = (rws L), F = F ∧ l.length + (1 : Nat) = (l ++ [(↑k : Int)]).length, l ++ [(↑k : Int)] = l ++ [(↑k : Int)], (IntKind.i64.wrap ((↑(F.length + (1 : Nat)) : Int) - 1)).toNat = F.length, (0 : Int) ≤ IntKind.i64.wrap ((↑(F.length + (1 : Nat)) : Int) - 1) ∧ IntKind.i64.wrap ((↑(F.length + (1 : Nat)) : Int) - 1) < (↑(F.length + (1 : Nat)) : Int), (View.ints IntKind.i64 l).num = l.length ∧ l.length + (1 : Nat) ≤ (1000000 : Nat), (IntKind.i64.wrap ((↑(F.length + (1 : Nat)) : Int) - 1)).toNat = F.length, (0 : Int) ≤ IntKind.i64.wrap ((↑(F.length + (1 : Nat)) : Int) - 1) ∧ IntKind.i64.wrap ((↑(F.length + (1 : Nat)) : Int) - 1) < (↑(F.length + (1 : Nat)) : Int), Dec ((L.getD k Con.zero).exp == IntKind.i64.wrap ((L.getD (IntKind.i64.wrap ((↑k : Int) - 1)).toNat Con.zero).exp + 1)) true, (0 : Int) ≤ IntKind.i64.wrap ((↑k : Int) - 1) ∧ IntKind.i64.wrap ((↑k : Int) - 1) < ↑L.length, (0 : Int) ≤ ↑k ∧ (↑k : Int) < ↑L.length, Dec (L.getD (IntKind.i64.wrap ((↑k : Int) - 1)).toNat Con.zero).odd true, (0 : Int) ≤ IntKind.i64.wrap ((↑k : Int) - 1) ∧ IntKind.i64.wrap ((↑k : Int) - 1) < ↑L.length, Dec (decide ((↑k : Int) > 0)) true, Dec (!(L.getD k Con.zero).odd) false, (0 : Int) ≤ ↑k ∧ (↑k : Int) < ↑L.length, Dec (decide ((↑k : Int) < ↑L.length)) true], by kernel_rfl, ⟨?_, ?_, ?_, ?_, ?_, ?_, ?_, ?_, ?_, ?_, ?_, ?_, d5, ?_, ?_, d4, ?_, d3, (dN d2), ?_, d1⟩, MuG.out ?_, InG.out ?_⟩⟩) (fun d5 => ⟨[true, false, true, true, false], .inl ⟨(k + 1, F ++ [l], some [(k : Int)]), [F.length + (1 : Nat) + (1 : Nat) = (F ++ [l]).length + (1 : Nat), (↑L.length : Int) = ↑L.length, IntKind.i64.wrap ((↑k : Int) + 1) = (↑(k + (1 : Nat)) : Int), p = p, L.length = L.length ∧ (rws L) = (rws L), F ++ [l] = F ++ [l] ∧ (1 : Nat) = [(↑k : Int)].length, [(↑k : Int)] = [(↑k : Int)], F.length + (1 : Nat) + (1 : Nat) ≤ (1000000 : Nat), F.length + (1 : Nat) = F.length + (1 : Nat) ∧ l.length = l.length, Dec ((L.getD k Con.zero).exp == IntKind.i64.wrap ((L.getD (IntKind.i64.wrap ((↑k : Int) - 1)).toNat Con.zero).exp + 1)) false, (0 : Int) ≤ IntKind.i64.wrap ((↑k : Int) - 1) ∧ IntKind.i64.wrap ((↑k : Int) - 1) < ↑L.length, (0 : Int) ≤ ↑k ∧ (↑k : Int) < ↑L.length, Dec (L.getD (IntKind.i64.wrap ((↑k : Int) - 1)).toNat Con.zero).odd true, (0 : Int) ≤ IntKind.i64.wrap ((↑k : Int) - 1) ∧ IntKind.i64.wrap ((↑k : Int) - 1) < ↑L.length, Dec (decide ((↑k : Int) > 0)) true, Dec (!(L.getD k Con.zero).odd) false, (0 : Int) ≤ ↑k ∧ (↑k : Int) < ↑L.length, Dec (decide ((↑k : Int) < ↑L.length)) true], by kernel_rfl, ⟨?_, ?_, ?_, ?_, ?_, ?_, ?_, ?_, ?_, d5, ?_, ?_, d4, ?_, d3, (dN d2), ?_, d1⟩, MuG.out ?_, InG.out ?_⟩⟩)) (fun d4 => ⟨[true, false, true, false], .inl ⟨(k + 1, F ++ [l], some [(k : Int)]), [F.length + (1 : Nat) + (1 : Nat) = (F ++ [l]).length + (1 : Nat), (↑L.length : Int) = ↑L.length, IntKind.i64.wrap ((↑k : Int) + 1) = (↑(k + (1 : Nat)) : Int), p = p, L.length = L.length ∧ (rws L) = (rws L), F ++ [l] = F ++ [l] ∧ (1 : Nat) = [(↑k : Int)].length, [(↑k : Int)] = [(↑k : Int)], F.length + (1 : Nat) + (1 : Nat) ≤ (1000000 : Nat), F.length + (1 : Nat) = F.length + (1 : Nat) ∧ l.length = l.length, Dec (L.getD (IntKind.i64.wrap ((↑k : Int) - 1)).toNat Con.zero).odd false, (0 : Int) ≤ IntKind.i64.wrap ((↑k : Int) - 1) ∧ IntKind.i64.wrap ((↑k : Int) - 1) < ↑L.length, Dec (decide ((↑k : Int) > 0)) true, Dec (!(L.getD k Con.zero).odd) false, (0 : Int) ≤ ↑k ∧ (↑k : Int) < ↑L.length, Dec (decide ((↑k : Int) < ↑L.length)) true], by kernel_rfl, ⟨?_, ?_, ?_, ?_, ?_, ?_, ?_, ?_, ?_, d4, ?_, d3, (dN d2), ?_, d1⟩, MuG.out ?_, InG.out ?_⟩⟩)) (fun d3 => ⟨[true, false, false], .inl ⟨(k + 1, F ++ [l], some [(k : Int)]), [F.length + (1 : Nat) + (1 : Nat) = (F ++ [l]).length + (1 : Nat), (↑L.length : Int) = ↑L.length, IntKind.i64.wrap ((↑k : Int) + 1) = (↑(k + (1 : Nat)) : Int), p = p, L.length = L.length ∧ (rws L) = (rws L), F ++ [l] = F ++ [l] ∧ (1 : Nat) = [(↑k : Int)].length, [(↑k : Int)] = [(↑k : Int)], F.length + (1 : Nat) + (1 : Nat) ≤ (1000000 : Nat), F.length + (1 : Nat) = F.length + (1 : Nat) ∧ l.length = l.length, Dec (decide ((↑k : Int) > 0)) false, Dec (!(L.getD k Con.zero).odd) false, (0 : Int) ≤ ↑k ∧ (↑k : Int) < ↑L.length, Dec (decide ((↑k : Int) < ↑L.length)) true], by kernel_rfl, ⟨?_, ?_, ?_, ?_, ?_, ?_, ?_, ?_, ?_, d3, (dN d2), ?_, d1⟩, MuG.out ?_, InG.out ?_⟩⟩)) (fun d2 => ⟨[true, true], .inl ⟨(k + 1, F, some l), [F.length + (1 : Nat) = F.length + (1 : Nat), (↑L.length : Int) = ↑L.length, IntKind.i64.wrap ((↑k : Int) + 1) = (↑(k + (1 : Nat)) : Int), p = p, L.length = L.length ∧ (rws L) = (rws L), F = F ∧ l.length = l.length, l = l, Dec (!(L.getD k Con.zero).odd) true, (0 : Int) ≤ ↑k ∧ (↑k : Int) < ↑L.length, Dec (decide ((↑k : Int) < ↑L.length)) true], by kernel_rfl, ⟨?_, ?_, ?_, ?_, ?_, ?_, ?_, (dN d2), ?_, d1⟩, MuG.out ?_, InG.out ?_⟩⟩)) (fun d1 => ⟨[false], .inr ⟨[F.length + (1 : Nat) = (partsFin L).length + (1 : Nat), F = partsFin L ∧ l.length = (partsLst L).length, l = partsLst L, Dec (decide ((↑k : Int) < (↑L.length : Int))) false], by kernel_rfl, ⟨?_, ?_, ?_, d1⟩, rfl⟩⟩)
        all_goals first | (refine MuG.mk ?_; (simp only [decide_eq_true_eq, decide_eq_false_iff_not] at *; show L.length - (k + 1) < L.length - k; omega)) | (refine InG.mk ?_; (simp only [em, et, ew, decide_eq_true_eq, decide_eq_false_iff_not, gt_iff_lt, beq_iff_eq, beq_eq_false_iff_ne, ne_eq] at *; first | exact ⟨partsI_no hI (by omega) d2, hD⟩ | exact ⟨partsI_one hI (by omega) d2, hD⟩ | exact ⟨partsI_app hI (by omega) d2 (joinB_t' (by omega) d4 d5), hD⟩ | exact ⟨partsI_new hI (by omega) d2 (joinB_1 (by omega)), hD⟩ | exact ⟨partsI_new hI (by omega) d2 (joinB_2 d4), hD⟩ | exact ⟨partsI_new hI (by omega) d2 (joinB_3' d5), hD⟩)) | (refine CtG.mk ?_; (simp only [decide_eq_false_iff_not] at *; have h0 := partsI_end hI (by omega); rw [h0] at hD; cases hD)) | (refine GnG.mk ?_; (have h0 := ((partsI_ok hI).none rfl).2 (k - 1) (by simp only [decide_eq_true_eq] at d3; show k - 1 < k; omega); simp only [em, et] at d4; exact Bool.noConfusion ((show false = _ from h0.symm).trans d4))) | (first | rfl | exact ⟨rfl, rfl⟩ | ((try simp only [em, ek, et, eF, ew, Int.toNat_natCast, decide_eq_true_eq, decide_eq_false_iff_not, gt_iff_lt, View.num] at *) <;> first | omega | exact ⟨rfl, rfl⟩ | (have := (hG.rows l (by simp [allA])).2.2; exact ⟨by trivial, by omega⟩) | (rw [(partsI_fin hI (by omega)).1]; done) | (rw [(partsI_fin hI (by omega)).2]; done) | (rw [(partsI_fin hI (by omega)).1, (partsI_fin hI (by omega)).2]; exact ⟨rfl, rfl⟩) | (simp; done)))
    · -- d = true
      obtain ⟨hI, hD⟩ := hI
      have hG := partsI_ok hI
      have hk : k ≤ L.length := hI.1
      have hl := hL.1
      have ek : IntKind.i64.wrap ((k : Int) + 1) = ((k + 1 : Nat) : Int) := by rw [w64 (by omega) (by omega)]; omega
      have em : IntKind.i64.wrap ((k : Int) - 1) = (k : Int) - 1 := w64 (by omega) (by omega)
      have et : ((k : Int) - 1).toNat = k - 1 := by omega
      have ew : IntKind.i64.wrap ((at_ L (k - 1)).exp + 1) = (at_ L (k - 1)).exp + 1 := by have := hL.at' (k - 1); exact w64 (by omega) (by omega)
      have hFk : F.length ≤ k := by have := hG.len; cases o <;> simp [allA] at this <;> omega
      have eF : IntKind.i64.wrap (((F.length + 1 : Nat) : Int) - 1) = (F.length : Int) := by rw [w64 (by omega) (by omega)]; omega
      rcases o with _ | l
      · -- 1
        refine oe (decide ((↑k : Int) < ↑L.length)) (fun d1 => oe ((L.getD k Con.zero).odd) (fun d2 => oe (decide ((↑k : Int) > 0)) (fun d3 => oe ((L.getD (IntKind.i64.wrap ((↑k : Int) - 1)).toNat Con.zero).odd) (fun d4 => GnG.no ?_) (fun d4 => ⟨[true, false, true, false], .inl ⟨(k + 1, [], some [(k : Int)]), [(1 : Nat) = (0 : Nat) + (1 : Nat), (↑L.length : Int) = ↑L.length, IntKind.i64.wrap ((↑k : Int) + 1) = (↑(k + (1 : Nat)) : Int), p = p, L.length = L.length ∧ (rws L) = (rws L), ([] : List (List Int)) = [] ∧ (1 : Nat) = [(↑k : Int)].length, [(↑k : Int)] = [(↑k : Int)], Dec (L.getD (IntKind.i64.wrap ((↑k : Int) - 1)).toNat Con.zero).odd false, (0 : Int) ≤ IntKind.i64.wrap ((↑k : Int) - 1) ∧ IntKind.i64.wrap ((↑k : Int) - 1) < ↑L.length, Dec (decide ((↑k : Int) > 0)) true, Dec (!(L.getD k Con.zero).odd) false, (0 : Int) ≤ ↑k ∧ (↑k : Int) < ↑L.length, Dec (decide ((↑k : Int) < ↑L.length)) true], by kernel_rfl, ⟨?_, ?_, ?_, ?_, ?_, ?_, ?_, d4, ?_, d3, (dN d2), ?_, d1⟩, MuG.out ?_, InG.out ?_⟩⟩)) (fun d3 => ⟨[true, false, false], .inl ⟨(k + 1, [], some [(k : Int)]), [(1 : Nat) = (0 : Nat) + (1 : Nat), (↑L.length : Int) = ↑L.length, IntKind.i64.wrap ((↑k : Int) + 1) = (↑(k + (1 : Nat)) : Int), p = p, L.length = L.length ∧ (rws L) = (rws L), ([] : List (List Int)) = [] ∧ (1 : Nat) = [(↑k : Int)].length, [(↑k : Int)] = [(↑k : Int)], Dec (decide ((↑k : Int) > 0)) false, Dec (!(L.getD k Con.zero).odd) false, (0 : Int) ≤ ↑k ∧ (↑k : Int) < ↑L.length, Dec (decide ((↑k : Int) < ↑L.length)) true], by kernel_rfl, ⟨?_, ?_, ?_, ?_, ?_, ?_, ?_, d3, (dN d2), ?_, d1⟩, MuG.out ?_, InG.out ?_⟩⟩)) (fun d2 => ⟨[true, true], .inl ⟨(k + 1, F, none), [(↑L.length : Int) = ↑L.length, IntKind.i64.wrap ((↑k : Int) + 1) = (↑(k + (1 : Nat)) : Int), p = p, L.length = L.length ∧ (rws L) = (rws L), Dec (!(L.getD k Con.zero).odd) true, (0 : Int) ≤ ↑k ∧ (↑k : Int) < ↑L.length, Dec (decide ((↑k : Int) < ↑L.length)) true], by kernel_rfl, ⟨?_, ?_, ?_, ?_, (dN d2), ?_, d1⟩, MuG.out ?_, InG.out ?_⟩⟩)) (fun d1 => ⟨[false], .inr ⟨[Dec (decide ((↑k : Int) < (↑L.length : Int))) false], by kernel_rfl, d1, rfl⟩⟩)
        all_goals first | (refine MuG.mk ?_; (simp only [decide_eq_true_eq, decide_eq_false_iff_not] at *; show L.length - (k + 1) < L.length - k; omega)) | (refine InG.mk ?_; (simp only [em, et, ew, decide_eq_true_eq, decide_eq_false_iff_not, gt_iff_lt, beq_iff_eq, beq_eq_false_iff_ne, ne_eq] at *; first | exact ⟨partsI_no hI (by omega) d2, hD⟩ | exact ⟨partsI_one hI (by omega) d2, hD⟩ | exact ⟨partsI_app hI (by omega) d2 (joinB_t' (by omega) d4 d5), hD⟩ | exact ⟨partsI_new hI (by omega) d2 (joinB_1 (by omega)), hD⟩ | exact ⟨partsI_new hI (by omega) d2 (joinB_2 d4), hD⟩ | exact ⟨partsI_new hI (by omega) d2 (joinB_3' d5), hD⟩)) | (refine CtG.mk ?_; (simp only [decide_eq_false_iff_not] at *; have h0 := partsI_end hI (by omega); rw [h0] at hD; cases hD)) | (refine GnG.mk ?_; (have h0 := ((partsI_ok hI).none rfl).2 (k - 1) (by simp only [decide_eq_true_eq] at d3; show k - 1 < k; omega); simp only [em, et] at d4; exact Bool.noConfusion ((show false = _ from h0.symm).trans d4))) | (first | rfl | exact ⟨rfl, rfl⟩ | ((try simp only [em, ek, et, eF, ew, Int.toNat_natCast, decide_eq_true_eq, decide_eq_false_iff_not, gt_iff_lt, View.num] at *) <;> first | omega | exact ⟨rfl, rfl⟩ | (have := (hG.rows l (by simp [allA])).2.2; exact ⟨by trivial, by omega⟩) | (rw [(partsI_fin hI (by omega)).1]; done) | (rw [(partsI_fin hI (by omega)).2]; done) | (rw [(partsI_fin hI (by omega)).1, (partsI_fin hI (by omega)).2]; exact ⟨rfl, rfl⟩) | (simp; done)))
      · -- 2
        refine oe (decide ((↑k : Int) < ↑L.length)) (fun d1 => oe ((L.getD k Con.zero).odd) (fun d2 => oe (decide ((↑k : Int) > 0)) (fun d3 => oe ((L.getD (IntKind.i64.wrap ((↑k : Int) - 1)).toNat Con.zero).odd) (fun d4 => oe ((L.getD k Con.zero).exp == IntKind.i64.wrap ((L.getD (IntKind.i64.wrap ((↑k : Int) - 1)).toNat Con.zero).exp + 1)) (fun d5 => ⟨[true, false, true, true, true], .inl ⟨(k + 1, F, some (l ++ [(k : Int)])), [F.length + (1 : Nat) = F.length + (1 : Nat), (↑L.length : Int) = ↑L.length, IntKind.i64.wrap ((↑k : Int) + 1) = (↑(k + (1 : Nat)) : Int), p = p, L.length = L.length ∧ (rws L) = (rws L), F = F ∧ l.length + (1 : Nat) = (l ++ [(↑k : Int)]).length, l ++ [(↑k : Int)] = l ++ [(↑k : Int)], (IntKind.i64.wrap ((↑(F.length + (1 : Nat)) : Int) - 1)).toNat = F.length, (0 : Int) ≤ IntKind.i64.wrap ((↑(F.length + (1 : Nat)) : Int) - 1) ∧ IntKind.i64.wrap ((↑(F.length + (1 : Nat)) : Int) - 1) < (↑(F.length + (1 : Nat)) : Int), (View.ints IntKind.i64 l).num = l.length ∧ l.length + (1 : Nat) ≤ (1000000 : Nat), (IntKind.i64.wrap ((↑(F.length + (1 : Nat)) : Int) - 1)).toNat = F.length, (0 : Int) ≤ IntKind.i64.wrap ((↑(F.length + (1 : Nat)) : Int) - 1) ∧ IntKind.i64.wrap ((↑(F.length + (1 : Nat)) : Int) - 1) < (↑(F.length + (1 : Nat)) : Int), Dec ((L.getD k Con.zero).exp == IntKind.i64.wrap ((L.getD (IntKind.i64.wrap ((↑k : Int) - 1)).toNat Con.zero).exp + 1)) true, (0 : Int) ≤ IntKind.i64.wrap ((↑k : Int) - 1) ∧ IntKind.i64.wrap ((↑k : Int) - 1) < ↑L.length, (0 : Int) ≤ ↑k ∧ (↑k : Int) < ↑L.length, Dec (L.getD (IntKind.i64.wrap ((↑k : Int) - 1)).toNat Con.zero).odd true, (0 : Int) ≤ IntKind.i64.wrap ((↑k : Int) - 1) ∧ IntKind.i64.wrap ((↑k : Int) - 1) < ↑L.length, Dec (decide ((↑k : Int) > 0)) true, Dec (!(L.getD k Con.zero).odd) false, (0 : Int) ≤ ↑k ∧ (↑k : Int) < ↑L.length, Dec (decide ((↑k : Int) < ↑L.length)) true], by kernel_rfl, ⟨?_, ?_, ?_, ?_, ?_, ?_, ?_, ?_, ?_, ?_, ?_, ?_, d5, ?_, ?_, d4, ?_, d3, (dN d2), ?_, d1⟩, MuG.out ?_, InG.out ?_⟩⟩) (fun d5 => ⟨[true, false, true, true, false], .inl ⟨(k + 1, F ++ [l], some [(k : Int)]), [F.length + (1 : Nat) + (1 : Nat) = (F ++ [l]).length + (1 : Nat), (↑L.length : Int) = ↑L.length, IntKind.i64.wrap ((↑k : Int) + 1) = (↑(k + (1 : Nat)) : Int), p = p, L.length = L.length ∧ (rws L) = (rws L), F ++ [l] = F ++ [l] ∧ (1 : Nat) = [(↑k : Int)].length, [(↑k : Int)] = [(↑k : Int)], F.length + (1 : Nat) + (1 : Nat) ≤ (1000000 : Nat), F.length + (1 : Nat) = F.length + (1 : Nat) ∧ l.length = l.length, Dec ((L.getD k Con.zero).exp == IntKind.i64.wrap ((L.getD (IntKind.i64.wrap ((↑k : Int) - 1)).toNat Con.zero).exp + 1)) false, (0 : Int) ≤ IntKind.i64.wrap ((↑k : Int) - 1) ∧ IntKind.i64.wrap ((↑k : Int) - 1) < ↑L.length, (0 : Int) ≤ ↑k ∧ (↑k : Int) < ↑L.length, Dec (L.getD (IntKind.i64.wrap ((↑k : Int) - 1)).toNat Con.zero).odd true, (0 : Int) ≤ IntKind.i64.wrap ((↑k : Int) - 1) ∧ IntKind.i64.wrap ((↑k : Int) - 1) < ↑L.length, Dec (decide ((↑k : Int) > 0)) true, Dec (!(L.getD k Con.zero).odd) false, (0 : Int) ≤ ↑k ∧ (↑k : Int) < ↑L.length, Dec (decide ((↑k : Int) < ↑L.length)) true], by kernel_rfl, ⟨?_, ?_, ?_, ?_, ?_, ?_, ?_, ?_, ?_, d5, ?_, ?_, d4, ?_, d3, (dN d2), ?_, d1⟩, MuG.out ?_, InG.out ?_⟩⟩)) (fun d4 => ⟨[true, false, true, false], .inl ⟨(k + 1, F ++ [l], some [(k : Int)]), [F.length + (1 : Nat) + (1 : Nat) = (F ++ [l]).length + (1 : Nat), (↑L.length : Int) = ↑L.length, IntKind.i64.wrap ((↑k : Int) + 1) = (↑(k + (1 : Nat)) : Int), p = p, L.length = L.length ∧ (rws L) = (rws L), F ++ [l] = F ++ [l] ∧ (1 : Nat) = [(↑k : Int)].length, [(↑k : Int)] = [(↑k : Int)], F.length + (1 : Nat) + (1 : Nat) ≤ (1000000 : Nat), F.length + (1 : Nat) = F.length + (1 : Nat) ∧ l.length = l.length, Dec (L.getD (IntKind.i64.wrap ((↑k : Int) - 1)).toNat Con.zero).odd false, (0 : Int) ≤ IntKind.i64.wrap ((↑k : Int) - 1) ∧ IntKind.i64.wrap ((↑k : Int) - 1) < ↑L.length, Dec (decide ((↑k : Int) > 0)) true, Dec (!(L.getD k Con.zero).odd) false, (0 : Int) ≤ ↑k ∧ (↑k : Int) < ↑L.length, Dec (decide ((↑k : Int) < ↑L.length)) true], by kernel_rfl, ⟨?_, ?_, ?_, ?_, ?_, ?_, ?_, ?_, ?_, d4, ?_, d3, (dN d2), ?_, d1⟩, MuG.out ?_, InG.out ?_⟩⟩)) (fun d3 => ⟨[true, false, false], .inl ⟨(k + 1, F ++ [l], some [(k : Int)]), [F.length + (1 : Nat) + (1 : Nat) = (F ++ [l]).length + (1 : Nat), (↑L.length : Int) = ↑L.length, IntKind.i64.wrap ((↑k : Int) + 1) = (↑(k + (1 : Nat)) : Int), p = p, L.length = L.length ∧ (rws L) = (rws L), F ++ [l] = F ++ [l] ∧ (1 : Nat) = [(↑k : Int)].length, [(↑k : Int)] = [(↑k : Int)], F.length + (1 : Nat) + (1 : Nat) ≤ (1000000 : Nat), F.length + (1 : Nat) = F.length + (1 : Nat) ∧ l.length = l.length, Dec (decide ((↑k : Int) > 0)) false, Dec (!(L.getD k Con.zero).odd) false, (0 : Int) ≤ ↑k ∧ (↑k : Int) < ↑L.length, Dec (decide ((↑k : Int) < ↑L.length)) true], by kernel_rfl, ⟨?_, ?_, ?_, ?_, ?_, ?_, ?_, ?_, ?_, d3, (dN d2), ?_, d1⟩, MuG.out ?_, InG.out ?_⟩⟩)) (fun d2 => ⟨[true, true], .inl ⟨(k + 1, F, some l), [F.length + (1 : Nat) = F.length + (1 : Nat), (↑L.length : Int) = ↑L.length, IntKind.i64.wrap ((↑k : Int) + 1) = (↑(k + (1 : Nat)) : Int), p = p, L.length = L.length ∧ (rws L) = (rws L), F = F ∧ l.length = l.length, l = l, Dec (!(L.getD k Con.zero).odd) true, (0 : Int) ≤ ↑k ∧ (↑k : Int) < ↑L.length, Dec (decide ((↑k : Int) < ↑L.length)) true], by kernel_rfl, ⟨?_, ?_, ?_, ?_, ?_, ?_, ?_, (dN d2), ?_, d1⟩, MuG.out ?_, InG.out ?_⟩⟩)) (fun d1 => CtG.no ?_)
        all_goals first | (refine MuG.mk ?_; (simp only [decide_eq_true_eq, decide_eq_false_iff_not] at *; show L.length - (k + 1) < L.length - k; omega)) | (refine InG.mk ?_; (simp only [em, et, ew, decide_eq_true_eq, decide_eq_false_iff_not, gt_iff_lt, beq_iff_eq, beq_eq_false_iff_ne, ne_eq] at *; first | exact ⟨partsI_no hI (by omega) d2, hD⟩ | exact ⟨partsI_one hI (by omega) d2, hD⟩ | exact ⟨partsI_app hI (by omega) d2 (joinB_t' (by omega) d4 d5), hD⟩ | exact ⟨partsI_new hI (by omega) d2 (joinB_1 (by omega)), hD⟩ | exact ⟨partsI_new hI (by omega) d2 (joinB_2 d4), hD⟩ | exact ⟨partsI_new hI (by omega) d2 (joinB_3' d5), hD⟩)) | (refine CtG.mk ?_; (simp only [decide_eq_false_iff_not] at *; have h0 := partsI_end hI (by omega); rw [h0] at hD; cases hD)) | (refine GnG.mk ?_; (have h0 := ((partsI_ok hI).none rfl).2 (k - 1) (by simp only [decide_eq_true_eq] at d3; show k - 1 < k; omega); simp only [em, et] at d4; exact Bool.noConfusion ((show false = _ from h0.symm).trans d4))) | (first | rfl | exact ⟨rfl, rfl⟩ | ((try simp only [em, ek, et, eF, ew, Int.toNat_natCast, decide_eq_true_eq, decide_eq_false_iff_not, gt_iff_lt, View.num] at *) <;> first | omega | exact ⟨rfl, rfl⟩ | (have := (hG.rows l (by simp [allA])).2.2; exact ⟨by trivial, by omega⟩) | (rw [(partsI_fin hI (by omega)).1]; done) | (rw [(partsI_fin hI (by omega)).2]; done) | (rw [(partsI_fin hI (by omega)).1, (partsI_fin hI (by omega)).2]; exact ⟨rfl, rfl⟩) | (simp; done)))
noncomputable def orcCo (p : Int) (L : List Con) : CallF := orcB EV (callF EV noOrc 4) 111 2 [([0, 1, 0, 1, 1], coAnn p L)] noOrc
theorem orcCo_ok (p : Int) (L : List Con) (hL : okE L) : CallOk Tryz.prog EV.ng (orcCo p L) := orcB_ok evOk (callF_ok evOk (noOrc_ok _ _) 4) Tryz.func111 (one_ann (co_loop p L hL)) (noOrc_ok _ _)
theorem comps_pure (p : Int) (L : List Con) (hL : okE L) : PureC Tryz.prog [] 74 [.agg [.int .i64 p, roC L]] (roR .i64 (partsM L)) := by
  have rr := fun (tp : List Bool) (ms : List Prop) h hm => pure_run evOk (callF_ok evOk (orcCo_ok p L hL) 4) Tryz.func74 (A := [.agg [.int .i64 p, roC L]]) rfl none_ann rfl rfl evNg (tabs := []) (R := roR .i64 (partsM L)) (tp := tp) (ms := ms) h hm
  refine oe ((partsA L L.length).snd.isNone) (fun d1 => rr [true] [(partsM L).length = (0 : Nat), (↑L.length : Int) = ↑L.length, p = p, L.length = L.length ∧ (rws L) = (rws L), Dec (partsA L L.length).snd.isNone true] (by kernel_rfl) ⟨?_, ?_, ?_, ?_, d1⟩) (fun d1 => rr [false] [(partsFin L).length + (1 : Nat) = (partsM L).length ∧ (partsFin L).length + (1 : Nat) = (partsFin L).length + (1 : Nat) ∧ (partsLst L).length = (partsLst L).length ∧ ∀ (i : Nat), i < (partsFin L).length + (1 : Nat) → (fun i => [rI IntKind.i64 ((partsM L).getD i [])]) i = [rI IntKind.i64 ((partsFin L ++ [partsLst L]).getD i [])], (↑L.length : Int) = ↑L.length, p = p, L.length = L.length ∧ (rws L) = (rws L), Dec (partsA L L.length).snd.isNone false] (by kernel_rfl) ⟨?_, ?_, ?_, ?_, d1⟩)
  all_goals first | (first | rfl | exact ⟨rfl, rfl⟩ | (rw [parts_nil d1]; rfl) | (rw [parts_cons d1]; exact ⟨by simp, rfl, rfl, fun i _ => rfl⟩))
end Go.Proofs.YtgdhgnhgmbkpdaaGreatDoor.S

namespace Go.Proofs.YtgdhgnhgmbkpdaaGreatDoor.S
open Go.QfSy Go.RowKit
def idxN (a : Int) : List Int → Nat
  | [] => 0
  | x :: l => bif x == a then 0 else idxN a l + 1
def idxI (a : Int) (l : List Int) : Int := bif hasI a l then (idxN a l : Int) else -1
theorem idxN_drop {a : Int} {l : List Int} {t : Nat} (ht : t < l.length) : idxN a (l.drop t) = (bif l.getD t 0 == a then 0 else idxN a (l.drop (t + 1)) + 1) := by
  rw [drop_int ht]; rfl
noncomputable def ixAnn (l : List Int) (a : Int) : Ann := ⟨⟨[(0, (rI .i64 l).av), (1, .vint .i64 a), (7, .vint .i64 l.length), (8, .int .i64 0)], [], 1000⟩, some (hasI a l), fun d => match d with
  | true => (.ret, ⟨[(4, .vint .i64 (idxN a l : Int))], [], 1000⟩)
  | false => (.exit 0, ⟨[], [], 1000⟩)⟩
theorem ix_loop (l : List Int) (a : Int) (hn : l.length ≤ 1000) : AnnOk Tryz.prog EV.ng (Nat.max 2 Tryz.f196.ntmps) (bodyAt Tryz.f196 [0, 1, 0, 1]) (ixAnn l a) := by
  refine ann_of evOk (callF_ok evOk (noOrc_ok _ _) 8) none_ann (by kernel_rfl) (by kernel_rfl) (fun i : Nat => (fun (t : Nat) => (⟨[(0, (rI .i64 l).av), (1, .vint .i64 a), (7, .vint .i64 l.length), (8, .vint .i64 (t : Int))], [], 1000⟩ : St)) i) (fun i : Nat => (fun (t : Nat) => (l.length - t : Nat)) i) (fun (d : Bool) (i : Nat) => (fun (t : Nat) => (t ≤ l.length ∧ hasI a (l.drop t) = d ∧ t + idxN a (l.drop t) = idxN a l : Prop)) i) ?_ ?_
  · intro d hd
    exact ⟨(0), [l.length = l.length ∧ (fun j => [RV.int IntKind.i64 (l.getD j (0 : Int))]) = fun j => [RV.int IntKind.i64 (l.getD j (0 : Int))], a = a, (↑l.length : Int) = ↑l.length, (0 : Int) = (↑(0 : Nat) : Int)], by kernel_rfl, (by refine ⟨?_, ?_, ?_, (?_ : (0 : Int) = (↑(0 : Nat) : Int))⟩ <;> (first | rfl | assumption | omega | simp_all)), (by exact ⟨Nat.zero_le _, hd, Nat.zero_add _⟩)⟩
  · rintro d hd t hI
    cases d
    · -- d = false
      obtain ⟨ht, hs, hx⟩ := hI
      have ek : IntKind.i64.wrap ((t : Int) + 1) = ((t + 1 : Nat) : Int) := by rw [w64 (by omega) (by omega)]; omega
      refine oe (decide ((↑t : Int) < (↑l.length : Int))) (fun d1 => oe (a == l.getD t (0 : Int)) (fun d2 => CtG.no ?_) (fun d2 => ⟨[true, false], .inl ⟨(t + 1), [l.length = l.length ∧ (fun j => [RV.int IntKind.i64 (l.getD j (0 : Int))]) = fun j => [RV.int IntKind.i64 (l.getD j (0 : Int))], a = a, (↑l.length : Int) = ↑l.length, IntKind.i64.wrap ((↑t : Int) + 1) = (↑(t + (1 : Nat)) : Int), Dec (a == l.getD t (0 : Int)) false, (0 : Int) ≤ ↑t ∧ (↑t : Int) < ↑l.length, Dec (decide ((↑t : Int) < ↑l.length)) true], by kernel_rfl, ⟨?_, ?_, ?_, ?_, d2, ?_, d1⟩, MuG.out ?_, InG.out ?_⟩⟩)) (fun d1 => ⟨[false], .inr ⟨[Dec (decide ((↑t : Int) < (↑l.length : Int))) false], by kernel_rfl, d1, rfl⟩⟩)
      all_goals first | (refine MuG.mk ?_; (simp only [decide_eq_true_eq] at *; show l.length - (t + 1) < l.length - t; omega)) | (refine InG.mk ?_; (simp only [decide_eq_true_eq, Int.toNat_natCast] at *; have d3 : (l.getD t 0 == a) = false := (by rw [beq_eq_false_iff_ne] at d2 ⊢; exact fun h => d2 h.symm); rw [hasI_drop (by omega), d3] at hs; rw [idxN_drop (by omega), d3] at hx; simp only [cond_false] at hx; exact ⟨by omega, hs, by omega⟩)) | (refine CtG.mk ?_; (simp only [decide_eq_true_eq, decide_eq_false_iff_not, Int.toNat_natCast] at *; first | (rw [List.drop_eq_nil_of_le (by omega)] at hs; cases hs; done) | (rw [beq_iff_eq] at d2; rw [hasI_drop (by omega), ← d2, beq_self_eq_true] at hs; cases hs; done))) | (first | (with_reducible rfl) | exact ⟨rfl, rfl⟩ | ((try simp only [ek, Int.toNat_natCast, decide_eq_true_eq, decide_eq_false_iff_not, beq_iff_eq] at *) <;> first | omega | (rw [idxN_drop (by omega), d2.symm, beq_self_eq_true] at hx; simp only [cond_true] at hx; omega) | exact ⟨rfl, rfl⟩))
    · -- d = true
      obtain ⟨ht, hs, hx⟩ := hI
      have ek : IntKind.i64.wrap ((t : Int) + 1) = ((t + 1 : Nat) : Int) := by rw [w64 (by omega) (by omega)]; omega
      refine oe (decide ((↑t : Int) < ↑l.length)) (fun d1 => oe (a == l.getD t (0 : Int)) (fun d2 => ⟨[true, true], .inr ⟨[(↑t : Int) = (↑(idxN a l) : Int), Dec (a == l.getD t (0 : Int)) true, (0 : Int) ≤ ↑t ∧ (↑t : Int) < ↑l.length, Dec (decide ((↑t : Int) < ↑l.length)) true], by kernel_rfl, ⟨?_, d2, ?_, d1⟩, rfl⟩⟩) (fun d2 => ⟨[true, false], .inl ⟨(t + 1), [l.length = l.length ∧ (fun j => [RV.int IntKind.i64 (l.getD j (0 : Int))]) = fun j => [RV.int IntKind.i64 (l.getD j (0 : Int))], a = a, (↑l.length : Int) = ↑l.length, IntKind.i64.wrap ((↑t : Int) + 1) = (↑(t + (1 : Nat)) : Int), Dec (a == l.getD t (0 : Int)) false, (0 : Int) ≤ ↑t ∧ (↑t : Int) < ↑l.length, Dec (decide ((↑t : Int) < ↑l.length)) true], by kernel_rfl, ⟨?_, ?_, ?_, ?_, d2, ?_, d1⟩, MuG.out ?_, InG.out ?_⟩⟩)) (fun d1 => CtG.no ?_)
      all_goals first | (refine MuG.mk ?_; (simp only [decide_eq_true_eq] at *; show l.length - (t + 1) < l.length - t; omega)) | (refine InG.mk ?_; (simp only [decide_eq_true_eq, Int.toNat_natCast] at *; have d3 : (l.getD t 0 == a) = false := (by rw [beq_eq_false_iff_ne] at d2 ⊢; exact fun h => d2 h.symm); rw [hasI_drop (by omega), d3] at hs; rw [idxN_drop (by omega), d3] at hx; simp only [cond_false] at hx; exact ⟨by omega, hs, by omega⟩)) | (refine CtG.mk ?_; (simp only [decide_eq_true_eq, decide_eq_false_iff_not, Int.toNat_natCast] at *; first | (rw [List.drop_eq_nil_of_le (by omega)] at hs; cases hs; done) | (rw [beq_iff_eq] at d2; rw [hasI_drop (by omega), ← d2, beq_self_eq_true] at hs; cases hs; done))) | (first | (with_reducible rfl) | exact ⟨rfl, rfl⟩ | ((try simp only [ek, Int.toNat_natCast, decide_eq_true_eq, decide_eq_false_iff_not, beq_iff_eq] at *) <;> first | omega | (rw [idxN_drop (by omega), d2.symm, beq_self_eq_true] at hx; simp only [cond_true] at hx; omega) | exact ⟨rfl, rfl⟩))
theorem index_pure (l : List Int) (a : Int) (hn : l.length ≤ 1000) : PureC Tryz.prog [] 196 [rI .i64 l, .int .i64 a] (.int .i64 (idxI a l)) := by
  have rr := fun (tp : List Bool) (ms : List Prop) h hm => pure_run evOk (callF_ok evOk (noOrc_ok _ _) 8) Tryz.func196 (A := [rI .i64 l, .int .i64 a]) (N := Nat.max 1 Tryz.f196.ntmps) rfl (one_ann (ix_loop l a hn)) rfl rfl evNg (tabs := []) (R := .int .i64 (idxI a l)) (tp := tp) (ms := ms) h hm
  refine oe (hasI a l) (fun d1 => rr [true] [(↑(idxN a l) : Int) = idxI a l, l.length = l.length ∧ (fun j => [RV.int IntKind.i64 (l.getD j (0 : Int))]) = fun j => [RV.int IntKind.i64 (l.getD j (0 : Int))], a = a, (↑l.length : Int) = ↑l.length, Dec (hasI a l) true] (by kernel_rfl) ⟨?_, ?_, ?_, ?_, d1⟩) (fun d1 => rr [false] [(-1 : Int) = idxI a l, l.length = l.length ∧ (fun j => [RV.int IntKind.i64 (l.getD j (0 : Int))]) = fun j => [RV.int IntKind.i64 (l.getD j (0 : Int))], a = a, (↑l.length : Int) = (↑l.length : Int), Dec (hasI a l) false] (by kernel_rfl) ⟨?_, ?_, ?_, ?_, d1⟩)
  all_goals first | (first | (with_reducible rfl) | exact ⟨rfl, rfl⟩ | (unfold idxI; rw [d1]; rfl))
noncomputable def entsVI : List OEnt := [
  ⟨196, [], fun A => match A with
    | [.sl m 1 row', .int .i64 a] => some (.int .i64 (idxI a (intsR m row')), [(∀ i, i < m → row' i = [.int .i64 (intR (row' i))]) ∧ m ≤ 1000])
    | _ => none⟩]
theorem entsVI_ok : ∀ e ∈ entsVI, EntOk Tryz.prog e := by
  intro e he
  simp only [entsVI, List.mem_cons, List.not_mem_nil, or_false] at he
  rcases he with rfl
  intro A R ms h hm
  simp only at h
  split at h
  all_goals first | (cases h; done) | cases h
  obtain ⟨h1, h2⟩ := all_one hm
  exact PureC.imp (index_pure _ _ (by rw [intsR_len]; exact h2)) (.cons (.ints h1) (.cons .same .nil))
theorem idx_ge (a : Int) (l : List Int) : decide (idxI a l ≥ 0) = hasI a l := by
  unfold idxI
  cases hasI a l
  · rfl
  · simp only [cond_true, decide_eq_true_eq]; omega
theorem contains_pure (l : List Int) (a : Int) (hn : l.length ≤ 1000) : PureC Tryz.prog [] 180 [rI .i64 l, .int .i64 a] (.bool (hasI a l)) := by
  have rr := fun (tp : List Bool) (ms : List Prop) h hm => pure_run evOk (callF_ok evOk (orcOf_ok entsVI_ok) 8) Tryz.func180 (A := [rI .i64 l, .int .i64 a]) rfl none_ann rfl rfl evNg (tabs := []) (R := .bool (hasI a l)) (tp := tp) (ms := ms) h hm
  refine rr [] [decide (idxI a (intsR l.length fun j => [RV.int IntKind.i64 (l.getD j (0 : Int))]) ≥ 0) = hasI a l, (∀ (i : Nat), i < l.length → (fun j => [RV.int IntKind.i64 (l.getD j (0 : Int))]) i = [RV.int IntKind.i64 (intR ((fun j => [RV.int IntKind.i64 (l.getD j (0 : Int))]) i))]) ∧ l.length ≤ (1000 : Nat)] (by kernel_rfl) ⟨?_, (?_ : (∀ (i : Nat), i < l.length → (fun j => [RV.int IntKind.i64 (l.getD j (0 : Int))]) i = [RV.int IntKind.i64 (intR ((fun j => [RV.int IntKind.i64 (l.getD j (0 : Int))]) i))]) ∧ l.length ≤ (1000 : Nat))⟩
  all_goals first | (first | (with_reducible rfl) | exact ⟨fun _ _ => rfl, hn⟩ | (rw [intsR_ro]; exact idx_ge a l))
noncomputable def entsVC : List OEnt := [
  ⟨180, [], fun A => match A with
    | [.sl m 1 row', .int .i64 a] => some (.bool (hasI a (intsR m row')), [(∀ i, i < m → row' i = [.int .i64 (intR (row' i))]) ∧ m ≤ 1000])
    | _ => none⟩,
  ⟨74, [], fun A => match A with
    | [.agg [.int .i64 p, .sl n 5 row]] => some (roR .i64 (partsM (consR n row)), [(∀ i, i < n → row i = (Con.ofR (row i)).rvs) ∧ okE (consR n row)])
    | _ => none⟩]
theorem entsVC_ok : ∀ e ∈ entsVC, EntOk Tryz.prog e := by
  intro e he
  simp only [entsVC, List.mem_cons, List.not_mem_nil, or_false] at he
  rcases he with rfl | rfl
  all_goals
    intro A R ms h hm
    simp only at h
    split at h
    all_goals first | (cases h; done) | cases h
  · obtain ⟨h1, h2⟩ := all_one hm
    exact PureC.imp (contains_pure _ _ (by rw [intsR_len]; exact h2)) (.cons (.ints h1) (.cons .same .nil))
  · obtain ⟨h1, h2⟩ := all_one hm
    exact PureC.imp (comps_pure _ _ h2) (.cons (.agg (.cons .same (.cons (.con h1) .nil))) .nil)
noncomputable def tcAnn (P : List (List Int)) (a : Int) : Ann := ⟨⟨[(1, .vint .i64 a), (8, (roR .i64 P).av), (9, .vint .i64 P.length), (10, .int .i64 0)], [], 1010⟩, some (anyR a P), fun d => match d with
  | true => (.ret, ⟨[(4, (rI .i64 (findR a P)).av)], [], 1010⟩)
  | false => (.exit 0, ⟨[], [], 1010⟩)⟩
theorem tc_loop (P : List (List Int)) (a : Int) (hn : ∀ l ∈ P, l.length ≤ 1000) (hm : P.length ≤ 1000) : AnnOk Tryz.prog EV.ng (Nat.max 2 Tryz.f179.ntmps) (bodyAt Tryz.f179 [0, 1, 0, 1]) (tcAnn P a) := by
  refine ann_of evOk (callF_ok evOk (orcOf_ok entsVC_ok) 8) none_ann (by kernel_rfl) (by kernel_rfl) (fun i : Nat => (fun (j : Nat) => (⟨[(1, .vint .i64 a), (8, (roR .i64 P).av), (9, .vint .i64 P.length), (10, .vint .i64 (j : Int))], [], 1010⟩ : St)) i) (fun i : Nat => (fun (j : Nat) => (P.length - j : Nat)) i) (fun (d : Bool) (i : Nat) => (fun (j : Nat) => (j ≤ P.length ∧ anyR a (P.drop j) = d ∧ findR a (P.drop j) = findR a P : Prop)) i) ?_ ?_
  · intro d hd
    exact ⟨(0), [a = a, P.length = P.length ∧ (fun i => [rI IntKind.i64 (P.getD i [])]) = fun i => [rI IntKind.i64 (P.getD i [])], (↑P.length : Int) = ↑P.length, (0 : Int) = (↑(0 : Nat) : Int)], by kernel_rfl, (by refine ⟨?_, ?_, ?_, (?_ : (0 : Int) = (↑(0 : Nat) : Int))⟩ <;> (first | rfl | assumption | omega | simp_all)), (by exact ⟨Nat.zero_le _, hd, rfl⟩)⟩
  · rintro d hd j hI
    cases d
    · -- d = false
      obtain ⟨ht, hs, hf⟩ := hI
      have ek : IntKind.i64.wrap ((j : Int) + 1) = ((j + 1 : Nat) : Int) := by rw [w64 (by omega) (by omega)]; omega
      refine oe (decide ((↑j : Int) < (↑P.length : Int))) (fun d1 => oe (hasI a (intsR (P.getD j []).length fun j_1 => [RV.int IntKind.i64 ((P.getD j []).getD j_1 (0 : Int))])) (fun d2 => CtG.no ?_) (fun d2 => ⟨[true, false], .inl ⟨(j + 1), [a = a, P.length = P.length ∧ (fun i => [rI IntKind.i64 (P.getD i [])]) = fun i => [rI IntKind.i64 (P.getD i [])], (↑P.length : Int) = ↑P.length, IntKind.i64.wrap ((↑j : Int) + 1) = (↑(j + (1 : Nat)) : Int), Dec (hasI a (intsR (P.getD j []).length fun j_1 => [RV.int IntKind.i64 ((P.getD j []).getD j_1 (0 : Int))])) false, (∀ (i : Nat), i < (P.getD j []).length → (fun j_1 => [RV.int IntKind.i64 ((P.getD j []).getD j_1 (0 : Int))]) i = [RV.int IntKind.i64 (intR ((fun j_1 => [RV.int IntKind.i64 ((P.getD j []).getD j_1 (0 : Int))]) i))]) ∧ (P.getD j []).length ≤ (1000 : Nat), (0 : Int) ≤ ↑j ∧ (↑j : Int) < ↑P.length, Dec (decide ((↑j : Int) < ↑P.length)) true], by kernel_rfl, ⟨?_, ?_, ?_, ?_, d2, ?_, ?_, d1⟩, MuG.out ?_, InG.out ?_⟩⟩)) (fun d1 => ⟨[false], .inr ⟨[Dec (decide ((↑j : Int) < (↑P.length : Int))) false], by kernel_rfl, d1, rfl⟩⟩)
      all_goals first | (refine MuG.mk ?_; (simp only [decide_eq_true_eq] at *; show P.length - (j + 1) < P.length - j; omega)) | (refine InG.mk ?_; (simp only [decide_eq_true_eq, intsR_ro, Int.toNat_natCast] at *; rw [anyR_drop (by omega), d2] at hs; rw [findR_drop (by omega), d2] at hf; exact ⟨by omega, hs, hf⟩)) | (refine CtG.mk ?_; (simp only [decide_eq_true_eq, decide_eq_false_iff_not, intsR_ro, Int.toNat_natCast] at *; first | (rw [List.drop_eq_nil_of_le (by omega)] at hs; cases hs; done) | (rw [anyR_drop (by omega), d2] at hs; cases hs; done))) | (first | (with_reducible rfl) | exact ⟨rfl, rfl⟩ | ((try simp only [ek, intsR_ro, Int.toNat_natCast, decide_eq_true_eq, decide_eq_false_iff_not] at *) <;> first | omega | exact ⟨fun _ _ => rfl, hn _ (rowAt_mem (by omega))⟩ | (rw [← hf, findR_drop (by omega), d2]; exact ⟨rfl, rfl⟩)))
    · -- d = true
      obtain ⟨ht, hs, hf⟩ := hI
      have ek : IntKind.i64.wrap ((j : Int) + 1) = ((j + 1 : Nat) : Int) := by rw [w64 (by omega) (by omega)]; omega
      refine oe (decide ((↑j : Int) < ↑P.length)) (fun d1 => oe (hasI a (intsR (P.getD j []).length fun j_1 => [RV.int IntKind.i64 ((P.getD j []).getD j_1 (0 : Int))])) (fun d2 => ⟨[true, true], .inr ⟨[(P.getD j []).length = (findR a P).length ∧ (fun j_1 => [RV.int IntKind.i64 ((P.getD j []).getD j_1 (0 : Int))]) = fun j => [RV.int IntKind.i64 ((findR a P).getD j (0 : Int))], Dec (hasI a (intsR (P.getD j []).length fun j_1 => [RV.int IntKind.i64 ((P.getD j []).getD j_1 (0 : Int))])) true, (∀ (i : Nat), i < (P.getD j []).length → (fun j_1 => [RV.int IntKind.i64 ((P.getD j []).getD j_1 (0 : Int))]) i = [RV.int IntKind.i64 (intR ((fun j_1 => [RV.int IntKind.i64 ((P.getD j []).getD j_1 (0 : Int))]) i))]) ∧ (P.getD j []).length ≤ (1000 : Nat), (0 : Int) ≤ ↑j ∧ (↑j : Int) < ↑P.length, Dec (decide ((↑j : Int) < ↑P.length)) true], by kernel_rfl, ⟨?_, d2, ?_, ?_, d1⟩, rfl⟩⟩) (fun d2 => ⟨[true, false], .inl ⟨(j + 1), [a = a, P.length = P.length ∧ (fun i => [rI IntKind.i64 (P.getD i [])]) = fun i => [rI IntKind.i64 (P.getD i [])], (↑P.length : Int) = ↑P.length, IntKind.i64.wrap ((↑j : Int) + 1) = (↑(j + (1 : Nat)) : Int), Dec (hasI a (intsR (P.getD j []).length fun j_1 => [RV.int IntKind.i64 ((P.getD j []).getD j_1 (0 : Int))])) false, (∀ (i : Nat), i < (P.getD j []).length → (fun j_1 => [RV.int IntKind.i64 ((P.getD j []).getD j_1 (0 : Int))]) i = [RV.int IntKind.i64 (intR ((fun j_1 => [RV.int IntKind.i64 ((P.getD j []).getD j_1 (0 : Int))]) i))]) ∧ (P.getD j []).length ≤ (1000 : Nat), (0 : Int) ≤ ↑j ∧ (↑j : Int) < ↑P.length, Dec (decide ((↑j : Int) < ↑P.length)) true], by kernel_rfl, ⟨?_, ?_, ?_, ?_, d2, ?_, ?_, d1⟩, MuG.out ?_, InG.out ?_⟩⟩)) (fun d1 => CtG.no ?_)
      all_goals first | (refine MuG.mk ?_; (simp only [decide_eq_true_eq] at *; show P.length - (j + 1) < P.length - j; omega)) | (refine InG.mk ?_; (simp only [decide_eq_true_eq, intsR_ro, Int.toNat_natCast] at *; rw [anyR_drop (by omega), d2] at hs; rw [findR_drop (by omega), d2] at hf; exact ⟨by omega, hs, hf⟩)) | (refine CtG.mk ?_; (simp only [decide_eq_true_eq, decide_eq_false_iff_not, intsR_ro, Int.toNat_natCast] at *; first | (rw [List.drop_eq_nil_of_le (by omega)] at hs; cases hs; done) | (rw [anyR_drop (by omega), d2] at hs; cases hs; done))) | (first | (with_reducible rfl) | exact ⟨rfl, rfl⟩ | ((try simp only [ek, intsR_ro, Int.toNat_natCast, decide_eq_true_eq, decide_eq_false_iff_not] at *) <;> first | omega | exact ⟨fun _ _ => rfl, hn _ (rowAt_mem (by omega))⟩ | (rw [← hf, findR_drop (by omega), d2]; exact ⟨rfl, rfl⟩)))
theorem comp_pure (p : Int) (L : List Con) (a : Int) (hL : okE L) : PureC Tryz.prog [] 179 [.agg [.int .i64 p, roC L], .int .i64 a] (rI .i64 (partM L a)) := by
  have rr := fun (tp : List Bool) (ms : List Prop) h hm => pure_run evOk (callF_ok evOk (orcOf_ok entsVC_ok) 8) Tryz.func179 (A := [.agg [.int .i64 p, roC L], .int .i64 a]) (N := Nat.max 1 Tryz.f179.ntmps) rfl (one_ann (tc_loop (partsM L) a (fun l hl => Nat.le_trans (parts_rows l hl).2.2 hL.1) (Nat.le_trans parts_len hL.1))) rfl rfl evNg (tabs := []) (R := rI .i64 (partM L a)) (tp := tp) (ms := ms) h hm
  refine oe (anyR a (partsM L)) (fun d1 => rr [true] [(findR a (partsM L)).length = (partM L a).length ∧ (fun j => [RV.int IntKind.i64 ((findR a (partsM L)).getD j (0 : Int))]) = fun j => [RV.int IntKind.i64 ((partM L a).getD j (0 : Int))], a = a, (partsM (consR L.length (rws L))).length = (partsM L).length ∧ (fun i => [rI IntKind.i64 ((partsM (consR L.length (rws L))).getD i [])]) = fun i => [rI IntKind.i64 ((partsM L).getD i [])], (↑(partsM (consR L.length (rws L))).length : Int) = (↑(partsM L).length : Int), Dec (anyR a (partsM L)) true, (∀ (i : Nat), i < L.length → (rws L) i = (Con.ofR ((rws L) i)).rvs) ∧ okE (consR L.length (rws L))] (by kernel_rfl) ⟨?_, ?_, ?_, ?_, d1, (?_ : (∀ (i : Nat), i < L.length → (rws L) i = (Con.ofR ((rws L) i)).rvs) ∧ okE (consR L.length (rws L)))⟩) (fun d1 => rr [false] [(partM L a).length = (0 : Nat), a = a, (partsM (consR L.length (rws L))).length = (partsM L).length ∧ (fun i => [rI IntKind.i64 ((partsM (consR L.length (rws L))).getD i [])]) = fun i => [rI IntKind.i64 ((partsM L).getD i [])], (↑(partsM (consR L.length (rws L))).length : Int) = (↑(partsM L).length : Int), Dec (anyR a (partsM L)) false, (∀ (i : Nat), i < L.length → (rws L) i = (Con.ofR ((rws L) i)).rvs) ∧ okE (consR L.length (rws L))] (by kernel_rfl) ⟨?_, ?_, ?_, ?_, d1, (?_ : (∀ (i : Nat), i < L.length → (rws L) i = (Con.ofR ((rws L) i)).rvs) ∧ okE (consR L.length (rws L)))⟩)
  all_goals first | (first | rfl | exact ⟨rfl, rfl⟩ | ((try simp only [consR_ro] at *) <;> first | rfl | trivial | exact ⟨rfl, rfl⟩ | exact ⟨trivial, trivial⟩ | exact ⟨fun _ _ => rfl, hL⟩ | (show (findR a (partsM L)).length = 0; rw [findR_none d1]; rfl)))
theorem bad_no {L : List Con} {l : List Int} (h : ¬ l.length = 2) : (true : Bool) = !badM L l := by unfold badM; simp [h]
theorem bad_yes {L : List Con} {l : List Int} (hL : okL L) (hl : inR L.length l) (h : l.length = 2) : (!badM L l) = (!((at_ L (l.getD 0 0).toNat).dim == 1) || (!((at_ L (l.getD 1 0).toNat).dim == 1) || !((IntKind.i64.wrap ((at_ L (l.getD 0 0).toNat).oddity + (at_ L (l.getD 1 0).toNat).oddity)).tmod 4 == 0))) := by
  match l, h, hl with
  | [a, b], _, hl =>
    have ha := hl a (by simp)
    have hb := hl b (by simp)
    have h1 := (hL.at (k := a.toNat) (by omega)).2.2.2
    have h2 := (hL.at (k := b.toNat) (by omega)).2.2.2
    simp only [List.getD_cons_zero, List.getD_cons_succ]
    rw [w64 (by omega) (by omega), Int.tmod_eq_emod_of_nonneg (by omega)]
    unfold badM totM
    simp only [List.length_cons, List.length_nil, decide_true, Bool.true_and, List.getD_cons_zero, List.getD_cons_succ, sumO, Bool.not_and]
    rw [show ((at_ L a.toNat).oddity + ((at_ L b.toNat).oddity + 0)) % 8 % 4 = ((at_ L a.toNat).oddity + (at_ L b.toNat).oddity) % 4 by omega]
theorem good_pure (p : Int) (L : List Con) (l : List Int) (hL : okL L) (hl : inR L.length l) (hn : l.length ≤ 1000) : PureC Tryz.prog [] 178 [.agg [.int .i64 p, roC L], rI .i64 l] (.bool (!badM L l)) := by
  have rr := fun (tp : List Bool) (ms : List Prop) h hm => pure_run evOk (callF_ok evOk (noOrc_ok _ _) 8) Tryz.func178 (A := [.agg [.int .i64 p, roC L], rI .i64 l]) rfl none_ann rfl rfl evNg (tabs := []) (R := .bool (!badM L l)) (tp := tp) (ms := ms) h hm
  refine oe ((↑l.length : Int) == 2) (fun d1 => oe ((L.getD (l.getD (Int.toNat (0 : Int)) (0 : Int)).toNat Con.zero).dim == 1) (fun d2 => oe ((L.getD (l.getD (Int.toNat (1 : Int)) (0 : Int)).toNat Con.zero).dim == 1) (fun d3 => rr [false, false, false] [((IntKind.i64.wrap ((L.getD (l.getD (Int.toNat (0 : Int)) (0 : Int)).toNat Con.zero).oddity + (L.getD (l.getD (Int.toNat (1 : Int)) (0 : Int)).toNat Con.zero).oddity)).tmod (4 : Int) != (0 : Int)) = !badM L l, (4 : Int) ≠ (0 : Int), Dec ((L.getD (l.getD (Int.toNat (1 : Int)) (0 : Int)).toNat Con.zero).dim != (1 : Int)) false, Dec ((L.getD (l.getD (Int.toNat (0 : Int)) (0 : Int)).toNat Con.zero).dim != (1 : Int)) false, (L.getD (l.getD (Int.toNat (1 : Int)) (0 : Int)).toNat Con.zero).exp = (L.getD (l.getD (Int.toNat (1 : Int)) (0 : Int)).toNat Con.zero).exp, (L.getD (l.getD (Int.toNat (1 : Int)) (0 : Int)).toNat Con.zero).dim = (L.getD (l.getD (Int.toNat (1 : Int)) (0 : Int)).toNat Con.zero).dim, (L.getD (l.getD (Int.toNat (1 : Int)) (0 : Int)).toNat Con.zero).sign = (L.getD (l.getD (Int.toNat (1 : Int)) (0 : Int)).toNat Con.zero).sign, (L.getD (l.getD (Int.toNat (1 : Int)) (0 : Int)).toNat Con.zero).odd = (L.getD (l.getD (Int.toNat (1 : Int)) (0 : Int)).toNat Con.zero).odd, (L.getD (l.getD (Int.toNat (1 : Int)) (0 : Int)).toNat Con.zero).oddity = (L.getD (l.getD (Int.toNat (1 : Int)) (0 : Int)).toNat Con.zero).oddity, l.getD (Int.toNat (1 : Int)) (0 : Int) = l.getD (Int.toNat (1 : Int)) (0 : Int), L.length = L.length ∧ (rws L) = (rws L), (0 : Int) ≤ l.getD (Int.toNat (1 : Int)) (0 : Int) ∧ l.getD (Int.toNat (1 : Int)) (0 : Int) < ↑L.length, (0 : Int) ≤ 1 ∧ (1 : Int) < ↑l.length, (0 : Int) ≤ l.getD (Int.toNat (0 : Int)) (0 : Int) ∧ l.getD (Int.toNat (0 : Int)) (0 : Int) < ↑L.length, (0 : Int) ≤ 0 ∧ (0 : Int) < ↑l.length, Dec ((↑l.length : Int) != (2 : Int)) false] (by kernel_rfl) ⟨?_, ?_, (dN d3), (dN d2), ?_, ?_, ?_, ?_, ?_, ?_, ?_, ?_, ?_, ?_, ?_, (dN d1)⟩) (fun d3 => rr [false, false, true] [true = !badM L l, Dec ((L.getD (l.getD (Int.toNat (1 : Int)) (0 : Int)).toNat Con.zero).dim != (1 : Int)) true, Dec ((L.getD (l.getD (Int.toNat (0 : Int)) (0 : Int)).toNat Con.zero).dim != (1 : Int)) false, (L.getD (l.getD (Int.toNat (1 : Int)) (0 : Int)).toNat Con.zero).exp = (L.getD (l.getD (Int.toNat (1 : Int)) (0 : Int)).toNat Con.zero).exp, (L.getD (l.getD (Int.toNat (1 : Int)) (0 : Int)).toNat Con.zero).dim = (L.getD (l.getD (Int.toNat (1 : Int)) (0 : Int)).toNat Con.zero).dim, (L.getD (l.getD (Int.toNat (1 : Int)) (0 : Int)).toNat Con.zero).sign = (L.getD (l.getD (Int.toNat (1 : Int)) (0 : Int)).toNat Con.zero).sign, (L.getD (l.getD (Int.toNat (1 : Int)) (0 : Int)).toNat Con.zero).odd = (L.getD (l.getD (Int.toNat (1 : Int)) (0 : Int)).toNat Con.zero).odd, (L.getD (l.getD (Int.toNat (1 : Int)) (0 : Int)).toNat Con.zero).oddity = (L.getD (l.getD (Int.toNat (1 : Int)) (0 : Int)).toNat Con.zero).oddity, l.getD (Int.toNat (1 : Int)) (0 : Int) = l.getD (Int.toNat (1 : Int)) (0 : Int), L.length = L.length ∧ (rws L) = (rws L), (0 : Int) ≤ l.getD (Int.toNat (1 : Int)) (0 : Int) ∧ l.getD (Int.toNat (1 : Int)) (0 : Int) < ↑L.length, (0 : Int) ≤ 1 ∧ (1 : Int) < ↑l.length, (0 : Int) ≤ l.getD (Int.toNat (0 : Int)) (0 : Int) ∧ l.getD (Int.toNat (0 : Int)) (0 : Int) < ↑L.length, (0 : Int) ≤ 0 ∧ (0 : Int) < ↑l.length, Dec ((↑l.length : Int) != (2 : Int)) false] (by kernel_rfl) ⟨?_, (dN d3), (dN d2), ?_, ?_, ?_, ?_, ?_, ?_, ?_, ?_, ?_, ?_, ?_, (dN d1)⟩)) (fun d2 => rr [false, true] [true = !badM L l, Dec ((L.getD (l.getD (Int.toNat (0 : Int)) (0 : Int)).toNat Con.zero).dim != (1 : Int)) true, (L.getD (l.getD (Int.toNat (1 : Int)) (0 : Int)).toNat Con.zero).exp = (L.getD (l.getD (Int.toNat (1 : Int)) (0 : Int)).toNat Con.zero).exp, (L.getD (l.getD (Int.toNat (1 : Int)) (0 : Int)).toNat Con.zero).dim = (L.getD (l.getD (Int.toNat (1 : Int)) (0 : Int)).toNat Con.zero).dim, (L.getD (l.getD (Int.toNat (1 : Int)) (0 : Int)).toNat Con.zero).sign = (L.getD (l.getD (Int.toNat (1 : Int)) (0 : Int)).toNat Con.zero).sign, (L.getD (l.getD (Int.toNat (1 : Int)) (0 : Int)).toNat Con.zero).odd = (L.getD (l.getD (Int.toNat (1 : Int)) (0 : Int)).toNat Con.zero).odd, (L.getD (l.getD (Int.toNat (1 : Int)) (0 : Int)).toNat Con.zero).oddity = (L.getD (l.getD (Int.toNat (1 : Int)) (0 : Int)).toNat Con.zero).oddity, l.getD (Int.toNat (1 : Int)) (0 : Int) = l.getD (Int.toNat (1 : Int)) (0 : Int), L.length = L.length ∧ (rws L) = (rws L), (0 : Int) ≤ l.getD (Int.toNat (1 : Int)) (0 : Int) ∧ l.getD (Int.toNat (1 : Int)) (0 : Int) < ↑L.length, (0 : Int) ≤ 1 ∧ (1 : Int) < ↑l.length, (0 : Int) ≤ l.getD (Int.toNat (0 : Int)) (0 : Int) ∧ l.getD (Int.toNat (0 : Int)) (0 : Int) < ↑L.length, (0 : Int) ≤ 0 ∧ (0 : Int) < ↑l.length, Dec ((↑l.length : Int) != (2 : Int)) false] (by kernel_rfl) ⟨?_, (dN d2), ?_, ?_, ?_, ?_, ?_, ?_, ?_, ?_, ?_, ?_, ?_, (dN d1)⟩)) (fun d1 => rr [true] [true = !badM L l, Dec ((↑l.length : Int) != (2 : Int)) true] (by kernel_rfl) ⟨?_, (dN d1)⟩)
  all_goals first | (first | (with_reducible rfl) | exact ⟨rfl, rfl⟩ | decide | (simp only [Int.toNat_zero, show (1 : Int).toNat = 1 from rfl, beq_iff_eq, beq_eq_false_iff_ne, ne_eq] at * <;> first | omega | (have h0 := hl.at (t := 0) (by omega); exact h0) | (have h0 := hl.at (t := 1) (by omega); exact h0) | exact bad_no (by omega) | (rw [bad_yes hL hl (by omega)]; simp_all [at_, bne]; done)))
noncomputable def entsVG : List OEnt := [
  ⟨179, [], fun A => match A with
    | [.agg [.int .i64 p, .sl n 5 row], .int .i64 a] => some (rI .i64 (partM (consR n row) a), [(∀ i, i < n → row i = (Con.ofR (row i)).rvs) ∧ okE (consR n row)])
    | _ => none⟩,
  ⟨178, [], fun A => match A with
    | [.agg [.int .i64 p, .sl n 5 row], .sl m 1 row'] => some (.bool (!badM (consR n row) (intsR m row')), [(∀ i, i < n → row i = (Con.ofR (row i)).rvs) ∧ (∀ i, i < m → row' i = [.int .i64 (intR (row' i))]) ∧ okL (consR n row) ∧ inR (consR n row).length (intsR m row') ∧ m ≤ 1000])
    | _ => none⟩]
theorem entsVG_ok : ∀ e ∈ entsVG, EntOk Tryz.prog e := by
  intro e he
  simp only [entsVG, List.mem_cons, List.not_mem_nil, or_false] at he
  rcases he with rfl | rfl
  all_goals
    intro A R ms h hm
    simp only at h
    split at h
    all_goals first | (cases h; done) | cases h
  · obtain ⟨h1, h2⟩ := all_one hm
    exact PureC.imp (comp_pure _ _ _ h2) (.cons (.agg (.cons .same (.cons (.con h1) .nil))) (.cons .same .nil))
  · obtain ⟨h1, h2, h3, h4, h5⟩ := all_one hm
    exact PureC.imp (good_pure _ _ _ h3 h4 (by rw [intsR_len]; exact h5)) (.cons (.agg (.cons .same (.cons (.con h1) .nil))) (.cons (.ints h2) .nil))
theorem tlinked_pure (p : Int) (L : List Con) (k : Nat) (hL : okL L) (h1 : 1 ≤ k) (h2 : k < L.length) : PureC Tryz.prog [] 149 [.agg [.int .i64 p, roC L], .int .i64 (k : Int)] (.bool (linkM L k)) := by
  have hl := hL.1; have a1 := hL.e.at' k; have a2 := hL.e.at' (k - 1); have em : IntKind.i64.wrap ((k : Int) - 1) = (k : Int) - 1 := w64 (by omega) (by omega); have et : ((k : Int) - 1).toNat = k - 1 := (by omega); have ed : IntKind.i64.wrap ((at_ L k).exp - (at_ L (k - 1)).exp) = (at_ L k).exp - (at_ L (k - 1)).exp := w64 (by omega) (by omega); have hp := partM_ok (L := L) (i := (k : Int))
  have rr := fun (tp : List Bool) (ms : List Prop) h hm => pure_run evOk (callF_ok evOk (orcOf_ok entsVG_ok) 8) Tryz.func149 (A := [.agg [.int .i64 p, roC L], .int .i64 (k : Int)]) rfl none_ann rfl rfl evNg (tabs := []) (R := .bool (linkM L k)) (tp := tp) (ms := ms) h hm
  refine oe (IntKind.i64.wrap ((L.getD k Con.zero).exp - (L.getD (IntKind.i64.wrap ((↑k : Int) - 1)).toNat Con.zero).exp) == 1) (fun d1 => oe ((L.getD (IntKind.i64.wrap ((↑k : Int) - 1)).toNat Con.zero).odd) (fun d2 => oe ((L.getD k Con.zero).odd) (fun d3 => rr [true, true, true] [(!badM (consR L.length (rws L)) (intsR (partM (consR L.length (rws L)) (↑k : Int)).length fun j => [RV.int IntKind.i64 ((partM (consR L.length (rws L)) (↑k : Int)).getD j (0 : Int))])) = linkM L k, (∀ (i : Nat), i < L.length → (rws L) i = (Con.ofR ((rws L) i)).rvs) ∧ (∀ (i : Nat), i < (partM (consR L.length (rws L)) (↑k : Int)).length → (fun j => [RV.int IntKind.i64 ((partM (consR L.length (rws L)) (↑k : Int)).getD j (0 : Int))]) i = [RV.int IntKind.i64 (intR ((fun j => [RV.int IntKind.i64 ((partM (consR L.length (rws L)) (↑k : Int)).getD j (0 : Int))]) i))]) ∧ okL (consR L.length (rws L)) ∧ inR (consR L.length (rws L)).length (intsR (partM (consR L.length (rws L)) (↑k : Int)).length fun j => [RV.int IntKind.i64 ((partM (consR L.length (rws L)) (↑k : Int)).getD j (0 : Int))]) ∧ (partM (consR L.length (rws L)) (↑k : Int)).length ≤ (1000 : Nat), p = p, L.length = L.length ∧ (rws L) = (rws L), (∀ (i : Nat), i < L.length → (rws L) i = (Con.ofR ((rws L) i)).rvs) ∧ okE (consR L.length (rws L)), Dec (L.getD k Con.zero).odd true, Dec (L.getD (IntKind.i64.wrap ((↑k : Int) - 1)).toNat Con.zero).odd true, Dec (IntKind.i64.wrap ((L.getD k Con.zero).exp - (L.getD (IntKind.i64.wrap ((↑k : Int) - 1)).toNat Con.zero).exp) == 1) true, (L.getD k Con.zero).exp = (L.getD k Con.zero).exp, (L.getD k Con.zero).dim = (L.getD k Con.zero).dim, (L.getD k Con.zero).sign = (L.getD k Con.zero).sign, (L.getD k Con.zero).odd = (L.getD k Con.zero).odd, (L.getD k Con.zero).oddity = (L.getD k Con.zero).oddity, L.length = L.length ∧ (rws L) = (rws L), (0 : Int) ≤ ↑k ∧ (↑k : Int) < ↑L.length, (0 : Int) ≤ IntKind.i64.wrap ((↑k : Int) - 1) ∧ IntKind.i64.wrap ((↑k : Int) - 1) < ↑L.length] (by kernel_rfl) ⟨?_, ?_, ?_, ?_, ?_, d3, d2, d1, ?_, ?_, ?_, ?_, ?_, ?_, ?_, (?_ : (0 : Int) ≤ IntKind.i64.wrap ((↑k : Int) - 1) ∧ IntKind.i64.wrap ((↑k : Int) - 1) < ↑L.length)⟩) (fun d3 => rr [true, true, false, true] [true = linkM L k, Dec (L.getD (IntKind.i64.wrap ((↑k : Int) - 1)).toNat Con.zero).odd true, Dec (L.getD k Con.zero).odd false, Dec (L.getD (IntKind.i64.wrap ((↑k : Int) - 1)).toNat Con.zero).odd true, Dec (IntKind.i64.wrap ((L.getD k Con.zero).exp - (L.getD (IntKind.i64.wrap ((↑k : Int) - 1)).toNat Con.zero).exp) == 1) true, (L.getD k Con.zero).exp = (L.getD k Con.zero).exp, (L.getD k Con.zero).dim = (L.getD k Con.zero).dim, (L.getD k Con.zero).sign = (L.getD k Con.zero).sign, (L.getD k Con.zero).odd = (L.getD k Con.zero).odd, (L.getD k Con.zero).oddity = (L.getD k Con.zero).oddity, L.length = L.length ∧ (rws L) = (rws L), (0 : Int) ≤ ↑k ∧ (↑k : Int) < ↑L.length, (0 : Int) ≤ IntKind.i64.wrap ((↑k : Int) - 1) ∧ IntKind.i64.wrap ((↑k : Int) - 1) < ↑L.length] (by kernel_rfl) ⟨?_, d2, d3, d2, d1, ?_, ?_, ?_, ?_, ?_, ?_, ?_, (?_ : (0 : Int) ≤ IntKind.i64.wrap ((↑k : Int) - 1) ∧ IntKind.i64.wrap ((↑k : Int) - 1) < ↑L.length)⟩)) (fun d2 => rr [true, false, false] [(L.getD k Con.zero).odd = linkM L k, Dec (L.getD (IntKind.i64.wrap ((↑k : Int) - 1)).toNat Con.zero).odd false, Dec (L.getD (IntKind.i64.wrap ((↑k : Int) - 1)).toNat Con.zero).odd false, Dec (IntKind.i64.wrap ((L.getD k Con.zero).exp - (L.getD (IntKind.i64.wrap ((↑k : Int) - 1)).toNat Con.zero).exp) == 1) true, (L.getD k Con.zero).exp = (L.getD k Con.zero).exp, (L.getD k Con.zero).dim = (L.getD k Con.zero).dim, (L.getD k Con.zero).sign = (L.getD k Con.zero).sign, (L.getD k Con.zero).odd = (L.getD k Con.zero).odd, (L.getD k Con.zero).oddity = (L.getD k Con.zero).oddity, L.length = L.length ∧ (rws L) = (rws L), (0 : Int) ≤ ↑k ∧ (↑k : Int) < ↑L.length, (0 : Int) ≤ IntKind.i64.wrap ((↑k : Int) - 1) ∧ IntKind.i64.wrap ((↑k : Int) - 1) < ↑L.length] (by kernel_rfl) ⟨?_, d2, d2, d1, ?_, ?_, ?_, ?_, ?_, ?_, ?_, (?_ : (0 : Int) ≤ IntKind.i64.wrap ((↑k : Int) - 1) ∧ IntKind.i64.wrap ((↑k : Int) - 1) < ↑L.length)⟩)) (fun d1 => oe (IntKind.i64.wrap ((L.getD k Con.zero).exp - (L.getD (IntKind.i64.wrap ((↑k : Int) - 1)).toNat Con.zero).exp) == 2) (fun d2 => oe ((L.getD (IntKind.i64.wrap ((↑k : Int) - 1)).toNat Con.zero).odd) (fun d3 => rr [false, true, true] [(L.getD k Con.zero).odd = linkM L k, Dec (L.getD (IntKind.i64.wrap ((↑k : Int) - 1)).toNat Con.zero).odd true, Dec (IntKind.i64.wrap ((L.getD k Con.zero).exp - (L.getD (IntKind.i64.wrap ((↑k : Int) - 1)).toNat Con.zero).exp) == 2) true, Dec (IntKind.i64.wrap ((L.getD k Con.zero).exp - (L.getD (IntKind.i64.wrap ((↑k : Int) - 1)).toNat Con.zero).exp) == 1) false, (L.getD k Con.zero).exp = (L.getD k Con.zero).exp, (L.getD k Con.zero).dim = (L.getD k Con.zero).dim, (L.getD k Con.zero).sign = (L.getD k Con.zero).sign, (L.getD k Con.zero).odd = (L.getD k Con.zero).odd, (L.getD k Con.zero).oddity = (L.getD k Con.zero).oddity, L.length = L.length ∧ (rws L) = (rws L), (0 : Int) ≤ ↑k ∧ (↑k : Int) < ↑L.length, (0 : Int) ≤ IntKind.i64.wrap ((↑k : Int) - 1) ∧ IntKind.i64.wrap ((↑k : Int) - 1) < ↑L.length] (by kernel_rfl) ⟨?_, d3, d2, d1, ?_, ?_, ?_, ?_, ?_, ?_, ?_, (?_ : (0 : Int) ≤ IntKind.i64.wrap ((↑k : Int) - 1) ∧ IntKind.i64.wrap ((↑k : Int) - 1) < ↑L.length)⟩) (fun d3 => rr [false, true, false] [false = linkM L k, Dec (L.getD (IntKind.i64.wrap ((↑k : Int) - 1)).toNat Con.zero).odd false, Dec (IntKind.i64.wrap ((L.getD k Con.zero).exp - (L.getD (IntKind.i64.wrap ((↑k : Int) - 1)).toNat Con.zero).exp) == 2) true, Dec (IntKind.i64.wrap ((L.getD k Con.zero).exp - (L.getD (IntKind.i64.wrap ((↑k : Int) - 1)).toNat Con.zero).exp) == 1) false, (L.getD k Con.zero).exp = (L.getD k Con.zero).exp, (L.getD k Con.zero).dim = (L.getD k Con.zero).dim, (L.getD k Con.zero).sign = (L.getD k Con.zero).sign, (L.getD k Con.zero).odd = (L.getD k Con.zero).odd, (L.getD k Con.zero).oddity = (L.getD k Con.zero).oddity, L.length = L.length ∧ (rws L) = (rws L), (0 : Int) ≤ ↑k ∧ (↑k : Int) < ↑L.length, (0 : Int) ≤ IntKind.i64.wrap ((↑k : Int) - 1) ∧ IntKind.i64.wrap ((↑k : Int) - 1) < ↑L.length] (by kernel_rfl) ⟨?_, d3, d2, d1, ?_, ?_, ?_, ?_, ?_, ?_, ?_, (?_ : (0 : Int) ≤ IntKind.i64.wrap ((↑k : Int) - 1) ∧ IntKind.i64.wrap ((↑k : Int) - 1) < ↑L.length)⟩)) (fun d2 => rr [false, false] [false = linkM L k, Dec (IntKind.i64.wrap ((L.getD k Con.zero).exp - (L.getD (IntKind.i64.wrap ((↑k : Int) - 1)).toNat Con.zero).exp) == 2) false, Dec (IntKind.i64.wrap ((L.getD k Con.zero).exp - (L.getD (IntKind.i64.wrap ((↑k : Int) - 1)).toNat Con.zero).exp) == 1) false, (L.getD k Con.zero).exp = (L.getD k Con.zero).exp, (L.getD k Con.zero).dim = (L.getD k Con.zero).dim, (L.getD k Con.zero).sign = (L.getD k Con.zero).sign, (L.getD k Con.zero).odd = (L.getD k Con.zero).odd, (L.getD k Con.zero).oddity = (L.getD k Con.zero).oddity, L.length = L.length ∧ (rws L) = (rws L), (0 : Int) ≤ ↑k ∧ (↑k : Int) < ↑L.length, (0 : Int) ≤ IntKind.i64.wrap ((↑k : Int) - 1) ∧ IntKind.i64.wrap ((↑k : Int) - 1) < ↑L.length] (by kernel_rfl) ⟨?_, d2, d1, ?_, ?_, ?_, ?_, ?_, ?_, ?_, (?_ : (0 : Int) ≤ IntKind.i64.wrap ((↑k : Int) - 1) ∧ IntKind.i64.wrap ((↑k : Int) - 1) < ↑L.length)⟩))
  all_goals first | (first | (with_reducible rfl) | exact ⟨rfl, rfl⟩ | decide | ((try simp only [at_, em, et, ed, consR_ro, intsR_ro, Int.toNat_natCast] at *) <;> first | (with_reducible rfl) | trivial | omega | exact ⟨fun _ _ => rfl, hL.e⟩ | exact ⟨fun _ _ => rfl, fun _ _ => rfl, hL, hp.1, by omega⟩ | (simp only [linkM, at_, *]; done) | (simp_all [linkM]; done)))
end Go.Proofs.YtgdhgnhgmbkpdaaGreatDoor.S

namespace Go.Proofs.YtgdhgnhgmbkpdaaGreatDoor.S
open Go.QfSy Go.RowKit
def ivN (s : Nat) : Nat → List Int
  | 0 => []
  | n + 1 => (s : Int) :: ivN (s + 1) n
theorem ivN_append (s n : Nat) : ivN s (n + 1) = ivN s n ++ [((s + n : Nat) : Int)] := by
  induction n generalizing s with
  | zero => simp [ivN]
  | succ n ih =>
    rw [ivN, ih (s + 1)]
    show _ = (s : Int) :: ivN (s + 1) n ++ _
    simp only [List.cons_append]
    rw [show s + 1 + n = s + (n + 1) by omega]
theorem ivN_len (s n : Nat) : (ivN s n).length = n := by
  induction n generalizing s with
  | zero => rfl
  | succ n ih => simp [ivN, ih]
theorem mem_ivN {s n : Nat} {x : Int} : x ∈ ivN s n ↔ (s : Int) ≤ x ∧ x < ((s + n : Nat) : Int) := by
  induction n generalizing s with
  | zero => simp only [ivN, List.not_mem_nil, Nat.add_zero, false_iff]; omega
  | succ n ih =>
    simp only [ivN, List.mem_cons, ih]
    omega
theorem getD_ivN {s n t : Nat} (h : t < n) : (ivN s n).getD t 0 = ((s + t : Nat) : Int) := by
  induction n generalizing s t with
  | zero => omega
  | succ n ih =>
    cases t with
    | zero => simp [ivN]
    | succ t =>
      simp only [ivN, List.getD_cons_succ]
      rw [ih (by omega)]
      congr 1; omega
def rowOk (b j : Nat → Bool) (l : List Int) : Prop := ∃ s n, l = ivN s (n + 1) ∧ j s = false ∧ ∀ t, t ≤ n → b (s + t) = true ∧ (0 < t → j (s + t) = true)
structure GrpIv (b j : Nat → Bool) (k : Nat) (a : Acc) : Prop where
  rows : ∀ l ∈ allA a, rowOk b j l
  flat : (allA a).flatten = ((List.range k).filter b).map Int.ofNat
  last : ∀ l, a.2 = some l → 0 < k → b (k - 1) = true → ∃ s n, l = ivN s (n + 1) ∧ s + n + 1 = k
theorem grp_iv {b j : Nat → Bool} (hj : ∀ k, j (k + 1) = true → b k = true) (h0 : j 0 = false) : ∀ k, GrpIv b j k (grpA b j k)
  | 0 => ⟨fun l hl => by simp [grpA, allA] at hl, by simp [grpA, allA], fun l hl => by simp [grpA] at hl⟩
  | k + 1 => by
    have ih := grp_iv hj h0 k
    have ok := grp_ok b j k
    have e : grpA b j (k + 1) = grpS (b k) (j k) k (grpA b j k) := rfl
    rw [e]
    generalize grpA b j k = a at ih ok
    obtain ⟨F, o⟩ := a
    obtain ⟨h1, h2, h3⟩ := ih
    have hr : ((List.range (k + 1)).filter b).map Int.ofNat = ((List.range k).filter b).map Int.ofNat ++ (if b k = true then [(k : Int)] else []) := by
      rw [List.range_succ, List.filter_append, List.map_append]
      congr 1
      by_cases hb : b k = true
      · simp [hb]
      · simp [hb]
    cases hb : b k with
    | false =>
      simp only [grpS, cond_false]
      refine ⟨h1, by rw [hr, h2, hb]; simp, fun l hl _ hbk => ?_⟩
      have : b k = true := by simpa using hbk
      rw [hb] at this; cases this
    | true =>
      have new : j k = false → rowOk b j [(k : Int)] := fun hjk => ⟨k, 0, rfl, hjk, fun t ht => by
        have : t = 0 := by omega
        subst this; exact ⟨by simpa using hb, fun h => by omega⟩⟩
      have one : ∃ s n, ([(k : Int)] : List Int) = ivN s (n + 1) ∧ s + n + 1 = k + 1 := ⟨k, 0, rfl, rfl⟩
      have nojoin : o = none → j k = false := by
        intro ho
        cases hjk : j k with
        | false => rfl
        | true =>
          cases k with
          | zero => rw [h0] at hjk; cases hjk
          | succ k =>
            have h4 := (ok.none ho).2 k (by omega)
            rw [hj k hjk] at h4; cases h4
      cases o with
      | none =>
        have hF : F = [] := (ok.none rfl).1
        subst hF
        simp only [grpS, cond_true]
        refine ⟨fun l hl => ?_, ?_, fun l hl _ _ => ?_⟩
        · simp only [allA, List.nil_append, List.mem_singleton] at hl
          subst hl; exact new (nojoin rfl)
        · rw [hr, ← h2, hb]; simp [allA]
        · cases hl; exact one
      | some l0 =>
        cases hjk : j k with
        | true =>
          simp only [grpS, cond_true]
          have hk : 0 < k := by
            rcases Nat.eq_zero_or_pos k with h | h
            · subst h; rw [h0] at hjk; cases hjk
            · exact h
          have hbk : b (k - 1) = true := hj (k - 1) (by rw [show k - 1 + 1 = k by omega]; exact hjk)
          obtain ⟨s, n, e1, e2⟩ := h3 l0 rfl hk hbk
          obtain ⟨s', n', e3, e4, e5⟩ := h1 l0 (by simp [allA])
          have hn : n' = n := by have := congrArg List.length (e1.symm.trans e3); simp only [ivN_len] at this; omega
          have hs : s' = s := by
            have := e1.symm.trans e3
            simp only [ivN, List.cons.injEq] at this
            omega
          subst hn hs
          have e6 : l0 ++ [(k : Int)] = ivN s' (n' + 1 + 1) := by
            rw [ivN_append s' (n' + 1), ← e1, show s' + (n' + 1) = k by omega]
          refine ⟨fun l hl => ?_, ?_, fun l hl _ _ => ?_⟩
          · simp only [allA, List.mem_append, List.mem_singleton] at hl
            rcases hl with hl | hl
            · exact h1 l (by simp [allA, hl])
            · subst hl
              refine ⟨s', n' + 1, e6, e4, fun t ht => ?_⟩
              rcases Nat.lt_or_ge t (n' + 1) with h | h
              · exact e5 t (by omega)
              · have : s' + t = k := by omega
                rw [this]; exact ⟨hb, fun _ => hjk⟩
          · rw [hr, ← h2, hb]; simp [allA]
          · cases hl; exact ⟨s', n' + 1, e6, by omega⟩
        | false =>
          simp only [grpS, cond_true, cond_false]
          refine ⟨fun l hl => ?_, ?_, fun l hl _ _ => ?_⟩
          · simp only [allA, List.mem_append, List.mem_singleton] at hl
            rcases hl with (hl | hl) | hl
            · exact h1 l (by simp [allA, hl])
            · exact h1 l (by simp [allA, hl])
            · subst hl; exact new hjk
          · rw [hr, ← h2, hb]; simp [allA]
          · cases hl; exact one
theorem parts_iv (L : List Con) : GrpIv (oddB L) (joinB L) L.length (partsA L L.length) := by
  refine grp_iv (fun k h => ?_) (by simp [joinB]) _
  unfold joinB at h
  simp only [Bool.and_eq_true, Nat.add_sub_cancel] at h
  exact h.2.1
end Go.Proofs.YtgdhgnhgmbkpdaaGreatDoor.S

namespace Go.Proofs.YtgdhgnhgmbkpdaaGreatDoor.S
open Go.QfSy Go.RowKit
theorem hasI_iff {x : Int} : ∀ {l : List Int}, hasI x l = true ↔ x ∈ l
  | [] => by simp [hasI]
  | y :: l => by
    simp only [hasI, Bool.or_eq_true, beq_iff_eq, List.mem_cons, hasI_iff (l := l)]
    constructor
    · rintro (h | h)
      · exact .inl h.symm
      · exact .inr h
    · rintro (h | h)
      · exact .inl h.symm
      · exact .inr h
theorem findR_spec {x : Int} : ∀ {P : List (List Int)}, x ∈ P.flatten → findR x P ∈ P ∧ x ∈ findR x P
  | [], h => by simp at h
  | l :: P, h => by
    simp only [findR]
    cases hl : hasI x l with
    | true => exact ⟨by simp, hasI_iff.1 hl⟩
    | false =>
      have : x ∈ P.flatten := by
        simp only [List.flatten_cons, List.mem_append] at h
        rcases h with h | h
        · rw [hasI_iff.2 h] at hl; cases hl
        · exact h
      obtain ⟨h1, h2⟩ := findR_spec this
      exact ⟨by simp [h1], h2⟩
theorem mem_parts {L : List Con} {i : Nat} : (i : Int) ∈ (partsM L).flatten ↔ i < L.length ∧ oddB L i = true := by
  unfold partsM
  rw [(parts_iv L).flat]
  simp only [List.mem_map, List.mem_filter, List.mem_range]
  constructor
  · rintro ⟨k, h1, h2⟩
    have h3 : ((k : Nat) : Int) = (i : Int) := h2
    have : k = i := by omega
    subst this; exact h1
  · intro h
    exact ⟨i, h, rfl⟩
theorem partM_odd {L : List Con} {i : Nat} (h : i < L.length) (ho : oddB L i = true) : partM L i ∈ partsM L ∧ (i : Int) ∈ partM L i := findR_spec (mem_parts.2 ⟨h, ho⟩)
theorem part_row {L : List Con} {l : List Int} (h : l ∈ partsM L) : rowOk (oddB L) (joinB L) l := (parts_iv L).rows l h
theorem part_iv {L : List Con} {i : Nat} (h : i < L.length) (ho : oddB L i = true) : ∃ s n t, partM L i = ivN s (n + 1) ∧ i = s + t ∧ t ≤ n ∧ joinB L s = false ∧ ∀ u, u ≤ n → oddB L (s + u) = true ∧ (0 < u → joinB L (s + u) = true) := by
  obtain ⟨h1, h2⟩ := partM_odd h ho
  obtain ⟨s, n, e, hs, hr⟩ := part_row h1
  rw [e, mem_ivN] at h2
  exact ⟨s, n, i - s, e, by omega, by omega, hs, hr⟩
theorem part_first {L : List Con} {i : Nat} (h : i < L.length) (ho : oddB L i = true) : (partM L i).getD 0 0 = (i : Int) ↔ joinB L i = false := by
  obtain ⟨s, n, t, e, h1, h2, h3, h4⟩ := part_iv h ho
  rw [e, getD_ivN (by omega), Nat.add_zero]
  constructor
  · intro h5
    have : i = s := by omega
    rw [this]; exact h3
  · intro h5
    rcases Nat.eq_zero_or_pos t with h6 | h6
    · subst h6; rw [h1]; simp
    · have := (h4 t h2).2 h6
      rw [← h1, h5] at this; cases this
end Go.Proofs.YtgdhgnhgmbkpdaaGreatDoor.S

namespace Go.Proofs.YtgdhgnhgmbkpdaaGreatDoor.S
open Go.QfSy Go.RowKit
def shO (c : Con) (last s : Int) : Bool := decide (last < c.exp ∧ c.exp ≤ 60 ∧ 1 ≤ c.dim ∧ c.dim ≤ 8 - s)
def shL : List Con → Int → Int → Bool
  | [], _, _ => true
  | c :: l, last, s => shO c last s && shL l c.exp (s + c.dim)
def shapeM (p : Int) (L : List Con) : Bool := (p == 2) && (!L.isEmpty && shL L (-1) 0)
def sgB (c : Con) : Bool := decide (c.sign = 1 ∨ c.sign = -1)
theorem ord_sh : ∀ {L : List Con} {l s : Int}, -1 ≤ l → ordL L l s = (shL L l s && L.all sgB)
  | [], _, _, _ => rfl
  | c :: L, l, s, h => by
    rw [Bool.eq_iff_iff]
    simp only [ordL, shL, okO, shO, sgB, List.all_cons, Bool.and_eq_true, decide_eq_true_eq]
    constructor
    · rintro ⟨h1, h2⟩
      rw [ord_sh (by omega), Bool.and_eq_true] at h2
      exact ⟨⟨⟨h1.2.2.1, h1.2.1, h1.2.2.2.2.1, h1.2.2.2.2.2⟩, h2.1⟩, h1.2.2.2.1, h2.2⟩
    · rintro ⟨⟨h1, h2⟩, h3, h4⟩
      refine ⟨⟨by omega, h1.2.1, h1.1, h3, h1.2.2.1, h1.2.2.2⟩, ?_⟩
      rw [ord_sh (by omega), Bool.and_eq_true]
      exact ⟨h2, h4⟩
theorem sh_pos : ∀ {L : List Con} {l s : Int}, shL L l s = true → 0 ≤ dimS L ∧ (L ≠ [] → 0 < dimS L)
  | [], _, _, _ => by simp [dimS]
  | c :: L, l, s, h => by
    simp only [shL, shO, Bool.and_eq_true, decide_eq_true_eq] at h
    have := sh_pos h.2
    simp only [dimS]
    exact ⟨by omega, fun _ => by omega⟩
theorem order_sh (L : List Con) : orderV L = (!L.isEmpty && shL L (-1) 0 && L.all sgB) := by
  unfold orderV
  rw [ord_sh (by decide)]
  cases hs : shL L (-1) 0 with
  | false => simp
  | true =>
    have hp := sh_pos hs
    cases L with
    | nil => simp [dimS]
    | cons c l =>
      have := hp.2 (by simp)
      simp [this]
theorem val2_sh (p : Int) (L : List Con) : val2M p L = (shapeM p L && L.all legalB) := by
  unfold val2M shapeM
  rw [order_sh]
  have hl : L.all legalB = true → L.all sgB = true := by
    intro h
    rw [List.all_eq_true] at h ⊢
    intro c hc
    have := of_decide_eq_true (h c hc)
    exact decide_eq_true this.2.2.1
  cases h1 : L.all legalB with
  | false => simp
  | true => rw [hl h1]; simp
def fusC (c : Con) : Bool := decide (0 ≤ c.oddity ∧ c.oddity ≤ 7) && (c.odd || (decide (c.dim % 2 = 0) && decide (c.oddity = 0)))
def fusI (L : List Con) (i : Nat) : Bool := fusC (at_ L i) && !(oddB L i && (!((partM L i).getD 0 0 == (i : Int)) && !((at_ L i).oddity == 0)))
def dimR (L : List Con) : List Int → Int
  | [] => 0
  | i :: l => (at_ L i.toNat).dim + dimR L l
def parR (L : List Con) (l : List Int) : Bool := decide (((at_ L (l.getD 0 0).toNat).oddity - dimR L l) % 2 = 0)
def zerR (L : List Con) (l : List Int) : Bool := l.tail.all fun i => (at_ L i.toNat).oddity == 0
def fusM (p : Int) (L : List Con) : Bool := (p == 2) && (orderV L && ((List.range L.length).all (fusI L) && (partsM L).all (parR L)))
def fusT (p : Int) (L : List Con) : Bool := shapeM p L && (L.all (fun c => sgB c && fusC c) && (partsM L).all (fun l => zerR L l && parR L l))
theorem tail_ivN {s n : Nat} : (ivN s (n + 1)).tail = ivN (s + 1) n := rfl
theorem fus_rows {L : List Con} : (∀ i, i < L.length → oddB L i = true → (partM L i).getD 0 0 ≠ (i : Int) → (at_ L i).oddity = 0) ↔ (∀ l ∈ partsM L, zerR L l = true) := by
  constructor
  · intro h l hl
    obtain ⟨s, n, e, hs, hr⟩ := part_row hl
    have hin := (parts_rows l hl).2.1
    unfold zerR
    rw [List.all_eq_true]
    intro x hx
    rw [e, tail_ivN, mem_ivN] at hx
    have hx2 : x ∈ l := by rw [e, mem_ivN]; omega
    have hlt := hin x hx2
    obtain ⟨h1, h2⟩ := hr (x.toNat - s) (by omega)
    rw [show s + (x.toNat - s) = x.toNat by omega] at h1 h2
    have h3 := h x.toNat (by omega) h1 (fun e2 => by rw [part_first (by omega) h1, h2 (by omega)] at e2; cases e2)
    rw [h3]; rfl
  · intro h i hi ho hne
    obtain ⟨s, n, t, e, h1, h2, h3, h4⟩ := part_iv hi ho
    have hz := h _ (partM_odd hi ho).1
    unfold zerR at hz
    rw [List.all_eq_true] at hz
    have ht : 0 < t := by
      rcases Nat.eq_zero_or_pos t with h0 | h0
      · subst h0
        rw [Nat.add_zero] at h1
        exact absurd ((part_first hi ho).2 (by rw [h1]; exact h3)) hne
      · exact h0
    have := hz (i : Int) (by rw [e, tail_ivN, mem_ivN]; omega)
    simpa using this
theorem all_at {L : List Con} (q : Con → Bool) : L.all q = true ↔ ∀ i, i < L.length → q (at_ L i) = true := by
  rw [List.all_eq_true]
  constructor
  · intro h i hi
    have : at_ L i = L[i] := by simp [at_, hi]
    rw [this]; exact h _ (List.getElem_mem hi)
  · intro h c hc
    obtain ⟨i, hi, rfl⟩ := List.getElem_of_mem hc
    have : at_ L i = L[i] := by simp [at_, hi]
    rw [← this]; exact h i hi
theorem fus_eq (p : Int) (L : List Con) : fusT p L = fusM p L := by
  rw [Bool.eq_iff_iff]
  unfold fusT fusM shapeM
  rw [order_sh]
  simp only [Bool.and_eq_true, List.all_eq_true (l := partsM L), List.all_eq_true (l := List.range L.length), List.mem_range, all_at]
  have key : (∀ i, i < L.length → fusI L i = true) ↔ (∀ i, i < L.length → fusC (at_ L i) = true) ∧ (∀ l ∈ partsM L, zerR L l = true) := by
    rw [← fus_rows]
    constructor
    · intro h
      refine ⟨fun i hi => ?_, fun i hi ho hne => ?_⟩
      · have := h i hi
        unfold fusI at this
        rw [Bool.and_eq_true] at this
        exact this.1
      · have := h i hi
        unfold fusI at this
        simp only [ho, Bool.and_eq_true, Bool.true_and, Bool.not_eq_true', Bool.and_eq_false_iff, Bool.not_eq_false', beq_iff_eq] at this
        rcases this.2 with h1 | h1
        · exact absurd h1 hne
        · exact h1
    · rintro ⟨h1, h2⟩ i hi
      unfold fusI
      rw [Bool.and_eq_true]
      refine ⟨h1 i hi, ?_⟩
      cases ho : oddB L i with
      | false => rfl
      | true =>
        by_cases hf : (partM L i).getD 0 0 = (i : Int)
        · rw [beq_iff_eq.2 hf]; rfl
        · rw [beq_iff_eq.2 (h2 i hi ho hf)]; simp only [Bool.not_true, Bool.and_false, Bool.not_false]
  constructor
  · rintro ⟨⟨h1, h2, h3⟩, h4, h5⟩
    exact ⟨h1, ⟨⟨h2, h3⟩, fun i hi => (h4 i hi).1⟩, key.2 ⟨fun i hi => (h4 i hi).2, fun l hl => (h5 l hl).1⟩, fun l hl => (h5 l hl).2⟩
  · rintro ⟨h1, ⟨⟨h2, h3⟩, h4⟩, h5, h6⟩
    have := key.1 h5
    exact ⟨⟨h1, h2, h3⟩, fun i hi => ⟨h4 i hi, this.1 i hi⟩, fun l hl => ⟨this.2 l hl, h6 l hl⟩⟩
end Go.Proofs.YtgdhgnhgmbkpdaaGreatDoor.S

namespace Go.Proofs.YtgdhgnhgmbkpdaaGreatDoor.S
open Go.QfSy Go.RowKit
theorem sh_at : ∀ {L : List Con} {l s : Int}, -1 ≤ l → 0 ≤ s → shL L l s = true → (∀ c ∈ L, 0 ≤ c.exp ∧ c.exp ≤ 60 ∧ 1 ≤ c.dim ∧ c.dim ≤ 8) ∧ (dimS L ≤ 8 - s ∨ L = []) ∧ (L.length : Int) ≤ dimS L
  | [], _, _, _, _, _ => ⟨fun c hc => by simp at hc, .inr rfl, by simp [dimS]⟩
  | c :: L, l, s, h0, hs, h => by
    simp only [shL, shO, Bool.and_eq_true, decide_eq_true_eq] at h
    obtain ⟨h1, h2⟩ := h
    obtain ⟨i1, i2, i3⟩ := sh_at (L := L) (l := c.exp) (s := s + c.dim) (by omega) (by omega) h2
    refine ⟨fun x hx => ?_, .inl ?_, ?_⟩
    · rcases List.mem_cons.1 hx with rfl | hx
      · omega
      · exact i1 x hx
    · simp only [dimS]
      rcases i2 with i2 | i2
      · omega
      · rw [i2]; simp only [dimS]; omega
    · simp only [dimS, List.length_cons]
      omega
end Go.Proofs.YtgdhgnhgmbkpdaaGreatDoor.S

