/- A part of the proof of TiedTrainLegalForms: YM, YN, YP, YQ, Y1, YA, YR, TA, TB, TC, YU, TD, TF, YB, YC, YD, YK, TE, TG, TH, TI, RB, RC, LJ, CardTrainLegalForms, TiedTrainLegalForms. -/
import Derived.Test.YtkkmlbhmcdoibaaGreatDoorPkLB1
import Derived.Test.YtkkmlbhmcdoibaaGreatDoorPkLM3
set_option linter.unusedSimpArgs false
set_option linter.unusedVariables false
namespace Go.Proofs.YtkkmlbhmcdoibaaGreatDoor.S
open Go.QfSy Go.RowKit
theorem w64 {n : Int} (h1 : -9223372036854775808 ≤ n) (h2 : n ≤ 9223372036854775807) : IntKind.i64.wrap n = n := by
  rw [IntKind.wrap_i64]; omega
abbrev at_ (L : List Con) (i : Nat) : Con := L.getD i Con.zero
end Go.Proofs.YtkkmlbhmcdoibaaGreatDoor.S

namespace Go.Proofs.YtkkmlbhmcdoibaaGreatDoor.S
open Go.QfSy Go.RowKit
abbrev Acc := List (List Int) × Option (List Int)
def allA : Acc → List (List Int)
  | (F, none) => F
  | (F, some l) => F ++ [l]
def grpS (b j : Bool) (k : Nat) (a : Acc) : Acc := bif b then (match a.2 with
    | none => (a.1, some [(k : Int)])
    | some l => bif j then (a.1, some (l ++ [(k : Int)])) else (a.1 ++ [l], some [(k : Int)])) else a
def grpA (b j : Nat → Bool) : Nat → Acc
  | 0 => ([], none)
  | k + 1 => grpS (b k) (j k) k (grpA b j k)
def oddB (L : List Con) (k : Nat) : Bool := (at_ L k).odd
def joinB (L : List Con) (k : Nat) : Bool := decide (0 < k) && ((at_ L (k - 1)).odd && decide ((at_ L (k - 1)).exp = (at_ L k).exp - 1))
def partsA (L : List Con) (k : Nat) : Acc := grpA (oddB L) (joinB L) k
def partsM (L : List Con) : List (List Int) := allA (partsA L L.length)
def hasI (i : Int) : List Int → Bool
  | [] => false
  | x :: l => (x == i) || hasI i l
def findR (i : Int) : List (List Int) → List Int
  | [] => []
  | l :: P => bif hasI i l then l else findR i P
def partM (L : List Con) (i : Int) : List Int := findR i (partsM L)
def setO (L : List Con) (i t : Int) : List Con := L.set i.toNat { at_ L i.toNat with oddity := t }
def flipS (L : List Con) (i : Nat) : List Con := L.set i { at_ L i with sign := -(at_ L i).sign }
def add4 (L : List Con) (i : Int) : List Con := setO L i (((at_ L i.toNat).oddity + 4) % 8)
def stepM (L : List Con) (i : Nat) : List Con :=
  let p := partM L ((i : Int) - 1)
  let q := partM L i
  let L1 := flipS (flipS L i) (i - 1)
  let L2 := bif decide (0 < p.length) then add4 L1 (p.getD 0 0) else L1
  bif decide (0 < q.length) && ((p.length == 0) || !(p.getD 0 0 == q.getD 0 0)) then add4 L2 (q.getD 0 0) else L2
end Go.Proofs.YtkkmlbhmcdoibaaGreatDoor.S

namespace Go.Proofs.YtkkmlbhmcdoibaaGreatDoor.S
open Go.QfSy Go.RowKit
end Go.Proofs.YtkkmlbhmcdoibaaGreatDoor.S

namespace Go.Proofs.YtkkmlbhmcdoibaaGreatDoor.S
open Go.QfSy Go.RowKit
end Go.Proofs.YtkkmlbhmcdoibaaGreatDoor.S

namespace Go.Proofs.YtkkmlbhmcdoibaaGreatDoor.S
open Go.QfSy Go.RowKit
noncomputable def legalT_v (e d s : Int) (o : Bool) (t : Int) : Bool := (bif decide (e < (0 : Int)) then false else (bif decide (e > (60 : Int)) then false else (bif decide (d < (1 : Int)) then false else (bif decide (d > (8 : Int)) then false else (bif s == (1 : Int) then (bif decide (t < (0 : Int)) then false else (bif decide (t > (7 : Int)) then false else (bif o then (bif (IntKind.i64.wrap (t - d)).tmod (2 : Int) == (0 : Int) then (bif d == (1 : Int) then (bif t == (1 : Int) then true else (t == (7 : Int))) else (bif d == (2 : Int) then (t != (4 : Int)) else true)) else false) else (bif d.tmod (2 : Int) == (0 : Int) then (t == (0 : Int)) else false)))) else (bif s == (-1 : Int) then (bif decide (t < (0 : Int)) then false else (bif decide (t > (7 : Int)) then false else (bif o then (bif (IntKind.i64.wrap (t - d)).tmod (2 : Int) == (0 : Int) then (bif d == (1 : Int) then (bif t == (3 : Int) then true else (t == (5 : Int))) else (bif d == (2 : Int) then (t != (0 : Int)) else true)) else false) else (bif d.tmod (2 : Int) == (0 : Int) then (t == (0 : Int)) else false)))) else false))))))
set_option maxRecDepth 100000 in
theorem legalT (e d s : Int) (o : Bool) (t : Int) : PureC Tryz.prog [] 6 [.agg (Con.mk e d s o t).rvs] (.bool (legalT_v e d s o t)) := by
  have rr := fun (tp : List Bool) (ms : List Prop) h hm => pure_run evOk (callF_ok evOk (noOrc_ok _ _) 8) Tryz.func6 (A := [.agg (Con.mk e d s o t).rvs]) rfl none_ann rfl rfl evNg (tabs := []) (R := .bool (legalT_v e d s o t)) (tp := tp) (ms := ms) h hm
  refine Or.elim (Bool.eq_false_or_eq_true (decide (e < (0 : Int)))) (fun d1 => rr [true] [false = legalT_v e d s o t, Dec (decide (e < (0 : Int))) true] (by kernel_rfl) ⟨(((ct d1).trans rfl) : legalT_v e d s o t = _).symm, d1⟩)
    (fun d1 => Or.elim (Bool.eq_false_or_eq_true (decide (e > (60 : Int)))) (fun d2 => rr [false, true] [false = legalT_v e d s o t, Dec (decide (e > (60 : Int))) true, Dec (decide (e < (0 : Int))) false] (by kernel_rfl) ⟨(((cf d1).trans ((ct d2).trans rfl)) : legalT_v e d s o t = _).symm, d2, d1⟩)
    (fun d2 => Or.elim (Bool.eq_false_or_eq_true (decide (d < (1 : Int)))) (fun d3 => rr [false, false, true] [false = legalT_v e d s o t, Dec (decide (d < (1 : Int))) true, Dec (decide (e > (60 : Int))) false, Dec (decide (e < (0 : Int))) false] (by kernel_rfl) ⟨(((cf d1).trans ((cf d2).trans ((ct d3).trans rfl))) : legalT_v e d s o t = _).symm, d3, d2, d1⟩)
    (fun d3 => Or.elim (Bool.eq_false_or_eq_true (decide (d > (8 : Int)))) (fun d4 => rr [false, false, false, true] [false = legalT_v e d s o t, Dec (decide (d > (8 : Int))) true, Dec (decide (d < (1 : Int))) false, Dec (decide (e > (60 : Int))) false, Dec (decide (e < (0 : Int))) false] (by kernel_rfl) ⟨(((cf d1).trans ((cf d2).trans ((cf d3).trans ((ct d4).trans rfl)))) : legalT_v e d s o t = _).symm, d4, d3, d2, d1⟩)
    (fun d4 => Or.elim (Bool.eq_false_or_eq_true (s == (1 : Int))) (fun d5 => Or.elim (Bool.eq_false_or_eq_true (decide (t < (0 : Int)))) (fun d6 => rr [false, false, false, false, false, true] [false = legalT_v e d s o t, Dec (decide (t < (0 : Int))) true, Dec (s != (1 : Int)) false, Dec (decide (d > (8 : Int))) false, Dec (decide (d < (1 : Int))) false, Dec (decide (e > (60 : Int))) false, Dec (decide (e < (0 : Int))) false] (by kernel_rfl) ⟨(((cf d1).trans ((cf d2).trans ((cf d3).trans ((cf d4).trans ((ct d5).trans ((ct d6).trans rfl)))))) : legalT_v e d s o t = _).symm, d6, (dN d5), d4, d3, d2, d1⟩)
    (fun d6 => Or.elim (Bool.eq_false_or_eq_true (decide (t > (7 : Int)))) (fun d7 => rr [false, false, false, false, false, false, true] [false = legalT_v e d s o t, Dec (decide (t > (7 : Int))) true, Dec (decide (t < (0 : Int))) false, Dec (s != (1 : Int)) false, Dec (decide (d > (8 : Int))) false, Dec (decide (d < (1 : Int))) false, Dec (decide (e > (60 : Int))) false, Dec (decide (e < (0 : Int))) false] (by kernel_rfl) ⟨(((cf d1).trans ((cf d2).trans ((cf d3).trans ((cf d4).trans ((ct d5).trans ((cf d6).trans ((ct d7).trans rfl))))))) : legalT_v e d s o t = _).symm, d7, d6, (dN d5), d4, d3, d2, d1⟩)
    (fun d7 => Or.elim (Bool.eq_false_or_eq_true (o)) (fun d8 => Or.elim (Bool.eq_false_or_eq_true ((IntKind.i64.wrap (t - d)).tmod (2 : Int) == (0 : Int))) (fun d9 => Or.elim (Bool.eq_false_or_eq_true (d == (1 : Int))) (fun d10 => Or.elim (Bool.eq_false_or_eq_true (t == (1 : Int))) (fun d11 => rr [false, false, false, false, false, false, false, false, false, true, true, true] [true = legalT_v e d s o t, Dec (t == (1 : Int)) true, Dec (s == (1 : Int)) true, Dec (d == (1 : Int)) true, Dec ((IntKind.i64.wrap (t - d)).tmod (2 : Int) != (0 : Int)) false, (2 : Int) ≠ (0 : Int), Dec (!o) false, Dec (decide (t > (7 : Int))) false, Dec (decide (t < (0 : Int))) false, Dec (s != (1 : Int)) false, Dec (decide (d > (8 : Int))) false, Dec (decide (d < (1 : Int))) false, Dec (decide (e > (60 : Int))) false, Dec (decide (e < (0 : Int))) false] (by kernel_rfl) ⟨(((cf d1).trans ((cf d2).trans ((cf d3).trans ((cf d4).trans ((ct d5).trans ((cf d6).trans ((cf d7).trans ((ct d8).trans ((ct d9).trans ((ct d10).trans ((ct d11).trans rfl))))))))))) : legalT_v e d s o t = _).symm, d11, d5, d10, (dN d9), ?_, (dN d8), d7, d6, (dN d5), d4, d3, d2, d1⟩)
    (fun d11 => rr [false, false, false, false, false, false, false, false, false, true, true, false] [(t == (7 : Int)) = legalT_v e d s o t, Dec (t == (1 : Int)) false, Dec (s == (1 : Int)) true, Dec (d == (1 : Int)) true, Dec ((IntKind.i64.wrap (t - d)).tmod (2 : Int) != (0 : Int)) false, (2 : Int) ≠ (0 : Int), Dec (!o) false, Dec (decide (t > (7 : Int))) false, Dec (decide (t < (0 : Int))) false, Dec (s != (1 : Int)) false, Dec (decide (d > (8 : Int))) false, Dec (decide (d < (1 : Int))) false, Dec (decide (e > (60 : Int))) false, Dec (decide (e < (0 : Int))) false] (by kernel_rfl) ⟨(((cf d1).trans ((cf d2).trans ((cf d3).trans ((cf d4).trans ((ct d5).trans ((cf d6).trans ((cf d7).trans ((ct d8).trans ((ct d9).trans ((ct d10).trans ((cf d11).trans rfl))))))))))) : legalT_v e d s o t = _).symm, d11, d5, d10, (dN d9), ?_, (dN d8), d7, d6, (dN d5), d4, d3, d2, d1⟩))
    (fun d10 => Or.elim (Bool.eq_false_or_eq_true (d == (2 : Int))) (fun d11 => rr [false, false, false, false, false, false, false, false, false, false, false, true, true] [(t != (4 : Int)) = legalT_v e d s o t, Dec (s == (1 : Int)) true, Dec (d == (2 : Int)) true, Dec (d == (1 : Int)) false, Dec (d == (1 : Int)) false, Dec ((IntKind.i64.wrap (t - d)).tmod (2 : Int) != (0 : Int)) false, (2 : Int) ≠ (0 : Int), Dec (!o) false, Dec (decide (t > (7 : Int))) false, Dec (decide (t < (0 : Int))) false, Dec (s != (1 : Int)) false, Dec (decide (d > (8 : Int))) false, Dec (decide (d < (1 : Int))) false, Dec (decide (e > (60 : Int))) false, Dec (decide (e < (0 : Int))) false] (by kernel_rfl) ⟨(((cf d1).trans ((cf d2).trans ((cf d3).trans ((cf d4).trans ((ct d5).trans ((cf d6).trans ((cf d7).trans ((ct d8).trans ((ct d9).trans ((cf d10).trans ((ct d11).trans rfl))))))))))) : legalT_v e d s o t = _).symm, d5, d11, d10, d10, (dN d9), ?_, (dN d8), d7, d6, (dN d5), d4, d3, d2, d1⟩)
    (fun d11 => rr [false, false, false, false, false, false, false, false, false, false, false, false, false] [true = legalT_v e d s o t, Dec (d == (2 : Int)) false, Dec (d == (2 : Int)) false, Dec (d == (1 : Int)) false, Dec (d == (1 : Int)) false, Dec ((IntKind.i64.wrap (t - d)).tmod (2 : Int) != (0 : Int)) false, (2 : Int) ≠ (0 : Int), Dec (!o) false, Dec (decide (t > (7 : Int))) false, Dec (decide (t < (0 : Int))) false, Dec (s != (1 : Int)) false, Dec (decide (d > (8 : Int))) false, Dec (decide (d < (1 : Int))) false, Dec (decide (e > (60 : Int))) false, Dec (decide (e < (0 : Int))) false] (by kernel_rfl) ⟨(((cf d1).trans ((cf d2).trans ((cf d3).trans ((cf d4).trans ((ct d5).trans ((cf d6).trans ((cf d7).trans ((ct d8).trans ((ct d9).trans ((cf d10).trans ((cf d11).trans rfl))))))))))) : legalT_v e d s o t = _).symm, d11, d11, d10, d10, (dN d9), ?_, (dN d8), d7, d6, (dN d5), d4, d3, d2, d1⟩)))
    (fun d9 => rr [false, false, false, false, false, false, false, false, true] [false = legalT_v e d s o t, Dec ((IntKind.i64.wrap (t - d)).tmod (2 : Int) != (0 : Int)) true, (2 : Int) ≠ (0 : Int), Dec (!o) false, Dec (decide (t > (7 : Int))) false, Dec (decide (t < (0 : Int))) false, Dec (s != (1 : Int)) false, Dec (decide (d > (8 : Int))) false, Dec (decide (d < (1 : Int))) false, Dec (decide (e > (60 : Int))) false, Dec (decide (e < (0 : Int))) false] (by kernel_rfl) ⟨(((cf d1).trans ((cf d2).trans ((cf d3).trans ((cf d4).trans ((ct d5).trans ((cf d6).trans ((cf d7).trans ((ct d8).trans ((cf d9).trans rfl))))))))) : legalT_v e d s o t = _).symm, (dN d9), ?_, (dN d8), d7, d6, (dN d5), d4, d3, d2, d1⟩))
    (fun d8 => Or.elim (Bool.eq_false_or_eq_true (d.tmod (2 : Int) == (0 : Int))) (fun d9 => rr [false, false, false, false, false, false, false, true, true] [(t == (0 : Int)) = legalT_v e d s o t, Dec (d.tmod (2 : Int) == (0 : Int)) true, (2 : Int) ≠ (0 : Int), Dec (!o) true, Dec (decide (t > (7 : Int))) false, Dec (decide (t < (0 : Int))) false, Dec (s != (1 : Int)) false, Dec (decide (d > (8 : Int))) false, Dec (decide (d < (1 : Int))) false, Dec (decide (e > (60 : Int))) false, Dec (decide (e < (0 : Int))) false] (by kernel_rfl) ⟨(((cf d1).trans ((cf d2).trans ((cf d3).trans ((cf d4).trans ((ct d5).trans ((cf d6).trans ((cf d7).trans ((cf d8).trans ((ct d9).trans rfl))))))))) : legalT_v e d s o t = _).symm, d9, ?_, (dN d8), d7, d6, (dN d5), d4, d3, d2, d1⟩)
    (fun d9 => rr [false, false, false, false, false, false, false, true, false] [false = legalT_v e d s o t, Dec (d.tmod (2 : Int) == (0 : Int)) false, (2 : Int) ≠ (0 : Int), Dec (!o) true, Dec (decide (t > (7 : Int))) false, Dec (decide (t < (0 : Int))) false, Dec (s != (1 : Int)) false, Dec (decide (d > (8 : Int))) false, Dec (decide (d < (1 : Int))) false, Dec (decide (e > (60 : Int))) false, Dec (decide (e < (0 : Int))) false] (by kernel_rfl) ⟨(((cf d1).trans ((cf d2).trans ((cf d3).trans ((cf d4).trans ((ct d5).trans ((cf d6).trans ((cf d7).trans ((cf d8).trans ((cf d9).trans rfl))))))))) : legalT_v e d s o t = _).symm, d9, ?_, (dN d8), d7, d6, (dN d5), d4, d3, d2, d1⟩)))))
    (fun d5 => Or.elim (Bool.eq_false_or_eq_true (s == (-1 : Int))) (fun d6 => Or.elim (Bool.eq_false_or_eq_true (decide (t < (0 : Int)))) (fun d7 => rr [false, false, false, false, true, false, true] [false = legalT_v e d s o t, Dec (decide (t < (0 : Int))) true, Dec (s != (-1 : Int)) false, Dec (s != (1 : Int)) true, Dec (decide (d > (8 : Int))) false, Dec (decide (d < (1 : Int))) false, Dec (decide (e > (60 : Int))) false, Dec (decide (e < (0 : Int))) false] (by kernel_rfl) ⟨(((cf d1).trans ((cf d2).trans ((cf d3).trans ((cf d4).trans ((cf d5).trans ((ct d6).trans ((ct d7).trans rfl))))))) : legalT_v e d s o t = _).symm, d7, (dN d6), (dN d5), d4, d3, d2, d1⟩)
    (fun d7 => Or.elim (Bool.eq_false_or_eq_true (decide (t > (7 : Int)))) (fun d8 => rr [false, false, false, false, true, false, false, true] [false = legalT_v e d s o t, Dec (decide (t > (7 : Int))) true, Dec (decide (t < (0 : Int))) false, Dec (s != (-1 : Int)) false, Dec (s != (1 : Int)) true, Dec (decide (d > (8 : Int))) false, Dec (decide (d < (1 : Int))) false, Dec (decide (e > (60 : Int))) false, Dec (decide (e < (0 : Int))) false] (by kernel_rfl) ⟨(((cf d1).trans ((cf d2).trans ((cf d3).trans ((cf d4).trans ((cf d5).trans ((ct d6).trans ((cf d7).trans ((ct d8).trans rfl)))))))) : legalT_v e d s o t = _).symm, d8, d7, (dN d6), (dN d5), d4, d3, d2, d1⟩)
    (fun d8 => Or.elim (Bool.eq_false_or_eq_true (o)) (fun d9 => Or.elim (Bool.eq_false_or_eq_true ((IntKind.i64.wrap (t - d)).tmod (2 : Int) == (0 : Int))) (fun d10 => Or.elim (Bool.eq_false_or_eq_true (d == (1 : Int))) (fun d11 => Or.elim (Bool.eq_false_or_eq_true (t == (3 : Int))) (fun d12 => rr [false, false, false, false, true, false, false, false, false, false, true, false, true, true] [true = legalT_v e d s o t, Dec (t == (3 : Int)) true, Dec (d == (1 : Int)) true, Dec (s == (1 : Int)) false, Dec (d == (1 : Int)) true, Dec ((IntKind.i64.wrap (t - d)).tmod (2 : Int) != (0 : Int)) false, (2 : Int) ≠ (0 : Int), Dec (!o) false, Dec (decide (t > (7 : Int))) false, Dec (decide (t < (0 : Int))) false, Dec (s != (-1 : Int)) false, Dec (s != (1 : Int)) true, Dec (decide (d > (8 : Int))) false, Dec (decide (d < (1 : Int))) false, Dec (decide (e > (60 : Int))) false, Dec (decide (e < (0 : Int))) false] (by kernel_rfl) ⟨(((cf d1).trans ((cf d2).trans ((cf d3).trans ((cf d4).trans ((cf d5).trans ((ct d6).trans ((cf d7).trans ((cf d8).trans ((ct d9).trans ((ct d10).trans ((ct d11).trans ((ct d12).trans rfl)))))))))))) : legalT_v e d s o t = _).symm, d12, d11, d5, d11, (dN d10), ?_, (dN d9), d8, d7, (dN d6), (dN d5), d4, d3, d2, d1⟩)
    (fun d12 => rr [false, false, false, false, true, false, false, false, false, false, true, false, true, false] [(t == (5 : Int)) = legalT_v e d s o t, Dec (t == (3 : Int)) false, Dec (d == (1 : Int)) true, Dec (s == (1 : Int)) false, Dec (d == (1 : Int)) true, Dec ((IntKind.i64.wrap (t - d)).tmod (2 : Int) != (0 : Int)) false, (2 : Int) ≠ (0 : Int), Dec (!o) false, Dec (decide (t > (7 : Int))) false, Dec (decide (t < (0 : Int))) false, Dec (s != (-1 : Int)) false, Dec (s != (1 : Int)) true, Dec (decide (d > (8 : Int))) false, Dec (decide (d < (1 : Int))) false, Dec (decide (e > (60 : Int))) false, Dec (decide (e < (0 : Int))) false] (by kernel_rfl) ⟨(((cf d1).trans ((cf d2).trans ((cf d3).trans ((cf d4).trans ((cf d5).trans ((ct d6).trans ((cf d7).trans ((cf d8).trans ((ct d9).trans ((ct d10).trans ((ct d11).trans ((cf d12).trans rfl)))))))))))) : legalT_v e d s o t = _).symm, d12, d11, d5, d11, (dN d10), ?_, (dN d9), d8, d7, (dN d6), (dN d5), d4, d3, d2, d1⟩))
    (fun d11 => Or.elim (Bool.eq_false_or_eq_true (d == (2 : Int))) (fun d12 => rr [false, false, false, false, true, false, false, false, false, false, false, false, true, false, true] [(t != (0 : Int)) = legalT_v e d s o t, Dec (d == (2 : Int)) true, Dec (s == (1 : Int)) false, Dec (d == (2 : Int)) true, Dec (d == (1 : Int)) false, Dec (d == (1 : Int)) false, Dec ((IntKind.i64.wrap (t - d)).tmod (2 : Int) != (0 : Int)) false, (2 : Int) ≠ (0 : Int), Dec (!o) false, Dec (decide (t > (7 : Int))) false, Dec (decide (t < (0 : Int))) false, Dec (s != (-1 : Int)) false, Dec (s != (1 : Int)) true, Dec (decide (d > (8 : Int))) false, Dec (decide (d < (1 : Int))) false, Dec (decide (e > (60 : Int))) false, Dec (decide (e < (0 : Int))) false] (by kernel_rfl) ⟨(((cf d1).trans ((cf d2).trans ((cf d3).trans ((cf d4).trans ((cf d5).trans ((ct d6).trans ((cf d7).trans ((cf d8).trans ((ct d9).trans ((ct d10).trans ((cf d11).trans ((ct d12).trans rfl)))))))))))) : legalT_v e d s o t = _).symm, d12, d5, d12, d11, d11, (dN d10), ?_, (dN d9), d8, d7, (dN d6), (dN d5), d4, d3, d2, d1⟩)
    (fun d12 => rr [false, false, false, false, true, false, false, false, false, false, false, false, false, false] [true = legalT_v e d s o t, Dec (d == (2 : Int)) false, Dec (d == (2 : Int)) false, Dec (d == (1 : Int)) false, Dec (d == (1 : Int)) false, Dec ((IntKind.i64.wrap (t - d)).tmod (2 : Int) != (0 : Int)) false, (2 : Int) ≠ (0 : Int), Dec (!o) false, Dec (decide (t > (7 : Int))) false, Dec (decide (t < (0 : Int))) false, Dec (s != (-1 : Int)) false, Dec (s != (1 : Int)) true, Dec (decide (d > (8 : Int))) false, Dec (decide (d < (1 : Int))) false, Dec (decide (e > (60 : Int))) false, Dec (decide (e < (0 : Int))) false] (by kernel_rfl) ⟨(((cf d1).trans ((cf d2).trans ((cf d3).trans ((cf d4).trans ((cf d5).trans ((ct d6).trans ((cf d7).trans ((cf d8).trans ((ct d9).trans ((ct d10).trans ((cf d11).trans ((cf d12).trans rfl)))))))))))) : legalT_v e d s o t = _).symm, d12, d12, d11, d11, (dN d10), ?_, (dN d9), d8, d7, (dN d6), (dN d5), d4, d3, d2, d1⟩)))
    (fun d10 => rr [false, false, false, false, true, false, false, false, false, true] [false = legalT_v e d s o t, Dec ((IntKind.i64.wrap (t - d)).tmod (2 : Int) != (0 : Int)) true, (2 : Int) ≠ (0 : Int), Dec (!o) false, Dec (decide (t > (7 : Int))) false, Dec (decide (t < (0 : Int))) false, Dec (s != (-1 : Int)) false, Dec (s != (1 : Int)) true, Dec (decide (d > (8 : Int))) false, Dec (decide (d < (1 : Int))) false, Dec (decide (e > (60 : Int))) false, Dec (decide (e < (0 : Int))) false] (by kernel_rfl) ⟨(((cf d1).trans ((cf d2).trans ((cf d3).trans ((cf d4).trans ((cf d5).trans ((ct d6).trans ((cf d7).trans ((cf d8).trans ((ct d9).trans ((cf d10).trans rfl)))))))))) : legalT_v e d s o t = _).symm, (dN d10), ?_, (dN d9), d8, d7, (dN d6), (dN d5), d4, d3, d2, d1⟩))
    (fun d9 => Or.elim (Bool.eq_false_or_eq_true (d.tmod (2 : Int) == (0 : Int))) (fun d10 => rr [false, false, false, false, true, false, false, false, true, true] [(t == (0 : Int)) = legalT_v e d s o t, Dec (d.tmod (2 : Int) == (0 : Int)) true, (2 : Int) ≠ (0 : Int), Dec (!o) true, Dec (decide (t > (7 : Int))) false, Dec (decide (t < (0 : Int))) false, Dec (s != (-1 : Int)) false, Dec (s != (1 : Int)) true, Dec (decide (d > (8 : Int))) false, Dec (decide (d < (1 : Int))) false, Dec (decide (e > (60 : Int))) false, Dec (decide (e < (0 : Int))) false] (by kernel_rfl) ⟨(((cf d1).trans ((cf d2).trans ((cf d3).trans ((cf d4).trans ((cf d5).trans ((ct d6).trans ((cf d7).trans ((cf d8).trans ((cf d9).trans ((ct d10).trans rfl)))))))))) : legalT_v e d s o t = _).symm, d10, ?_, (dN d9), d8, d7, (dN d6), (dN d5), d4, d3, d2, d1⟩)
    (fun d10 => rr [false, false, false, false, true, false, false, false, true, false] [false = legalT_v e d s o t, Dec (d.tmod (2 : Int) == (0 : Int)) false, (2 : Int) ≠ (0 : Int), Dec (!o) true, Dec (decide (t > (7 : Int))) false, Dec (decide (t < (0 : Int))) false, Dec (s != (-1 : Int)) false, Dec (s != (1 : Int)) true, Dec (decide (d > (8 : Int))) false, Dec (decide (d < (1 : Int))) false, Dec (decide (e > (60 : Int))) false, Dec (decide (e < (0 : Int))) false] (by kernel_rfl) ⟨(((cf d1).trans ((cf d2).trans ((cf d3).trans ((cf d4).trans ((cf d5).trans ((ct d6).trans ((cf d7).trans ((cf d8).trans ((cf d9).trans ((cf d10).trans rfl)))))))))) : legalT_v e d s o t = _).symm, d10, ?_, (dN d9), d8, d7, (dN d6), (dN d5), d4, d3, d2, d1⟩)))))
    (fun d6 => rr [false, false, false, false, true, true] [false = legalT_v e d s o t, Dec (s != (-1 : Int)) true, Dec (s != (1 : Int)) true, Dec (decide (d > (8 : Int))) false, Dec (decide (d < (1 : Int))) false, Dec (decide (e > (60 : Int))) false, Dec (decide (e < (0 : Int))) false] (by kernel_rfl) ⟨(((cf d1).trans ((cf d2).trans ((cf d3).trans ((cf d4).trans ((cf d5).trans ((cf d6).trans rfl)))))) : legalT_v e d s o t = _).symm, (dN d6), (dN d5), d4, d3, d2, d1⟩))))))
  all_goals first | (decide)
noncomputable def legalR_v (e d s : Int) (o : Bool) (t : Int) : Bool := (bif decide (e < (0 : Int)) then false else (bif decide (e > (60 : Int)) then false else (bif decide (d < (1 : Int)) then false else (bif decide (d > (8 : Int)) then false else (bif s == (1 : Int) then (bif decide (t < (0 : Int)) then false else (bif decide (t > (7 : Int)) then false else (bif o then (bif (IntKind.i64.wrap (t - d)).tmod (2 : Int) == (0 : Int) then (bif d == (1 : Int) then (bif t == (1 : Int) then true else (t == (7 : Int))) else (bif d == (2 : Int) then (t != (4 : Int)) else true)) else false) else (bif d.tmod (2 : Int) == (0 : Int) then (t == (0 : Int)) else false)))) else (bif s == (-1 : Int) then (bif decide (t < (0 : Int)) then false else (bif decide (t > (7 : Int)) then false else (bif o then (bif (IntKind.i64.wrap (t - d)).tmod (2 : Int) == (0 : Int) then (bif d == (1 : Int) then (bif t == (3 : Int) then true else (t == (5 : Int))) else (bif d == (2 : Int) then (t != (0 : Int)) else true)) else false) else (bif d.tmod (2 : Int) == (0 : Int) then (t == (0 : Int)) else false)))) else false))))))
end Go.Proofs.YtkkmlbhmcdoibaaGreatDoor.S

namespace Go.Proofs.YtkkmlbhmcdoibaaGreatDoor.S
open Go.QfSy Go.RowKit
end Go.Proofs.YtkkmlbhmcdoibaaGreatDoor.S

namespace Go.Proofs.YtkkmlbhmcdoibaaGreatDoor.S
open Go.QfSy Go.RowKit
def legalP (c : Con) : Prop := (0 ≤ c.exp ∧ c.exp ≤ 60) ∧ (1 ≤ c.dim ∧ c.dim ≤ 8) ∧ (c.sign = 1 ∨ c.sign = -1) ∧ (0 ≤ c.oddity ∧ c.oddity ≤ 7) ∧
  (c.odd = false → c.dim % 2 = 0 ∧ c.oddity = 0) ∧
  (c.odd = true → (c.oddity - c.dim) % 2 = 0 ∧ (c.dim = 1 → c.sign = 1 → c.oddity = 1 ∨ c.oddity = 7) ∧ (c.dim = 1 → c.sign = -1 → c.oddity = 3 ∨ c.oddity = 5) ∧ (c.dim = 2 → c.sign = 1 → c.oddity ≠ 4) ∧ (c.dim = 2 → c.sign = -1 → c.oddity ≠ 0))
instance (c : Con) : Decidable (legalP c) := by unfold legalP; exact inferInstance
def legalB (c : Con) : Bool := decide (legalP c)
theorem tmod2 (a : Int) : a.tmod 2 = 0 ↔ a % 2 = 0 := by
  rw [← Int.dvd_iff_tmod_eq_zero, ← Int.dvd_iff_emod_eq_zero]
theorem legalR_eq (c : Con) : legalR_v c.exp c.dim c.sign c.odd c.oddity = legalB c := by
  obtain ⟨e, d, s, o, t⟩ := c
  rw [Bool.eq_iff_iff]
  rw [show (legalB ⟨e, d, s, o, t⟩ = true) ↔ legalP ⟨e, d, s, o, t⟩ from by simp [legalB]]
  unfold legalP
  simp only
  by_cases hb : (0 ≤ e ∧ e ≤ 60) ∧ (1 ≤ d ∧ d ≤ 8) ∧ (0 ≤ t ∧ t ≤ 7)
  · have hw : IntKind.i64.wrap (t - d) = t - d := w64 (by omega) (by omega)
    unfold legalR_v
    have h1 : decide (e < 0) = false := by simp; omega
    have h2 : decide (e > 60) = false := by simp; omega
    have h3 : decide (d < 1) = false := by simp; omega
    have h4 : decide (d > 8) = false := by simp; omega
    have h5 : decide (t < 0) = false := by simp; omega
    have h6 : decide (t > 7) = false := by simp; omega
    have h7 := tmod2 (t - d)
    have h8 := tmod2 d
    rw [hw, h1, h2, h3, h4, h5, h6]
    simp only [cond_false, Bool.cond_eq_ite, beq_iff_eq]
    cases o
    · simp only [Bool.false_eq_true, if_false, false_implies, true_implies, and_true]
      repeat' split
      all_goals simp_all
      all_goals omega
    · simp only [if_true, true_implies, h7]
      repeat' split
      all_goals simp_all
      all_goals omega
  · constructor
    · intro h
      exfalso
      have : legalR_v e d s o t = false := by
        unfold legalR_v
        by_cases h1 : e < 0
        · simp only [h1, decide_true, cond_true]
        by_cases h2 : e > 60
        · simp only [h1, h2, decide_true, decide_false, cond_true, cond_false]
        by_cases h3 : d < 1
        · simp only [h1, h2, h3, decide_true, decide_false, cond_true, cond_false]
        by_cases h4 : d > 8
        · simp only [h1, h2, h3, h4, decide_true, decide_false, cond_true, cond_false]
        by_cases h5 : t < 0
        · simp only [h1, h2, h3, h4, h5, decide_true, decide_false, cond_true, cond_false]
          cases s == 1 <;> cases s == -1 <;> rfl
        by_cases h6 : t > 7
        · simp only [h1, h2, h3, h4, h5, h6, decide_true, decide_false, cond_true, cond_false]
          cases s == 1 <;> cases s == -1 <;> rfl
        exact absurd ⟨⟨by omega, by omega⟩, ⟨by omega, by omega⟩, ⟨by omega, by omega⟩⟩ hb
      rw [this] at h
      cases h
    · rintro ⟨a, b, c, d, _⟩
      exact absurd ⟨a, b, d⟩ hb
end Go.Proofs.YtkkmlbhmcdoibaaGreatDoor.S

namespace Go.Proofs.YtkkmlbhmcdoibaaGreatDoor.S
open Go.QfSy Go.RowKit
end Go.Proofs.YtkkmlbhmcdoibaaGreatDoor.S

namespace Go.Proofs.YtkkmlbhmcdoibaaGreatDoor.S
open Go.QfSy Go.RowKit
end Go.Proofs.YtkkmlbhmcdoibaaGreatDoor.S

namespace Go.Proofs.YtkkmlbhmcdoibaaGreatDoor.S
open Go.QfSy Go.RowKit
end Go.Proofs.YtkkmlbhmcdoibaaGreatDoor.S

namespace Go.Proofs.YtkkmlbhmcdoibaaGreatDoor.S
open Go.QfSy Go.RowKit
theorem st1 {L : List Con} {k : Nat} (h1 : 0 < (partM L ((k : Int) - 1)).length) (h2 : 0 < (partM L k).length) (h3 : ¬ (partM L ((k : Int) - 1)).getD 0 0 = (partM L k).getD 0 0) : stepM L k = add4 (add4 (flipS (flipS L k) (k - 1)) ((partM L ((k : Int) - 1)).getD 0 0)) ((partM L k).getD 0 0) := by
  unfold stepM
  have h4 : ((partM L ((k : Int) - 1)).getD 0 0 == (partM L k).getD 0 0) = false := by rw [beq_eq_false_iff_ne]; exact h3
  simp only [h1, h2, h4, decide_true, Bool.not_false, Bool.or_true, Bool.and_true, cond_true]
theorem st2 {L : List Con} {k : Nat} (h1 : 0 < (partM L ((k : Int) - 1)).length) (h3 : (partM L ((k : Int) - 1)).getD 0 0 = (partM L k).getD 0 0) : stepM L k = add4 (flipS (flipS L k) (k - 1)) ((partM L ((k : Int) - 1)).getD 0 0) := by
  unfold stepM
  have h4 : ((partM L ((k : Int) - 1)).getD 0 0 == (partM L k).getD 0 0) = true := by rw [beq_iff_eq]; exact h3
  have h5 : ((partM L ((k : Int) - 1)).length == 0) = false := by rw [beq_eq_false_iff_ne]; omega
  simp only [h1, h4, h5, decide_true, Bool.not_true, Bool.or_false, Bool.and_false, cond_true, cond_false]
end Go.Proofs.YtkkmlbhmcdoibaaGreatDoor.S

namespace Go.Proofs.YtkkmlbhmcdoibaaGreatDoor.S
open Go.QfSy Go.RowKit
end Go.Proofs.YtkkmlbhmcdoibaaGreatDoor.S

namespace Go.Proofs.YtkkmlbhmcdoibaaGreatDoor.S
open Go.QfSy Go.RowKit
end Go.Proofs.YtkkmlbhmcdoibaaGreatDoor.S

namespace Go.Proofs.YtkkmlbhmcdoibaaGreatDoor.S
open Go.QfSy Go.RowKit
end Go.Proofs.YtkkmlbhmcdoibaaGreatDoor.S

namespace Go.Proofs.YtkkmlbhmcdoibaaGreatDoor.S
open Go.QfSy Go.RowKit
end Go.Proofs.YtkkmlbhmcdoibaaGreatDoor.S

namespace Go.Proofs.YtkkmlbhmcdoibaaGreatDoor.S
open Go.QfSy Go.RowKit
end Go.Proofs.YtkkmlbhmcdoibaaGreatDoor.S

namespace Go.Proofs.YtkkmlbhmcdoibaaGreatDoor.S
open Go.QfSy Go.RowKit
end Go.Proofs.YtkkmlbhmcdoibaaGreatDoor.S

namespace Go.Proofs.YtkkmlbhmcdoibaaGreatDoor.S
open Go.QfSy Go.RowKit
end Go.Proofs.YtkkmlbhmcdoibaaGreatDoor.S

namespace Go.Proofs.YtkkmlbhmcdoibaaGreatDoor.S
open Go.QfSy Go.RowKit
end Go.Proofs.YtkkmlbhmcdoibaaGreatDoor.S

namespace Go.Proofs.YtkkmlbhmcdoibaaGreatDoor.S
open Go.QfSy Go.RowKit
end Go.Proofs.YtkkmlbhmcdoibaaGreatDoor.S

namespace Go.Proofs.YtkkmlbhmcdoibaaGreatDoor.S
open Go.QfSy Go.RowKit
end Go.Proofs.YtkkmlbhmcdoibaaGreatDoor.S

namespace Go.Proofs.YtkkmlbhmcdoibaaGreatDoor.S
open Go.QfSy Go.RowKit
end Go.Proofs.YtkkmlbhmcdoibaaGreatDoor.S

namespace Go.Proofs.YtkkmlbhmcdoibaaGreatDoor.S
open Go.QfSy Go.RowKit
def lgB (d s t : Int) : Bool := legalB ⟨0, d, s, true, t⟩
def lgN (d : Nat) (s : Bool) (t : Nat) : Bool := Nat.beq ((t + d) % 2) 0 && (bif Nat.beq d 1 then (bif s then Nat.beq t 1 || Nat.beq t 7 else Nat.beq t 3 || Nat.beq t 5) else bif Nat.beq d 2 then (bif s then !Nat.beq t 4 else !Nat.beq t 0) else true)
def sg (s : Bool) : Int := bif s then 1 else -1
theorem lgB_tab : ((List.range 8).all fun d => [true, false].all fun s => (List.range 8).all fun t => lgB ((d + 1 : Nat) : Int) (sg s) ((t : Nat) : Int) == lgN (d + 1) s t) = true := by kernel_rfl
theorem lgB_N {d t : Nat} {s : Bool} (h1 : 1 ≤ d) (h2 : d ≤ 8) (ht : t < 8) : lgB (d : Int) (sg s) (t : Int) = lgN d s t := by
  have h := lgB_tab
  rw [List.all_eq_true] at h
  have h := h (d - 1) (by simp; omega)
  rw [List.all_eq_true] at h
  have h := h s (by cases s <;> simp)
  rw [List.all_eq_true] at h
  have h := h t (by simp; omega)
  rw [show d - 1 + 1 = d by omega] at h
  exact beq_iff_eq.1 h
end Go.Proofs.YtkkmlbhmcdoibaaGreatDoor.S

namespace Go.Proofs.YtkkmlbhmcdoibaaGreatDoor.S
open Go.QfSy Go.RowKit
noncomputable def entsLj : List OEnt := [
  ⟨6, [], fun A => match A with
    | [.agg [.int .i64 e, .int .i64 d, .int .i64 s, .bool o, .int .i64 t]] => some (.bool (legalT_v e d s o t), [])
    | _ => none⟩,
  ⟨7, tabs, fun A => match A with
    | [] => some (.bool true, [])
    | _ => none⟩]
theorem entsLj_ok : ∀ e ∈ entsLj, EntOk Tryz.prog e := by
  intro e he
  simp only [entsLj, List.mem_cons, List.not_mem_nil, or_false] at he
  rcases he with rfl | rfl
  all_goals
    intro A R ms h hm
    simp only at h
    split at h
    all_goals first | (cases h; done) | cases h
  · exact legalT _ _ _ _ _
  · exact awake_pure
def oD (j : Nat) : Nat := 2 * (j % 4) + 1
def lJ (i : Nat) : Nat → Nat
  | 0 => i
  | k + 1 => lJ i k / 4
def lS (i : Nat) : Nat → Nat
  | 0 => 0
  | k + 1 => lS i k + oD (lJ i k)
def lP (i : Nat) : Nat → Nat
  | 0 => 1
  | k + 1 => (lP i k * oD (lJ i k)) % 8
def lT (n t : Nat) (sn : Bool) (i : Nat) : Bool := Nat.beq (lS i n % 8) t && ((Nat.beq (lP i n) 1 || Nat.beq (lP i n) 7) == sn)
def lF (n t : Nat) (sn : Bool) : Nat → Bool
  | 0 => false
  | i + 1 => lF n t sn i || lT n t sn i
theorem lF_tab : ((List.range 3).all fun n => (List.range 8).all fun t => [true, false].all fun s => lF (n + 1) t s 64 == lgN (n + 1) s t) = true := by kernel_rfl
theorem lgB_legal {e d s t : Int} (he : 0 ≤ e ∧ e ≤ 60) : legalB ⟨e, d, s, true, t⟩ = lgB d s t := by
  unfold lgB legalB
  congr 1
  unfold legalP
  simp only [eq_iff_iff]
  constructor
  · rintro ⟨_, h⟩; exact ⟨by decide, h⟩
  · rintro ⟨_, h⟩; exact ⟨he, h⟩
theorem legal_forms {e : Int} {n t : Nat} {sn : Bool} (he : 0 ≤ e ∧ e ≤ 60) (h1 : 1 ≤ n) (h3 : n ≤ 3) (ht : t < 8) : legalB ⟨e, (n : Int), sg sn, true, (t : Int)⟩ = lF n t sn 64 := by
  rw [lgB_legal he]
  have h := List.all_eq_true.1 (List.all_eq_true.1 (List.all_eq_true.1 lF_tab (n - 1) (List.mem_range.2 (by omega))) t (List.mem_range.2 ht)) sn (by cases sn <;> simp)
  rw [show n - 1 + 1 = n by omega] at h
  rw [eq_of_beq h]
  exact lgB_N (s := sn) h1 (by omega) ht
theorem oD_at (j : Nat) : ([1, 3, 5, 7] : List Int).getD ((((j : Nat) : Int).tmod 4).toNat + 0) 0 = ((oD j : Nat) : Int) := by
  have e : ((j : Nat) : Int).tmod 4 = ((j % 4 : Nat) : Int) := by rw [Int.tmod_eq_emod_of_nonneg (by omega)]; omega
  rw [e, Int.toNat_natCast, Nat.add_zero]
  unfold oD
  have h : j % 4 < 4 := Nat.mod_lt _ (by decide)
  generalize j % 4 = m at h
  match m, h with
  | 0, _ => rfl
  | 1, _ => rfl
  | 2, _ => rfl
  | 3, _ => rfl
theorem oD_b (j : Nat) : oD j ≤ 7 := by unfold oD; have h : j % 4 < 4 := Nat.mod_lt _ (by decide); omega
theorem tmod_b (j : Nat) : 0 ≤ ((j : Nat) : Int).tmod 4 ∧ ((j : Nat) : Int).tmod 4 < 4 := by rw [Int.tmod_eq_emod_of_nonneg (by omega)]; omega
theorem lJ_n (i k : Nat) : ((lJ i k : Nat) : Int).tdiv 4 = ((lJ i (k + 1) : Nat) : Int) := by rw [Int.tdiv_eq_ediv_of_nonneg (by omega)]; rfl
theorem lJ_b {i : Nat} : ∀ k, lJ i k ≤ i
  | 0 => Nat.le_refl _
  | k + 1 => by have := lJ_b (i := i) k; simp only [lJ]; omega
theorem lS_b {i : Nat} : ∀ k, lS i k ≤ 7 * k
  | 0 => by simp [lS]
  | k + 1 => by have := lS_b (i := i) k; have := oD_b (lJ i k); simp only [lS]; omega
theorem lP_b {i : Nat} : ∀ k, lP i k ≤ 7
  | 0 => by simp [lP]
  | k + 1 => by simp only [lP]; omega
theorem lS_n (i k : Nat) (hk : k ≤ 4) : IntKind.i64.wrap (((lS i k : Nat) : Int) + ((oD (lJ i k) : Nat) : Int)) = ((lS i (k + 1) : Nat) : Int) := by
  have h1 := lS_b (i := i) k
  have h2 := oD_b (lJ i k)
  rw [w64 (by omega) (by omega)]
  simp only [lS]; omega
theorem lP_n (i k : Nat) : (IntKind.i64.wrap (((lP i k : Nat) : Int) * ((oD (lJ i k) : Nat) : Int))).tmod 8 = ((lP i (k + 1) : Nat) : Int) := by
  have h1 := lP_b (i := i) k
  have h2 := oD_b (lJ i k)
  have h3 : lP i k * oD (lJ i k) ≤ 7 * 7 := Nat.mul_le_mul h1 h2
  have h4 : ((lP i k : Nat) : Int) * ((oD (lJ i k) : Nat) : Int) = ((lP i k * oD (lJ i k) : Nat) : Int) := by rw [Int.natCast_mul]
  rw [h4, w64 (by omega) (by omega), Int.tmod_eq_emod_of_nonneg (by omega)]
  rfl
noncomputable def ljH : List (Nat × Blk) := [(1000, ⟨.plain [.int .i64 1, .int .i64 3, .int .i64 5, .int .i64 7], 3, 1, false, true⟩)] ++ tabList tabs
noncomputable def ljT (a : Int) (sn : Bool) (t : Nat) (n : AV) : List (Nat × AV) := [(0, .vint .u8 a), (7, .slc 1000 0 4 4), (8, .vint .i64 (sg sn)), (9, .vint .i64 (t : Int)), (10, n)]
noncomputable def ljI (a : Int) (sn : Bool) (t n : Nat) (f : AV) (i : AV) : List (Nat × AV) := ljT a sn t (.vint .i64 (n : Int)) ++ [(11, f), (12, i)]
noncomputable def ljK (a : Int) (sn : Bool) (t n i : Nat) : Ann := ⟨⟨ljI a sn t n (.vbool (lF n t sn i)) (.vint .i64 (i : Int)) ++ [(13, .int .i64 0), (14, .int .i64 1), (15, .int .i64 0), (16, .vint .i64 (i : Int))], ljH, 1100⟩, none, fun _ =>
  (.exit 4, ⟨ljI a sn t n (.vbool (lF n t sn i)) (.vint .i64 (i : Int)) ++ [(13, .vint .i64 (lS i n : Nat)), (14, .vint .i64 (lP i n : Nat))], ljH, 1100⟩)⟩
set_option maxRecDepth 100000 in
theorem lj_k (a : Int) (sn : Bool) (t n x : Nat) (hn : n ≤ 4) (hx : x ≤ 64) : AnnOk Tryz.prog EV.ng (Nat.max 3 Tryz.f3.ntmps) (bodyAt Tryz.f3 [0, 1, 0, 1, 0, 0, 1, 0, 0, 1, 0, 1, 0, 0, 1, 0, 0, 1, 0, 1, 1, 1, 1, 1]) (ljK a sn t n x) := by
  refine ann_of evOk (callF_ok evOk (noOrc_ok _ _) 8) none_ann (by kernel_rfl) (by kernel_rfl) (fun i : Nat => (fun (k : Nat) => (⟨ljI a sn t n (.vbool (lF n t sn x)) (.vint .i64 (x : Int)) ++ [(13, .vint .i64 (lS x k : Nat)), (14, .vint .i64 (lP x k : Nat)), (15, .vint .i64 (k : Int)), (16, .vint .i64 (lJ x k : Nat))], ljH, 1100⟩ : St)) i) (fun i : Nat => (fun (k : Nat) => (n - k : Nat)) i) (fun (d : Bool) (i : Nat) => (fun (k : Nat) => (k ≤ n : Prop)) i) ?_ ?_
  · intro d hd
    exact ⟨(0), [a = a, sg sn = sg sn, (↑t : Int) = (↑t : Int), (↑n : Int) = (↑n : Int), lF n t sn x = lF n t sn x, (↑x : Int) = (↑x : Int), (0 : Int) = (↑(lS x (0 : Nat)) : Int), (1 : Int) = (↑(lP x (0 : Nat)) : Int), (0 : Int) = (↑(0 : Nat) : Int), (↑x : Int) = (↑(lJ x (0 : Nat)) : Int)], by kernel_rfl, (by refine ⟨?_, ?_, ?_, ?_, ?_, ?_, ?_, ?_, ?_, (?_ : (↑x : Int) = (↑(lJ x (0 : Nat)) : Int))⟩ <;> (first | rfl | assumption | omega | simp_all)), (by exact Nat.zero_le _)⟩
  · rintro d hd k hI
    cases d
    · -- d = false
      exact Bool.noConfusion (show false = true from hd)
    · -- d = true
      have hk : k ≤ n := hI
      have ek : IntKind.i64.wrap ((k : Int) + 1) = ((k + 1 : Nat) : Int) := by rw [w64 (by omega) (by omega)]; omega
      have e1 := oD_at (lJ x k)
      have e2 := tmod_b (lJ x k)
      have e3 : IntKind.i64.wrap ((lJ x k : Int).tdiv 4) = ((lJ x (k + 1) : Nat) : Int) := by rw [lJ_n, w64 (by have := lJ_b (i := x) (k + 1); omega) (by have := lJ_b (i := x) (k + 1); omega)]
      have e4 := lJ_b (i := x) k
      have e5 := lS_n x k (by omega)
      have e6 := lP_n x k
      refine Or.elim (Bool.eq_false_or_eq_true (decide ((↑k : Int) < (↑n : Int)))) (fun d1 => ⟨[true], .inl ⟨(k + 1), [a = a, sg sn = sg sn, (↑t : Int) = (↑t : Int), (↑n : Int) = (↑n : Int), lF n t sn x = lF n t sn x, (↑x : Int) = (↑x : Int), IntKind.i64.wrap ((↑(lS x k) : Int) + [(1 : Int), (3 : Int), (5 : Int), (7 : Int)].getD (((↑(lJ x k) : Int).tmod (4 : Int)).toNat + (0 : Nat)) (0 : Int)) = (↑(lS x (k + (1 : Nat))) : Int), (IntKind.i64.wrap ((↑(lP x k) : Int) * [(1 : Int), (3 : Int), (5 : Int), (7 : Int)].getD (((↑(lJ x k) : Int).tmod (4 : Int)).toNat + (0 : Nat)) (0 : Int))).tmod (8 : Int) = (↑(lP x (k + (1 : Nat))) : Int), IntKind.i64.wrap ((↑k : Int) + (1 : Int)) = (↑(k + (1 : Nat)) : Int), IntKind.i64.wrap ((↑(lJ x k) : Int).tdiv (4 : Int)) = (↑(lJ x (k + (1 : Nat))) : Int), (4 : Int) ≠ (0 : Int), (8 : Int) ≠ (0 : Int), ((↑(lJ x k) : Int).tmod (4 : Int)).toNat + (0 : Nat) < [(1 : Int), (3 : Int), (5 : Int), (7 : Int)].length, (0 : Int) ≤ (↑(lJ x k) : Int).tmod (4 : Int) ∧ (↑(lJ x k) : Int).tmod (4 : Int) < (↑(4 : Nat) : Int), (4 : Int) ≠ (0 : Int), ((↑(lJ x k) : Int).tmod (4 : Int)).toNat + (0 : Nat) < [(1 : Int), (3 : Int), (5 : Int), (7 : Int)].length, (0 : Int) ≤ (↑(lJ x k) : Int).tmod (4 : Int) ∧ (↑(lJ x k) : Int).tmod (4 : Int) < (↑(4 : Nat) : Int), (4 : Int) ≠ (0 : Int), Dec (decide ((↑k : Int) < (↑n : Int))) true], by kernel_rfl, ⟨?_, ?_, ?_, ?_, ?_, ?_, ?_, ?_, ?_, ?_, ?_, ?_, ?_, ?_, ?_, ?_, ?_, ?_, d1⟩, MuG.out ?_, InG.out ?_⟩⟩)
           (fun d1 => ⟨[false], .inr ⟨[a = a, sg sn = sg sn, (↑t : Int) = (↑t : Int), (↑n : Int) = (↑n : Int), lF n t sn x = lF n t sn x, (↑x : Int) = (↑x : Int), (↑(lS x k) : Int) = (↑(lS x n) : Int), (↑(lP x k) : Int) = (↑(lP x n) : Int), Dec (decide ((↑k : Int) < (↑n : Int))) false], by kernel_rfl, ⟨?_, ?_, ?_, ?_, ?_, ?_, ?_, ?_, d1⟩, rfl⟩⟩)
      all_goals first | (refine MuG.mk ?_; (simp only [decide_eq_true_eq] at *; show n - (k + 1) < n - k; omega)) | (refine InG.mk ?_; (simp only [decide_eq_true_eq] at *; show k + 1 ≤ _; omega)) | (refine CtG.mk ?_; (simp_all)) | (first | (with_reducible rfl) | exact ⟨rfl, rfl⟩ | decide | ((try simp only [ek, e1, e5, e6, decide_eq_true_eq, decide_eq_false_iff_not] at *) <;> first | omega | exact e3 | (show _ < 4; omega) | (have hkn : k = n := (by omega); subst hkn; rfl) | exact (5 : Nat)))
theorem lT_b (n t x : Nat) (sn : Bool) : lT n t sn x = (((lS x n : Nat) : Int) % 8 == (t : Int) && (((((lP x n : Nat) : Int) == 1) || (((lP x n : Nat) : Int) == 7)) == sn)) := by
  have k : ∀ a b : Nat, Nat.beq a b = (((a : Nat) : Int) == ((b : Nat) : Int)) := fun a b => by
    cases h : Nat.beq a b with
    | true => have := Nat.eq_of_beq_eq_true h; subst this; exact (beq_self_eq_true _).symm
    | false =>
      refine (beq_eq_false_iff_ne.2 fun e => ?_).symm
      have : a = b := by omega
      subst this
      rw [Nat.beq_refl] at h; cases h
  unfold lT
  rw [k, k, k]
  rfl
theorem sg_one (sn : Bool) : (sg sn == 1) = sn := by cases sn <;> rfl
noncomputable def ljN (a : Int) (sn : Bool) (t n : Nat) : Ann := ⟨⟨ljI a sn t n (.bool false) (.int .i64 0), ljH, 1100⟩, none, fun _ => (.exit 2, ⟨ljT a sn t (.vint .i64 (n : Int)) ++ [(11, .vbool (lF n t sn 64))], ljH, 1100⟩)⟩
set_option maxRecDepth 100000 in
theorem lj_i (a : Int) (sn : Bool) (t n : Nat) (hn : n ≤ 4) (ht : t < 8) : AnnOk Tryz.prog EV.ng (Nat.max 3 Tryz.f3.ntmps) (bodyAt Tryz.f3 [0, 1, 0, 1, 0, 0, 1, 0, 0, 1, 0, 1, 1, 1, 1, 1]) (ljN a sn t n) := by
  refine ann_ofI evOk (callF_ok evOk (noOrc_ok _ _) 8) (by kernel_rfl) (by kernel_rfl) (fun i : Nat => (fun (x : Nat) => (⟨ljI a sn t n (.vbool (lF n t sn x)) (.vint .i64 (x : Int)), ljH, 1100⟩ : St)) i) (fun i : Nat => (fun (x : Nat) => (64 - x : Nat)) i) (fun (d : Bool) (i : Nat) => (fun (x : Nat) => (x ≤ 64 : Prop)) i) (fun i : Nat => (fun (x : Nat) => ([([0, 1, 0, 1, 0, 0, 1, 0, 0, 1, 0, 1, 0, 0, 1, 0, 0, 1, 0, 1, 1, 1, 1, 1], ljK a sn t n x)] : List (List Nat × Ann))) i) ?_ ?_ ?_
  · rintro d hd x hI
    exact one_ann (lj_k a sn t n x hn hI)
  · intro d hd
    exact ⟨(0), [a = a, sg sn = sg sn, (↑t : Int) = (↑t : Int), (↑n : Int) = (↑n : Int), false = false, (0 : Int) = (↑(0 : Nat) : Int)], by kernel_rfl, (by refine ⟨?_, ?_, ?_, ?_, ?_, (?_ : (0 : Int) = (↑(0 : Nat) : Int))⟩ <;> (first | rfl | assumption | omega | simp_all)), (by exact Nat.zero_le _)⟩
  · rintro d hd x hI
    cases d
    · -- d = false
      exact Bool.noConfusion (show false = true from hd)
    · -- d = true
      have hx : x ≤ 64 := hI
      have ek : IntKind.i64.wrap ((x : Int) + 1) = ((x + 1 : Nat) : Int) := by rw [w64 (by omega) (by omega)]; omega
      have es := sg_one sn
      have et : ((lS x n : Nat) : Int).tmod 8 = ((lS x n : Nat) : Int) % 8 := Int.tmod_eq_emod_of_nonneg (by omega)
      have eT := lT_b n t x sn
      refine Or.elim (Bool.eq_false_or_eq_true (decide ((↑x : Int) < (64 : Int)))) (fun d1 => Or.elim (Bool.eq_false_or_eq_true (lF n t sn x)) (fun d2 => ⟨[true, true], .inl ⟨(x + 1), [a = a, sg sn = sg sn, (↑t : Int) = (↑t : Int), (↑n : Int) = (↑n : Int), true = lF n t sn (x + (1 : Nat)), IntKind.i64.wrap ((↑x : Int) + (1 : Int)) = (↑(x + (1 : Nat)) : Int), Dec (lF n t sn x) true, a = a, sg sn = sg sn, (↑t : Int) = (↑t : Int), (↑n : Int) = (↑n : Int), lF n t sn x = lF n t sn x, (↑x : Int) = (↑x : Int), (↑x : Int) = (↑x : Int), Dec (decide ((↑x : Int) < (64 : Int))) true], by kernel_rfl, ⟨?_, ?_, ?_, ?_, ?_, ?_, d2, ?_, ?_, ?_, ?_, ?_, ?_, ?_, d1⟩, MuG.out ?_, InG.out ?_⟩⟩)
           (fun d2 => Or.elim (Bool.eq_false_or_eq_true ((↑(lS x n) : Int).tmod (8 : Int) == (↑t : Int))) (fun d3 => Or.elim (Bool.eq_false_or_eq_true ((↑(lP x n) : Int) == (1 : Int))) (fun d4 => ⟨[true, false, true, true], .inl ⟨(x + 1), [a = a, sg sn = sg sn, (↑t : Int) = (↑t : Int), (↑n : Int) = (↑n : Int), (true == (sg sn == (1 : Int))) = lF n t sn (x + (1 : Nat)), IntKind.i64.wrap ((↑x : Int) + (1 : Int)) = (↑(x + (1 : Nat)) : Int), Dec ((↑(lP x n) : Int) == (1 : Int)) true, Dec ((↑(lS x n) : Int).tmod (8 : Int) == (↑t : Int)) true, (8 : Int) ≠ (0 : Int), Dec (lF n t sn x) false, a = a, sg sn = sg sn, (↑t : Int) = (↑t : Int), (↑n : Int) = (↑n : Int), lF n t sn x = lF n t sn x, (↑x : Int) = (↑x : Int), (↑x : Int) = (↑x : Int), Dec (decide ((↑x : Int) < (64 : Int))) true], by kernel_rfl, ⟨?_, ?_, ?_, ?_, ?_, ?_, d4, d3, ?_, d2, ?_, ?_, ?_, ?_, ?_, ?_, ?_, d1⟩, MuG.out ?_, InG.out ?_⟩⟩)
           (fun d4 => ⟨[true, false, true, false], .inl ⟨(x + 1), [a = a, sg sn = sg sn, (↑t : Int) = (↑t : Int), (↑n : Int) = (↑n : Int), (((↑(lP x n) : Int) == (7 : Int)) == (sg sn == (1 : Int))) = lF n t sn (x + (1 : Nat)), IntKind.i64.wrap ((↑x : Int) + (1 : Int)) = (↑(x + (1 : Nat)) : Int), Dec ((↑(lP x n) : Int) == (1 : Int)) false, Dec ((↑(lS x n) : Int).tmod (8 : Int) == (↑t : Int)) true, (8 : Int) ≠ (0 : Int), Dec (lF n t sn x) false, a = a, sg sn = sg sn, (↑t : Int) = (↑t : Int), (↑n : Int) = (↑n : Int), lF n t sn x = lF n t sn x, (↑x : Int) = (↑x : Int), (↑x : Int) = (↑x : Int), Dec (decide ((↑x : Int) < (64 : Int))) true], by kernel_rfl, ⟨?_, ?_, ?_, ?_, ?_, ?_, d4, d3, ?_, d2, ?_, ?_, ?_, ?_, ?_, ?_, ?_, d1⟩, MuG.out ?_, InG.out ?_⟩⟩))
           (fun d3 => ⟨[true, false, false], .inl ⟨(x + 1), [a = a, sg sn = sg sn, (↑t : Int) = (↑t : Int), (↑n : Int) = (↑n : Int), false = lF n t sn (x + (1 : Nat)), IntKind.i64.wrap ((↑x : Int) + (1 : Int)) = (↑(x + (1 : Nat)) : Int), Dec ((↑(lS x n) : Int).tmod (8 : Int) == (↑t : Int)) false, (8 : Int) ≠ (0 : Int), Dec (lF n t sn x) false, a = a, sg sn = sg sn, (↑t : Int) = (↑t : Int), (↑n : Int) = (↑n : Int), lF n t sn x = lF n t sn x, (↑x : Int) = (↑x : Int), (↑x : Int) = (↑x : Int), Dec (decide ((↑x : Int) < (64 : Int))) true], by kernel_rfl, ⟨?_, ?_, ?_, ?_, ?_, ?_, d3, ?_, d2, ?_, ?_, ?_, ?_, ?_, ?_, ?_, d1⟩, MuG.out ?_, InG.out ?_⟩⟩)))
           (fun d1 => ⟨[false], .inr ⟨[a = a, sg sn = sg sn, (↑t : Int) = (↑t : Int), (↑n : Int) = (↑n : Int), lF n t sn x = lF n t sn (64 : Nat), Dec (decide ((↑x : Int) < (64 : Int))) false], by kernel_rfl, ⟨?_, ?_, ?_, ?_, ?_, d1⟩, rfl⟩⟩)
      all_goals first | (refine MuG.mk ?_; (simp only [decide_eq_true_eq] at *; show 64 - (x + 1) < 64 - x; omega)) | (refine InG.mk ?_; (simp only [decide_eq_true_eq] at *; show x + 1 ≤ _; omega)) | (refine CtG.mk ?_; (simp_all)) | (first | (with_reducible rfl) | exact ⟨rfl, rfl⟩ | decide | (simp only [decide_eq_true_eq, decide_eq_false_iff_not] at d1; have hx2 : x = 64 := (by omega); subst hx2; rfl) | (show _ = (lF n t sn x || lT n t sn x); rw [d2]; rfl) | (show _ = (lF n t sn x || lT n t sn x); rw [eT, ← et, d2, d3]; rfl) | (show _ = (lF n t sn x || lT n t sn x); rw [eT, ← et, d2, d3, d4, es]; cases sn <;> rfl) | (show _ = (lF n t sn x || lT n t sn x); rw [eT, ← et, d2, d3, d4, es, Bool.false_or, Bool.true_and, Bool.false_or]; done) | ((try simp only [ek, decide_eq_true_eq, decide_eq_false_iff_not] at *) <;> first | omega | exact (5 : Nat)))
noncomputable def ljO (a : Int) (sn : Bool) (t : Nat) : Ann := ⟨⟨ljT a sn t (.int .i64 1), ljH, 1100⟩, none, fun _ => (.exit 0, ⟨[], tabList tabs, 1100⟩)⟩
theorem lj_eq {a : Int} {n t : Nat} {sn : Bool} (ha : U8 a) (h1 : 1 ≤ n) (h3 : n ≤ 3) (ht : t < 8) : legalT_v ((IntKind.i64.wrap a).tmod 60) (n : Int) (sg sn) true (t : Int) = lF n t sn 64 := by
  have h0 : 0 ≤ a := ha.1
  have h9 : a ≤ 255 := ha.2
  have e0 : (IntKind.i64.wrap a).tmod 60 = a % 60 := by rw [w64 (by omega) (by omega), Int.tmod_eq_emod_of_nonneg h0]
  rw [e0]
  have e2 : legalT_v (a % 60) (n : Int) (sg sn) true (t : Int) = legalB ⟨a % 60, (n : Int), sg sn, true, (t : Int)⟩ := legalR_eq ⟨a % 60, (n : Int), sg sn, true, (t : Int)⟩
  rw [e2]
  exact legal_forms (by omega) h1 h3 ht
set_option maxRecDepth 100000 in
theorem lj_n (a : Int) (sn : Bool) (t : Nat) (ha : U8 a) (ht : t < 8) : AnnOk Tryz.prog EV.ng (Nat.max 3 Tryz.f3.ntmps) (bodyAt Tryz.f3 [0, 1, 0, 1, 1, 1, 1, 1]) (ljO a sn t) := by
  refine ann_ofI evOk (callF_ok evOk (orcOf_ok entsLj_ok) 8) (by kernel_rfl) (by kernel_rfl) (fun i : Nat => (fun (n : Nat) => (⟨ljT a sn t (.vint .i64 (n : Int)), ljH, 1100⟩ : St)) i) (fun i : Nat => (fun (n : Nat) => (4 - n : Nat)) i) (fun (d : Bool) (i : Nat) => (fun (n : Nat) => (1 ≤ n ∧ n ≤ 4 : Prop)) i) (fun i : Nat => (fun (n : Nat) => ([([0, 1, 0, 1, 0, 0, 1, 0, 0, 1, 0, 1, 1, 1, 1, 1], ljN a sn t n)] : List (List Nat × Ann))) i) ?_ ?_ ?_
  · rintro d hd n hI
    exact one_ann (lj_i a sn t n hI.2 ht)
  · intro d hd
    exact ⟨(1), [a = a, sg sn = sg sn, (↑t : Int) = (↑t : Int), (1 : Int) = (↑(1 : Nat) : Int)], by kernel_rfl, (by refine ⟨?_, ?_, ?_, (?_ : (1 : Int) = (↑(1 : Nat) : Int))⟩ <;> (first | rfl | assumption | omega | simp_all)), (by exact ⟨Nat.le_refl _, by decide⟩)⟩
  · rintro d hd n hI
    cases d
    · -- d = false
      exact Bool.noConfusion (show false = true from hd)
    · -- d = true
      have hn : 1 ≤ n ∧ n ≤ 4 := hI
      have ek : IntKind.i64.wrap ((n : Int) + 1) = ((n + 1 : Nat) : Int) := by rw [w64 (by omega) (by omega)]; omega
      refine Or.elim (Bool.eq_false_or_eq_true (decide ((↑n : Int) ≤ (3 : Int)))) (fun d1 => Or.elim (Bool.eq_false_or_eq_true (legalT_v ((IntKind.i64.wrap a).tmod (60 : Int)) (↑n : Int) (sg sn) true (↑t : Int) == lF n t sn (64 : Nat))) (fun d2 => ⟨[true, false], .inl ⟨(n + 1), [a = a, sg sn = sg sn, (↑t : Int) = (↑t : Int), IntKind.i64.wrap ((↑n : Int) + (1 : Int)) = (↑(n + (1 : Nat)) : Int), Dec (!legalT_v ((IntKind.i64.wrap a).tmod (60 : Int)) (↑n : Int) (sg sn) true (↑t : Int) == lF n t sn (64 : Nat)) false, (60 : Int) ≠ (0 : Int), a = a, sg sn = sg sn, (↑t : Int) = (↑t : Int), (↑n : Int) = (↑n : Int), Dec (decide ((↑n : Int) ≤ (3 : Int))) true], by kernel_rfl, ⟨?_, ?_, ?_, ?_, (dN d2), ?_, ?_, ?_, ?_, ?_, d1⟩, MuG.out ?_, InG.out ?_⟩⟩)
           (fun d2 => CtG.no ?_))
           (fun d1 => ⟨[false], .inr ⟨[Dec (decide ((↑n : Int) ≤ (3 : Int))) false], by kernel_rfl, d1, rfl⟩⟩)
      all_goals first | (refine MuG.mk ?_; (simp only [decide_eq_true_eq] at *; show 4 - (n + 1) < 4 - n; omega)) | (refine InG.mk ?_; (simp only [decide_eq_true_eq] at *; show 1 ≤ n + 1 ∧ n + 1 ≤ 4; omega)) | (refine CtG.mk ?_; (simp only [decide_eq_true_eq, decide_eq_false_iff_not] at d1; exact absurd d2 (by rw [lj_eq ha hn.1 (by omega) ht, beq_self_eq_true]; decide))) | (first | (with_reducible rfl) | exact ⟨rfl, rfl⟩ | decide | ((try simp only [ek, decide_eq_true_eq, decide_eq_false_iff_not] at *) <;> first | omega | exact (5 : Nat)))
set_option maxRecDepth 100000 in
theorem forms_y (a : Int) (sn : Bool) (o : Int) (t : Nat) (ha : U8 a) (ht : t < 8) (ho : (IntKind.i64.wrap o).tmod 8 = (t : Int)) : PureC Tryz.prog tabs 3 [.int .u8 a, .bool sn, .int .u8 o] (.bool true) := by
  have rr := fun (tp : List Bool) (ms : List Prop) h hm => pure_run evOk (callF_ok evOk (orcOf_ok entsLj_ok) 8) Tryz.func3 (A := [.int .u8 a, .bool sn, .int .u8 o]) (N := Nat.max 1 Tryz.f3.ntmps) rfl (one_ann (lj_n a sn t ha ht)) rfl rfl evNg (tabs := tabs) (R := .bool true) (tp := tp) (ms := ms) h hm
  refine Or.elim (Bool.eq_false_or_eq_true (sn)) (fun d1 => rr [false] [true = true, a = a, (1 : Int) = sg sn, (IntKind.i64.wrap o).tmod (8 : Int) = (↑t : Int), (8 : Int) ≠ (0 : Int), Dec (!sn) false] (by kernel_rfl) ⟨?_, ?_, ?_, ?_, ?_, (dN d1)⟩)
           (fun d1 => rr [true] [true = true, a = a, (-1 : Int) = sg sn, (IntKind.i64.wrap o).tmod (8 : Int) = (↑t : Int), (8 : Int) ≠ (0 : Int), Dec (!sn) true] (by kernel_rfl) ⟨?_, ?_, ?_, ?_, ?_, (dN d1)⟩)
  all_goals first | (first | (with_reducible rfl) | (with_reducible exact ⟨rfl, rfl⟩) | decide | exact ho | (rw [d1]; rfl) | exact (5 : Nat))
theorem trainLegalForms_pure (a : Int) (sn : Bool) (o : Int) (ha : U8 a) (ho : U8 o) : PureC Tryz.prog tabs 3 [.int .u8 a, .bool sn, .int .u8 o] (.bool true) := by
  have h0 : 0 ≤ o := ho.1
  have h9 : o ≤ 255 := ho.2
  refine forms_y a sn o (o % 8).toNat ha (by omega) ?_
  rw [w64 (by omega) (by omega), Int.tmod_eq_emod_of_nonneg h0]
  omega
end Go.Proofs.YtkkmlbhmcdoibaaGreatDoor.S

namespace Go.Proofs.YtkkmlbhmcdoibaaGreatDoor.trainLegalForms
open Go.ChangeShapes Go.WideShapes Go.ChangeAt Go.RowKit Go.Joins Go.Deep
open Go.QfSy (Con RV RRel RsRel FzAt roC Fz Tb TabW PureC)
open S
theorem readable : ∀ t ∈ Tryz.f3.params.toList, Tryz.prog.readableRec t = true ∧ t < Tryz.prog.types.size := by
  have h : (Tryz.f3.params.toList.all fun t => Tryz.prog.readableRec t && Nat.blt t Tryz.prog.types.size) = true := by kernel_rfl
  intro t ht
  have := List.all_eq_true.1 h t ht
  simp only [Bool.and_eq_true] at this
  exact ⟨this.1, Nat.le_of_ble_eq_true this.2⟩
set_option maxRecDepth 100000 in
theorem contract (H : Type) (enc : TypeId × Value → H) (W : World) (base : Nat) (args : Array Value) (ds gs : List (DataW H)) (before : List MemPlace)
    (hval : ∀ (j : Nat) t v, Tryz.f3.params[j]? = some t → args[j]? = some v → Value.okWide Tryz.prog W .any base t v)
    (hW : DataW.Whole enc Tryz.prog Tryz.f3.params.toList Rows.trainLegalFormsSpec.vars false W args.toList ds gs before) (hO : TabW tabs W) :
    Calls Tryz.prog 3 args W fun e W' => ∃ v, e = .returned v ∧ Rows.trainLegalFormsSpec.post enc Tryz.prog Tryz.f3 false true false false W args v W' := by
  have hW' := hW
  obtain ⟨p, q, hA0, hV, rfl, hfz, hnd⟩ := hW
  have hA : DataW.TrodAll enc Tryz.prog W 0 (fun _ => true) true Tryz.f3.params.toList args.toList ds p := hA0
  rw [Tryz.params3] at hA hval
  obtain ⟨v0, vs0, d0, ds0, p0, q0, hargs0, rfl, rfl, h0, r0⟩ := trodAll_cons hA
  obtain ⟨v1, vs1, d1, ds1, p1, q1, hargs1, rfl, rfl, h1, r1⟩ := trodAll_cons r0
  obtain ⟨v2, vs2, d2, ds2, p2, q2, hargs2, rfl, rfl, h2, r2⟩ := trodAll_cons r1
  obtain ⟨rfl, rfl, rfl⟩ := trodAll_nil r2
  obtain rfl : args = #[v0, v1, v2] := by cases args; simp_all
  obtain ⟨z0, rfl, rfl, rfl, hz0⟩ := open_int Tryz.underlying5 (hval 0 5 v0 rfl rfl) h0
  have hr0 : RRel (Wz W) (.int .u8 z0) (.int .u8 z0) := .int _ _
  obtain ⟨b1, rfl, rfl, rfl⟩ := open_bool Tryz.underlying4 (hval 1 4 v1 rfl rfl) h1
  have hr1 : RRel (Wz W) (.bool b1) (.bool b1) := .bool _
  obtain ⟨z2, rfl, rfl, rfl, hz2⟩ := open_int Tryz.underlying5 (hval 2 5 v2 rfl rfl) h2
  have hr2 : RRel (Wz W) (.int .u8 z2) (.int .u8 z2) := .int _ _
  refine (pure_calls (trainLegalForms_pure z0 b1 z2 (wf_u8 hz0) (wf_u8 hz2)) hO (.cons hr0 (.cons hr1 (.cons hr2 .nil)))).mono fun e W' ⟨he, hb⟩ => ?_
  exact ⟨_, he, law_post laidOut readable rfl Tryz.underlying4 rfl hW' rfl hb⟩
def wArgs : Array Value := #[.int .u8 0, .bool false, .int .u8 0]
theorem laid_met (os : Os) : laidMet Tryz.prog Rows.trainLegalFormsRow.laid ((laidWorld os).forCall (fun _ _ => 0) ⟨#[], wArgs, []⟩).memory :=
  laidMet_of_run' 8 (by kernel_rfl) (by kernel_rfl)
theorem reads (os : Os) {H : Type} (enc : TypeId × Value → H) : ∃ ds places, DataW.whole enc Tryz.prog ((laidWorld os).forCall (fun _ _ => 0) ⟨#[], wArgs, []⟩).memory Tryz.f3.params.toList Rows.trainLegalFormsSpec.vars false wArgs.toList 8 = some (ds, [], places) :=
  ⟨[.lit (.int .u8 0), .lit (.bool false), .lit (.int .u8 0)], [], by kernel_rfl⟩
set_option maxRecDepth 100000 in
theorem lifted (os : Os) (started : os.Started) (H : Type) (enc : TypeId × Value → H) (F : Stop.Interp) :
    ReturnsInHanded {} Tryz.checked os 3 .any ((OpenSpec.ofChange Rows.trainLegalFormsSpec).preRow enc Tryz.prog Tryz.f3 Rows.trainLegalFormsRow.domain false Rows.trainLegalFormsRow.laid) (((OpenSpec.ofChange Rows.trainLegalFormsSpec).at F).post enc Tryz.prog Tryz.f3 false true false false) := by
  refine returnsInHanded_of_row (C := Tryz.checked) (s := OpenSpec.ofChange Rows.trainLegalFormsSpec) own started (by kernel_rfl) Tryz.func3
    (witness_row_at (enc := enc) (C := Tryz.checked) false (laidWorld os) wArgs rfl (by kernel_rfl) (by kernel_rfl) (by kernel_rfl)
      (OpenSpec.preRow_of_cond 8 (reads os enc).choose_spec.choose_spec (by kernel_rfl) (fun k hk => by cases hk) (by kernel_rfl) (laid_met os))) ?_
  intro W base args ds gs before hval hW _ _ _ hL hS _
  exact contract H enc W base args ds gs before hval hW (tabs_of hL hS)
theorem named : Tryz.prog.funcNamed Rows.trainLegalFormsRow.func = some 3 := by kernel_rfl
theorem facts : joinedFacts Tryz.prog 3 Tryz.f3 (OpenSpec.ofChange Rows.trainLegalFormsSpec).bare Rows.trainLegalFormsRow = true := by kernel_rfl
theorem inst : Tryz.f3.isInstance Tryz.prog Rows.trainLegalFormsRow.origin Rows.trainLegalFormsRow.targs := of_decide_eq_true (by kernel_rfl)
theorem wrap : Tryz.f3.isWrapper Tryz.prog Rows.trainLegalFormsRow.wrapper Rows.trainLegalFormsRow.mainSum := by
  unfold Func.isWrapper; first | (rw [if_pos (by decide +kernel)]; kernel_rfl) | (rw [if_neg (by decide +kernel)]; exact ⟨rfl, rfl⟩)
theorem said : Rows.TrainLegalFormsSaid :=
  OpenClaim.holds_of_cond 3 Tryz.f3 rfl rfl rfl rfl rfl rfl rfl ⟨rfl, rfl, rfl, rfl, rfl⟩ rfl rfl rfl rfl rfl named Tryz.func3 facts inst wrap
    (fun os started H enc _ F => by rw [OpenClaim.pre_eq_preRow]; exact lifted os started H enc F)
end Go.Proofs.YtkkmlbhmcdoibaaGreatDoor.trainLegalForms

namespace Go.Proofs.YtkkmlbhmcdoibaaGreatDoor.trainLegalForms
open Go.ChangeShapes Go.WideShapes Go.ChangeAt Go.RowKit Go.Joins Go.Deep
theorem stands : (Tryz.f3.params.toList.all fun t => !Tryz.prog.wantsStandIn t) = true := by kernel_rfl
theorem looks : false = Tryz.prog.looks [] := by kernel_rfl
theorem plain (f : FuncId) (fn : Func) (hf : Tryz.pinned.checked.prog.funcNamed "quadform/quadformlaw27.TrainLegalForms" = some f) (hfn : Tryz.pinned.checked.prog.funcs[f]? = some fn) :
    false = Tryz.pinned.checked.prog.looks [] ∧ ∀ (j : Nat) t, fn.params[j]? = some t → Tryz.pinned.checked.prog.wantsStandIn t = false := by
  obtain rfl : f = 3 := Option.some.inj (named.symm.trans hf) |>.symm
  obtain rfl : fn = Tryz.f3 := (Option.some.inj (Tryz.func3.symm.trans hfn)).symm
  refine ⟨looks, fun j t ht => ?_⟩
  have := List.all_eq_true.1 stands t (by simpa using Array.mem_of_getElem? ht)
  exact (by simpa using this : Tryz.prog.wantsStandIn t = false)
theorem holds : Rows.TrainLegalFormsCardSaid :=
  Claim7.holds_tied_plain_at .later [] _ _ _ _ said (fun _ h => by cases h) (by kernel_rfl) (fun _ h => by cases h) trainLegalForms_row_tie rfl ⟨rfl, rfl⟩ (by kernel_rfl) rfl plain (by kernel_rfl)
end Go.Proofs.YtkkmlbhmcdoibaaGreatDoor.trainLegalForms

