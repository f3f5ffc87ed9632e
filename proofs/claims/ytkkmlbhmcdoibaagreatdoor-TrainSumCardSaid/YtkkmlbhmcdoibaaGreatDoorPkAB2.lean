/- A part of the proof of the laws: YA, YR, YU, TD, TF, YK, TE, TG, TH, TI, RB, RC, TJ, TM, RD, TK, RA, RE, TL, UA, UB, UC, UD, UE, UF, UG, VA, VB, VC, VD, VP, VF1, SM. -/
import Derived.Test.YtkkmlbhmcdoibaaGreatDoorPkAB1
set_option linter.unusedSimpArgs false
set_option linter.unusedVariables false
namespace Go.Proofs.YtkkmlbhmcdoibaaGreatDoor.S
open Go.QfSy Go.RowKit
def orderA (L : List Con) : Ann := ⟨⟨[(0, (roC L).av), (3, .int .i64 0), (6, (roC L).av), (7, .vint .i64 L.length), (8, .int .i64 0)], [], 1000⟩, some (ordL L (-1) 0), fun d => match d with
  | true => (.exit 0, ⟨[(3, .vint .i64 (dimS L))], [], 1000⟩)
  | false => (.ret, ⟨[(2, .bool false)], [], 1000⟩)⟩
set_option maxRecDepth 100000 in
theorem order_loop (L : List Con) (hn : L.length ≤ 1000000) : AnnOk Tryz.prog EV.ng (Nat.max 1 Tryz.f39.ntmps) (bodyAt Tryz.f39 [0, 1, 0, 1, 1]) (orderA L) := by
  refine ann_of evOk (callF_ok evOk (noOrc_ok _ _) 8) none_ann (by kernel_rfl) (by kernel_rfl) (fun i : Nat × Int => (fun (k : Nat) (s : Int) => (⟨[(0, (roC L).av), (3, .vint .i64 s), (6, (roC L).av), (7, .vint .i64 L.length), (8, .vint .i64 (k : Int))], [], 1000⟩ : St)) i.1 i.2) (fun i : Nat × Int => (fun (k : Nat) (s : Int) => (L.length - k : Nat)) i.1 i.2) (fun (d : Bool) (i : Nat × Int) => (fun (k : Nat) (s : Int) => (k ≤ L.length ∧ 0 ≤ s ∧ s ≤ 8 ∧ s = dimS (L.take k) ∧ ordL (L.drop k) (lastO L k) s = d : Prop)) i.1 i.2) ?_ ?_
  · intro d hd
    exact ⟨(0, 0), [L.length = L.length ∧ (fun i => (L.getD i Con.zero).rvs) = fun i => (L.getD i Con.zero).rvs, (0 : Int) = (0 : Int), L.length = L.length ∧ (fun i => (L.getD i Con.zero).rvs) = fun i => (L.getD i Con.zero).rvs, (↑L.length : Int) = (↑L.length : Int), (0 : Int) = (↑(0 : Nat) : Int)], by kernel_rfl, (by refine ⟨?_, ?_, ?_, ?_, (?_ : (0 : Int) = (↑(0 : Nat) : Int))⟩ <;> (first | rfl | assumption | omega | simp_all)), (by exact ⟨Nat.zero_le _, by decide, by decide, rfl, hd⟩)⟩
  · rintro d hd ⟨k, s⟩ hI
    cases d
    · -- d = false
      obtain ⟨hk, hs0, hs8, hsum, hord⟩ := hI
      have e8 : IntKind.i64.wrap ((8 : Int) - s) = 8 - s := w64 (by omega) (by omega)
      have ek : IntKind.i64.wrap ((k : Int) + 1) = ((k + 1 : Nat) : Int) := by rw [w64 (by omega) (by omega)]; omega
      have em : IntKind.i64.wrap ((k : Int) - 1) = (k : Int) - 1 := w64 (by omega) (by omega)
      have et : ((k : Int) - 1).toNat = k - 1 := by omega
      have hiff := @okO_iff L k s
      refine Or.elim (Bool.eq_false_or_eq_true (decide ((↑k : Int) < (↑L.length : Int)))) (fun d1 => Or.elim (Bool.eq_false_or_eq_true (decide ((L.getD k Con.zero).exp < (0 : Int)))) (fun d2 => ⟨[true, true], .inr ⟨[Dec (decide ((L.getD k Con.zero).exp < (0 : Int))) true, (0 : Int) ≤ (↑k : Int) ∧ (↑k : Int) < (↑L.length : Int), Dec (decide ((↑k : Int) < (↑L.length : Int))) true], by kernel_rfl, ⟨d2, ?_, d1⟩, rfl⟩⟩)
           (fun d2 => Or.elim (Bool.eq_false_or_eq_true (decide ((L.getD k Con.zero).exp > (60 : Int)))) (fun d3 => ⟨[true, false, true], .inr ⟨[Dec (decide ((L.getD k Con.zero).exp > (60 : Int))) true, Dec (decide ((L.getD k Con.zero).exp < (0 : Int))) false, (0 : Int) ≤ (↑k : Int) ∧ (↑k : Int) < (↑L.length : Int), Dec (decide ((↑k : Int) < (↑L.length : Int))) true], by kernel_rfl, ⟨d3, d2, ?_, d1⟩, rfl⟩⟩)
           (fun d3 => Or.elim (Bool.eq_false_or_eq_true (decide ((↑k : Int) > (0 : Int)))) (fun d4 => Or.elim (Bool.eq_false_or_eq_true (decide ((L.getD k Con.zero).exp ≤ (L.getD (IntKind.i64.wrap ((↑k : Int) - (1 : Int))).toNat Con.zero).exp))) (fun d5 => ⟨[true, false, false, true, true], .inr ⟨[Dec (decide ((L.getD k Con.zero).exp ≤ (L.getD (IntKind.i64.wrap ((↑k : Int) - (1 : Int))).toNat Con.zero).exp)) true, (0 : Int) ≤ IntKind.i64.wrap ((↑k : Int) - (1 : Int)) ∧ IntKind.i64.wrap ((↑k : Int) - (1 : Int)) < (↑L.length : Int), Dec (decide ((↑k : Int) > (0 : Int))) true, Dec (decide ((L.getD k Con.zero).exp > (60 : Int))) false, Dec (decide ((L.getD k Con.zero).exp < (0 : Int))) false, (0 : Int) ≤ (↑k : Int) ∧ (↑k : Int) < (↑L.length : Int), Dec (decide ((↑k : Int) < (↑L.length : Int))) true], by kernel_rfl, ⟨d5, ?_, d4, d3, d2, ?_, d1⟩, rfl⟩⟩)
           (fun d5 => Or.elim (Bool.eq_false_or_eq_true ((L.getD k Con.zero).sign == (1 : Int))) (fun d6 => Or.elim (Bool.eq_false_or_eq_true (decide ((L.getD k Con.zero).dim < (1 : Int)))) (fun d7 => ⟨[true, false, false, true, false, false, true], .inr ⟨[Dec (decide ((L.getD k Con.zero).dim < (1 : Int))) true, Dec ((L.getD k Con.zero).sign != (1 : Int)) false, Dec (decide ((L.getD k Con.zero).exp ≤ (L.getD (IntKind.i64.wrap ((↑k : Int) - (1 : Int))).toNat Con.zero).exp)) false, (0 : Int) ≤ IntKind.i64.wrap ((↑k : Int) - (1 : Int)) ∧ IntKind.i64.wrap ((↑k : Int) - (1 : Int)) < (↑L.length : Int), Dec (decide ((↑k : Int) > (0 : Int))) true, Dec (decide ((L.getD k Con.zero).exp > (60 : Int))) false, Dec (decide ((L.getD k Con.zero).exp < (0 : Int))) false, (0 : Int) ≤ (↑k : Int) ∧ (↑k : Int) < (↑L.length : Int), Dec (decide ((↑k : Int) < (↑L.length : Int))) true], by kernel_rfl, ⟨d7, (dN d6), d5, ?_, d4, d3, d2, ?_, d1⟩, rfl⟩⟩)
           (fun d7 => Or.elim (Bool.eq_false_or_eq_true (decide ((L.getD k Con.zero).dim > IntKind.i64.wrap ((8 : Int) - s)))) (fun d8 => ⟨[true, false, false, true, false, false, false, true], .inr ⟨[Dec (decide ((L.getD k Con.zero).dim > IntKind.i64.wrap ((8 : Int) - s))) true, Dec (decide ((L.getD k Con.zero).dim < (1 : Int))) false, Dec ((L.getD k Con.zero).sign != (1 : Int)) false, Dec (decide ((L.getD k Con.zero).exp ≤ (L.getD (IntKind.i64.wrap ((↑k : Int) - (1 : Int))).toNat Con.zero).exp)) false, (0 : Int) ≤ IntKind.i64.wrap ((↑k : Int) - (1 : Int)) ∧ IntKind.i64.wrap ((↑k : Int) - (1 : Int)) < (↑L.length : Int), Dec (decide ((↑k : Int) > (0 : Int))) true, Dec (decide ((L.getD k Con.zero).exp > (60 : Int))) false, Dec (decide ((L.getD k Con.zero).exp < (0 : Int))) false, (0 : Int) ≤ (↑k : Int) ∧ (↑k : Int) < (↑L.length : Int), Dec (decide ((↑k : Int) < (↑L.length : Int))) true], by kernel_rfl, ⟨d8, d7, (dN d6), d5, ?_, d4, d3, d2, ?_, d1⟩, rfl⟩⟩)
           (fun d8 => ⟨[true, false, false, true, false, false, false, false], .inl ⟨(k + 1, s + (at_ L k).dim), [L.length = L.length ∧ (fun i => (L.getD i Con.zero).rvs) = fun i => (L.getD i Con.zero).rvs, IntKind.i64.wrap (s + (L.getD k Con.zero).dim) = s + (at_ L k).dim, L.length = L.length ∧ (fun i => (L.getD i Con.zero).rvs) = fun i => (L.getD i Con.zero).rvs, (↑L.length : Int) = (↑L.length : Int), IntKind.i64.wrap ((↑k : Int) + (1 : Int)) = (↑(k + (1 : Nat)) : Int), Dec (decide ((L.getD k Con.zero).dim > IntKind.i64.wrap ((8 : Int) - s))) false, Dec (decide ((L.getD k Con.zero).dim < (1 : Int))) false, Dec ((L.getD k Con.zero).sign != (1 : Int)) false, Dec (decide ((L.getD k Con.zero).exp ≤ (L.getD (IntKind.i64.wrap ((↑k : Int) - (1 : Int))).toNat Con.zero).exp)) false, (0 : Int) ≤ IntKind.i64.wrap ((↑k : Int) - (1 : Int)) ∧ IntKind.i64.wrap ((↑k : Int) - (1 : Int)) < (↑L.length : Int), Dec (decide ((↑k : Int) > (0 : Int))) true, Dec (decide ((L.getD k Con.zero).exp > (60 : Int))) false, Dec (decide ((L.getD k Con.zero).exp < (0 : Int))) false, (0 : Int) ≤ (↑k : Int) ∧ (↑k : Int) < (↑L.length : Int), Dec (decide ((↑k : Int) < (↑L.length : Int))) true], by kernel_rfl, ⟨?_, ?_, ?_, ?_, ?_, d8, d7, (dN d6), d5, ?_, d4, d3, d2, ?_, d1⟩, MuG.out ?_, InG.out ?_⟩⟩)))
           (fun d6 => Or.elim (Bool.eq_false_or_eq_true ((L.getD k Con.zero).sign == (-1 : Int))) (fun d7 => Or.elim (Bool.eq_false_or_eq_true (decide ((L.getD k Con.zero).dim < (1 : Int)))) (fun d8 => ⟨[true, false, false, true, false, true, false, true], .inr ⟨[Dec (decide ((L.getD k Con.zero).dim < (1 : Int))) true, Dec ((L.getD k Con.zero).sign != (-1 : Int)) false, Dec ((L.getD k Con.zero).sign != (1 : Int)) true, Dec (decide ((L.getD k Con.zero).exp ≤ (L.getD (IntKind.i64.wrap ((↑k : Int) - (1 : Int))).toNat Con.zero).exp)) false, (0 : Int) ≤ IntKind.i64.wrap ((↑k : Int) - (1 : Int)) ∧ IntKind.i64.wrap ((↑k : Int) - (1 : Int)) < (↑L.length : Int), Dec (decide ((↑k : Int) > (0 : Int))) true, Dec (decide ((L.getD k Con.zero).exp > (60 : Int))) false, Dec (decide ((L.getD k Con.zero).exp < (0 : Int))) false, (0 : Int) ≤ (↑k : Int) ∧ (↑k : Int) < (↑L.length : Int), Dec (decide ((↑k : Int) < (↑L.length : Int))) true], by kernel_rfl, ⟨d8, (dN d7), (dN d6), d5, ?_, d4, d3, d2, ?_, d1⟩, rfl⟩⟩)
           (fun d8 => Or.elim (Bool.eq_false_or_eq_true (decide ((L.getD k Con.zero).dim > IntKind.i64.wrap ((8 : Int) - s)))) (fun d9 => ⟨[true, false, false, true, false, true, false, false, true], .inr ⟨[Dec (decide ((L.getD k Con.zero).dim > IntKind.i64.wrap ((8 : Int) - s))) true, Dec (decide ((L.getD k Con.zero).dim < (1 : Int))) false, Dec ((L.getD k Con.zero).sign != (-1 : Int)) false, Dec ((L.getD k Con.zero).sign != (1 : Int)) true, Dec (decide ((L.getD k Con.zero).exp ≤ (L.getD (IntKind.i64.wrap ((↑k : Int) - (1 : Int))).toNat Con.zero).exp)) false, (0 : Int) ≤ IntKind.i64.wrap ((↑k : Int) - (1 : Int)) ∧ IntKind.i64.wrap ((↑k : Int) - (1 : Int)) < (↑L.length : Int), Dec (decide ((↑k : Int) > (0 : Int))) true, Dec (decide ((L.getD k Con.zero).exp > (60 : Int))) false, Dec (decide ((L.getD k Con.zero).exp < (0 : Int))) false, (0 : Int) ≤ (↑k : Int) ∧ (↑k : Int) < (↑L.length : Int), Dec (decide ((↑k : Int) < (↑L.length : Int))) true], by kernel_rfl, ⟨d9, d8, (dN d7), (dN d6), d5, ?_, d4, d3, d2, ?_, d1⟩, rfl⟩⟩)
           (fun d9 => ⟨[true, false, false, true, false, true, false, false, false], .inl ⟨(k + 1, s + (at_ L k).dim), [L.length = L.length ∧ (fun i => (L.getD i Con.zero).rvs) = fun i => (L.getD i Con.zero).rvs, IntKind.i64.wrap (s + (L.getD k Con.zero).dim) = s + (at_ L k).dim, L.length = L.length ∧ (fun i => (L.getD i Con.zero).rvs) = fun i => (L.getD i Con.zero).rvs, (↑L.length : Int) = (↑L.length : Int), IntKind.i64.wrap ((↑k : Int) + (1 : Int)) = (↑(k + (1 : Nat)) : Int), Dec (decide ((L.getD k Con.zero).dim > IntKind.i64.wrap ((8 : Int) - s))) false, Dec (decide ((L.getD k Con.zero).dim < (1 : Int))) false, Dec ((L.getD k Con.zero).sign != (-1 : Int)) false, Dec ((L.getD k Con.zero).sign != (1 : Int)) true, Dec (decide ((L.getD k Con.zero).exp ≤ (L.getD (IntKind.i64.wrap ((↑k : Int) - (1 : Int))).toNat Con.zero).exp)) false, (0 : Int) ≤ IntKind.i64.wrap ((↑k : Int) - (1 : Int)) ∧ IntKind.i64.wrap ((↑k : Int) - (1 : Int)) < (↑L.length : Int), Dec (decide ((↑k : Int) > (0 : Int))) true, Dec (decide ((L.getD k Con.zero).exp > (60 : Int))) false, Dec (decide ((L.getD k Con.zero).exp < (0 : Int))) false, (0 : Int) ≤ (↑k : Int) ∧ (↑k : Int) < (↑L.length : Int), Dec (decide ((↑k : Int) < (↑L.length : Int))) true], by kernel_rfl, ⟨?_, ?_, ?_, ?_, ?_, d9, d8, (dN d7), (dN d6), d5, ?_, d4, d3, d2, ?_, d1⟩, MuG.out ?_, InG.out ?_⟩⟩)))
           (fun d7 => ⟨[true, false, false, true, false, true, true], .inr ⟨[Dec ((L.getD k Con.zero).sign != (-1 : Int)) true, Dec ((L.getD k Con.zero).sign != (1 : Int)) true, Dec (decide ((L.getD k Con.zero).exp ≤ (L.getD (IntKind.i64.wrap ((↑k : Int) - (1 : Int))).toNat Con.zero).exp)) false, (0 : Int) ≤ IntKind.i64.wrap ((↑k : Int) - (1 : Int)) ∧ IntKind.i64.wrap ((↑k : Int) - (1 : Int)) < (↑L.length : Int), Dec (decide ((↑k : Int) > (0 : Int))) true, Dec (decide ((L.getD k Con.zero).exp > (60 : Int))) false, Dec (decide ((L.getD k Con.zero).exp < (0 : Int))) false, (0 : Int) ≤ (↑k : Int) ∧ (↑k : Int) < (↑L.length : Int), Dec (decide ((↑k : Int) < (↑L.length : Int))) true], by kernel_rfl, ⟨(dN d7), (dN d6), d5, ?_, d4, d3, d2, ?_, d1⟩, rfl⟩⟩))))
           (fun d4 => Or.elim (Bool.eq_false_or_eq_true ((L.getD k Con.zero).sign == (1 : Int))) (fun d5 => Or.elim (Bool.eq_false_or_eq_true (decide ((L.getD k Con.zero).dim < (1 : Int)))) (fun d6 => ⟨[true, false, false, false, false, true], .inr ⟨[Dec (decide ((L.getD k Con.zero).dim < (1 : Int))) true, Dec ((L.getD k Con.zero).sign != (1 : Int)) false, Dec (decide ((↑k : Int) > (0 : Int))) false, Dec (decide ((L.getD k Con.zero).exp > (60 : Int))) false, Dec (decide ((L.getD k Con.zero).exp < (0 : Int))) false, (0 : Int) ≤ (↑k : Int) ∧ (↑k : Int) < (↑L.length : Int), Dec (decide ((↑k : Int) < (↑L.length : Int))) true], by kernel_rfl, ⟨d6, (dN d5), d4, d3, d2, ?_, d1⟩, rfl⟩⟩)
           (fun d6 => Or.elim (Bool.eq_false_or_eq_true (decide ((L.getD k Con.zero).dim > IntKind.i64.wrap ((8 : Int) - s)))) (fun d7 => ⟨[true, false, false, false, false, false, true], .inr ⟨[Dec (decide ((L.getD k Con.zero).dim > IntKind.i64.wrap ((8 : Int) - s))) true, Dec (decide ((L.getD k Con.zero).dim < (1 : Int))) false, Dec ((L.getD k Con.zero).sign != (1 : Int)) false, Dec (decide ((↑k : Int) > (0 : Int))) false, Dec (decide ((L.getD k Con.zero).exp > (60 : Int))) false, Dec (decide ((L.getD k Con.zero).exp < (0 : Int))) false, (0 : Int) ≤ (↑k : Int) ∧ (↑k : Int) < (↑L.length : Int), Dec (decide ((↑k : Int) < (↑L.length : Int))) true], by kernel_rfl, ⟨d7, d6, (dN d5), d4, d3, d2, ?_, d1⟩, rfl⟩⟩)
           (fun d7 => ⟨[true, false, false, false, false, false, false], .inl ⟨(k + 1, s + (at_ L k).dim), [L.length = L.length ∧ (fun i => (L.getD i Con.zero).rvs) = fun i => (L.getD i Con.zero).rvs, IntKind.i64.wrap (s + (L.getD k Con.zero).dim) = s + (at_ L k).dim, L.length = L.length ∧ (fun i => (L.getD i Con.zero).rvs) = fun i => (L.getD i Con.zero).rvs, (↑L.length : Int) = (↑L.length : Int), IntKind.i64.wrap ((↑k : Int) + (1 : Int)) = (↑(k + (1 : Nat)) : Int), Dec (decide ((L.getD k Con.zero).dim > IntKind.i64.wrap ((8 : Int) - s))) false, Dec (decide ((L.getD k Con.zero).dim < (1 : Int))) false, Dec ((L.getD k Con.zero).sign != (1 : Int)) false, Dec (decide ((↑k : Int) > (0 : Int))) false, Dec (decide ((L.getD k Con.zero).exp > (60 : Int))) false, Dec (decide ((L.getD k Con.zero).exp < (0 : Int))) false, (0 : Int) ≤ (↑k : Int) ∧ (↑k : Int) < (↑L.length : Int), Dec (decide ((↑k : Int) < (↑L.length : Int))) true], by kernel_rfl, ⟨?_, ?_, ?_, ?_, ?_, d7, d6, (dN d5), d4, d3, d2, ?_, d1⟩, MuG.out ?_, InG.out ?_⟩⟩)))
           (fun d5 => Or.elim (Bool.eq_false_or_eq_true ((L.getD k Con.zero).sign == (-1 : Int))) (fun d6 => Or.elim (Bool.eq_false_or_eq_true (decide ((L.getD k Con.zero).dim < (1 : Int)))) (fun d7 => ⟨[true, false, false, false, true, false, true], .inr ⟨[Dec (decide ((L.getD k Con.zero).dim < (1 : Int))) true, Dec ((L.getD k Con.zero).sign != (-1 : Int)) false, Dec ((L.getD k Con.zero).sign != (1 : Int)) true, Dec (decide ((↑k : Int) > (0 : Int))) false, Dec (decide ((L.getD k Con.zero).exp > (60 : Int))) false, Dec (decide ((L.getD k Con.zero).exp < (0 : Int))) false, (0 : Int) ≤ (↑k : Int) ∧ (↑k : Int) < (↑L.length : Int), Dec (decide ((↑k : Int) < (↑L.length : Int))) true], by kernel_rfl, ⟨d7, (dN d6), (dN d5), d4, d3, d2, ?_, d1⟩, rfl⟩⟩)
           (fun d7 => Or.elim (Bool.eq_false_or_eq_true (decide ((L.getD k Con.zero).dim > IntKind.i64.wrap ((8 : Int) - s)))) (fun d8 => ⟨[true, false, false, false, true, false, false, true], .inr ⟨[Dec (decide ((L.getD k Con.zero).dim > IntKind.i64.wrap ((8 : Int) - s))) true, Dec (decide ((L.getD k Con.zero).dim < (1 : Int))) false, Dec ((L.getD k Con.zero).sign != (-1 : Int)) false, Dec ((L.getD k Con.zero).sign != (1 : Int)) true, Dec (decide ((↑k : Int) > (0 : Int))) false, Dec (decide ((L.getD k Con.zero).exp > (60 : Int))) false, Dec (decide ((L.getD k Con.zero).exp < (0 : Int))) false, (0 : Int) ≤ (↑k : Int) ∧ (↑k : Int) < (↑L.length : Int), Dec (decide ((↑k : Int) < (↑L.length : Int))) true], by kernel_rfl, ⟨d8, d7, (dN d6), (dN d5), d4, d3, d2, ?_, d1⟩, rfl⟩⟩)
           (fun d8 => ⟨[true, false, false, false, true, false, false, false], .inl ⟨(k + 1, s + (at_ L k).dim), [L.length = L.length ∧ (fun i => (L.getD i Con.zero).rvs) = fun i => (L.getD i Con.zero).rvs, IntKind.i64.wrap (s + (L.getD k Con.zero).dim) = s + (at_ L k).dim, L.length = L.length ∧ (fun i => (L.getD i Con.zero).rvs) = fun i => (L.getD i Con.zero).rvs, (↑L.length : Int) = (↑L.length : Int), IntKind.i64.wrap ((↑k : Int) + (1 : Int)) = (↑(k + (1 : Nat)) : Int), Dec (decide ((L.getD k Con.zero).dim > IntKind.i64.wrap ((8 : Int) - s))) false, Dec (decide ((L.getD k Con.zero).dim < (1 : Int))) false, Dec ((L.getD k Con.zero).sign != (-1 : Int)) false, Dec ((L.getD k Con.zero).sign != (1 : Int)) true, Dec (decide ((↑k : Int) > (0 : Int))) false, Dec (decide ((L.getD k Con.zero).exp > (60 : Int))) false, Dec (decide ((L.getD k Con.zero).exp < (0 : Int))) false, (0 : Int) ≤ (↑k : Int) ∧ (↑k : Int) < (↑L.length : Int), Dec (decide ((↑k : Int) < (↑L.length : Int))) true], by kernel_rfl, ⟨?_, ?_, ?_, ?_, ?_, d8, d7, (dN d6), (dN d5), d4, d3, d2, ?_, d1⟩, MuG.out ?_, InG.out ?_⟩⟩)))
           (fun d6 => ⟨[true, false, false, false, true, true], .inr ⟨[Dec ((L.getD k Con.zero).sign != (-1 : Int)) true, Dec ((L.getD k Con.zero).sign != (1 : Int)) true, Dec (decide ((↑k : Int) > (0 : Int))) false, Dec (decide ((L.getD k Con.zero).exp > (60 : Int))) false, Dec (decide ((L.getD k Con.zero).exp < (0 : Int))) false, (0 : Int) ≤ (↑k : Int) ∧ (↑k : Int) < (↑L.length : Int), Dec (decide ((↑k : Int) < (↑L.length : Int))) true], by kernel_rfl, ⟨(dN d6), (dN d5), d4, d3, d2, ?_, d1⟩, rfl⟩⟩))))))
           (fun d1 => CtG.no ?_)
      all_goals first | (refine MuG.mk ?_; (simp only [decide_eq_true_eq] at d1; show L.length - (k + 1) < L.length - k; omega)) | (refine InG.mk ?_; (simp only [at_, e8, em, et, decide_eq_true_eq, decide_eq_false_iff_not, Int.toNat_natCast, beq_iff_eq, beq_eq_false_iff_ne, ne_eq] at *; have hlt : k < L.length := (by omega); have ho := hiff.2 (by refine ⟨?_, ?_, ?_, ?_, ?_, ?_⟩ <;> omega); exact ⟨by omega, by omega, by omega, by rw [dimS_take hlt, hsum], by rw [ord_next hlt ho, hord]⟩)) | (refine CtG.mk ?_; (simp only [at_, e8, em, et, decide_eq_true_eq, decide_eq_false_iff_not, Int.toNat_natCast, beq_iff_eq, beq_eq_false_iff_ne, ne_eq] at *; first | (have := ord_end (L := L) (k := k) (by omega) (lastO L k) s; simp_all; done) | (have hlt : k < L.length := (by omega); rw [drop_at hlt] at hord; simp only [ordL, Bool.and_eq_true] at hord; have := hiff.1 hord.1; omega))) | (first | rfl | exact ⟨rfl, rfl⟩ | (simp only [at_, e8, em, ek, et, decide_eq_true_eq, decide_eq_false_iff_not, Int.toNat_natCast] at * <;> first | omega | (rw [w64 (by omega) (by omega)]) | (rw [hsum]; exact dimS_all (by omega))))
    · -- d = true
      obtain ⟨hk, hs0, hs8, hsum, hord⟩ := hI
      have e8 : IntKind.i64.wrap ((8 : Int) - s) = 8 - s := w64 (by omega) (by omega)
      have ek : IntKind.i64.wrap ((k : Int) + 1) = ((k + 1 : Nat) : Int) := by rw [w64 (by omega) (by omega)]; omega
      have em : IntKind.i64.wrap ((k : Int) - 1) = (k : Int) - 1 := w64 (by omega) (by omega)
      have et : ((k : Int) - 1).toNat = k - 1 := by omega
      have hiff := @okO_iff L k s
      refine Or.elim (Bool.eq_false_or_eq_true (decide ((↑k : Int) < (↑L.length : Int)))) (fun d1 => Or.elim (Bool.eq_false_or_eq_true (decide ((L.getD k Con.zero).exp < (0 : Int)))) (fun d2 => CtG.no ?_)
           (fun d2 => Or.elim (Bool.eq_false_or_eq_true (decide ((L.getD k Con.zero).exp > (60 : Int)))) (fun d3 => CtG.no ?_)
           (fun d3 => Or.elim (Bool.eq_false_or_eq_true (decide ((↑k : Int) > (0 : Int)))) (fun d4 => Or.elim (Bool.eq_false_or_eq_true (decide ((L.getD k Con.zero).exp ≤ (L.getD (IntKind.i64.wrap ((↑k : Int) - (1 : Int))).toNat Con.zero).exp))) (fun d5 => CtG.no ?_)
           (fun d5 => Or.elim (Bool.eq_false_or_eq_true ((L.getD k Con.zero).sign == (1 : Int))) (fun d6 => Or.elim (Bool.eq_false_or_eq_true (decide ((L.getD k Con.zero).dim < (1 : Int)))) (fun d7 => CtG.no ?_)
           (fun d7 => Or.elim (Bool.eq_false_or_eq_true (decide ((L.getD k Con.zero).dim > IntKind.i64.wrap ((8 : Int) - s)))) (fun d8 => CtG.no ?_)
           (fun d8 => ⟨[true, false, false, true, false, false, false, false], .inl ⟨(k + 1, s + (at_ L k).dim), [L.length = L.length ∧ (fun i => (L.getD i Con.zero).rvs) = fun i => (L.getD i Con.zero).rvs, IntKind.i64.wrap (s + (L.getD k Con.zero).dim) = s + (at_ L k).dim, L.length = L.length ∧ (fun i => (L.getD i Con.zero).rvs) = fun i => (L.getD i Con.zero).rvs, (↑L.length : Int) = (↑L.length : Int), IntKind.i64.wrap ((↑k : Int) + (1 : Int)) = (↑(k + (1 : Nat)) : Int), Dec (decide ((L.getD k Con.zero).dim > IntKind.i64.wrap ((8 : Int) - s))) false, Dec (decide ((L.getD k Con.zero).dim < (1 : Int))) false, Dec ((L.getD k Con.zero).sign != (1 : Int)) false, Dec (decide ((L.getD k Con.zero).exp ≤ (L.getD (IntKind.i64.wrap ((↑k : Int) - (1 : Int))).toNat Con.zero).exp)) false, (0 : Int) ≤ IntKind.i64.wrap ((↑k : Int) - (1 : Int)) ∧ IntKind.i64.wrap ((↑k : Int) - (1 : Int)) < (↑L.length : Int), Dec (decide ((↑k : Int) > (0 : Int))) true, Dec (decide ((L.getD k Con.zero).exp > (60 : Int))) false, Dec (decide ((L.getD k Con.zero).exp < (0 : Int))) false, (0 : Int) ≤ (↑k : Int) ∧ (↑k : Int) < (↑L.length : Int), Dec (decide ((↑k : Int) < (↑L.length : Int))) true], by kernel_rfl, ⟨?_, ?_, ?_, ?_, ?_, d8, d7, (dN d6), d5, ?_, d4, d3, d2, ?_, d1⟩, MuG.out ?_, InG.out ?_⟩⟩)))
           (fun d6 => Or.elim (Bool.eq_false_or_eq_true ((L.getD k Con.zero).sign == (-1 : Int))) (fun d7 => Or.elim (Bool.eq_false_or_eq_true (decide ((L.getD k Con.zero).dim < (1 : Int)))) (fun d8 => CtG.no ?_)
           (fun d8 => Or.elim (Bool.eq_false_or_eq_true (decide ((L.getD k Con.zero).dim > IntKind.i64.wrap ((8 : Int) - s)))) (fun d9 => CtG.no ?_)
           (fun d9 => ⟨[true, false, false, true, false, true, false, false, false], .inl ⟨(k + 1, s + (at_ L k).dim), [L.length = L.length ∧ (fun i => (L.getD i Con.zero).rvs) = fun i => (L.getD i Con.zero).rvs, IntKind.i64.wrap (s + (L.getD k Con.zero).dim) = s + (at_ L k).dim, L.length = L.length ∧ (fun i => (L.getD i Con.zero).rvs) = fun i => (L.getD i Con.zero).rvs, (↑L.length : Int) = (↑L.length : Int), IntKind.i64.wrap ((↑k : Int) + (1 : Int)) = (↑(k + (1 : Nat)) : Int), Dec (decide ((L.getD k Con.zero).dim > IntKind.i64.wrap ((8 : Int) - s))) false, Dec (decide ((L.getD k Con.zero).dim < (1 : Int))) false, Dec ((L.getD k Con.zero).sign != (-1 : Int)) false, Dec ((L.getD k Con.zero).sign != (1 : Int)) true, Dec (decide ((L.getD k Con.zero).exp ≤ (L.getD (IntKind.i64.wrap ((↑k : Int) - (1 : Int))).toNat Con.zero).exp)) false, (0 : Int) ≤ IntKind.i64.wrap ((↑k : Int) - (1 : Int)) ∧ IntKind.i64.wrap ((↑k : Int) - (1 : Int)) < (↑L.length : Int), Dec (decide ((↑k : Int) > (0 : Int))) true, Dec (decide ((L.getD k Con.zero).exp > (60 : Int))) false, Dec (decide ((L.getD k Con.zero).exp < (0 : Int))) false, (0 : Int) ≤ (↑k : Int) ∧ (↑k : Int) < (↑L.length : Int), Dec (decide ((↑k : Int) < (↑L.length : Int))) true], by kernel_rfl, ⟨?_, ?_, ?_, ?_, ?_, d9, d8, (dN d7), (dN d6), d5, ?_, d4, d3, d2, ?_, d1⟩, MuG.out ?_, InG.out ?_⟩⟩)))
           (fun d7 => CtG.no ?_))))
           (fun d4 => Or.elim (Bool.eq_false_or_eq_true ((L.getD k Con.zero).sign == (1 : Int))) (fun d5 => Or.elim (Bool.eq_false_or_eq_true (decide ((L.getD k Con.zero).dim < (1 : Int)))) (fun d6 => CtG.no ?_)
           (fun d6 => Or.elim (Bool.eq_false_or_eq_true (decide ((L.getD k Con.zero).dim > IntKind.i64.wrap ((8 : Int) - s)))) (fun d7 => CtG.no ?_)
           (fun d7 => ⟨[true, false, false, false, false, false, false], .inl ⟨(k + 1, s + (at_ L k).dim), [L.length = L.length ∧ (fun i => (L.getD i Con.zero).rvs) = fun i => (L.getD i Con.zero).rvs, IntKind.i64.wrap (s + (L.getD k Con.zero).dim) = s + (at_ L k).dim, L.length = L.length ∧ (fun i => (L.getD i Con.zero).rvs) = fun i => (L.getD i Con.zero).rvs, (↑L.length : Int) = (↑L.length : Int), IntKind.i64.wrap ((↑k : Int) + (1 : Int)) = (↑(k + (1 : Nat)) : Int), Dec (decide ((L.getD k Con.zero).dim > IntKind.i64.wrap ((8 : Int) - s))) false, Dec (decide ((L.getD k Con.zero).dim < (1 : Int))) false, Dec ((L.getD k Con.zero).sign != (1 : Int)) false, Dec (decide ((↑k : Int) > (0 : Int))) false, Dec (decide ((L.getD k Con.zero).exp > (60 : Int))) false, Dec (decide ((L.getD k Con.zero).exp < (0 : Int))) false, (0 : Int) ≤ (↑k : Int) ∧ (↑k : Int) < (↑L.length : Int), Dec (decide ((↑k : Int) < (↑L.length : Int))) true], by kernel_rfl, ⟨?_, ?_, ?_, ?_, ?_, d7, d6, (dN d5), d4, d3, d2, ?_, d1⟩, MuG.out ?_, InG.out ?_⟩⟩)))
           (fun d5 => Or.elim (Bool.eq_false_or_eq_true ((L.getD k Con.zero).sign == (-1 : Int))) (fun d6 => Or.elim (Bool.eq_false_or_eq_true (decide ((L.getD k Con.zero).dim < (1 : Int)))) (fun d7 => CtG.no ?_)
           (fun d7 => Or.elim (Bool.eq_false_or_eq_true (decide ((L.getD k Con.zero).dim > IntKind.i64.wrap ((8 : Int) - s)))) (fun d8 => CtG.no ?_)
           (fun d8 => ⟨[true, false, false, false, true, false, false, false], .inl ⟨(k + 1, s + (at_ L k).dim), [L.length = L.length ∧ (fun i => (L.getD i Con.zero).rvs) = fun i => (L.getD i Con.zero).rvs, IntKind.i64.wrap (s + (L.getD k Con.zero).dim) = s + (at_ L k).dim, L.length = L.length ∧ (fun i => (L.getD i Con.zero).rvs) = fun i => (L.getD i Con.zero).rvs, (↑L.length : Int) = (↑L.length : Int), IntKind.i64.wrap ((↑k : Int) + (1 : Int)) = (↑(k + (1 : Nat)) : Int), Dec (decide ((L.getD k Con.zero).dim > IntKind.i64.wrap ((8 : Int) - s))) false, Dec (decide ((L.getD k Con.zero).dim < (1 : Int))) false, Dec ((L.getD k Con.zero).sign != (-1 : Int)) false, Dec ((L.getD k Con.zero).sign != (1 : Int)) true, Dec (decide ((↑k : Int) > (0 : Int))) false, Dec (decide ((L.getD k Con.zero).exp > (60 : Int))) false, Dec (decide ((L.getD k Con.zero).exp < (0 : Int))) false, (0 : Int) ≤ (↑k : Int) ∧ (↑k : Int) < (↑L.length : Int), Dec (decide ((↑k : Int) < (↑L.length : Int))) true], by kernel_rfl, ⟨?_, ?_, ?_, ?_, ?_, d8, d7, (dN d6), (dN d5), d4, d3, d2, ?_, d1⟩, MuG.out ?_, InG.out ?_⟩⟩)))
           (fun d6 => CtG.no ?_))))))
           (fun d1 => ⟨[false], .inr ⟨[s = dimS L, Dec (decide ((↑k : Int) < (↑L.length : Int))) false], by kernel_rfl, ⟨?_, d1⟩, rfl⟩⟩)
      all_goals first | (refine MuG.mk ?_; (simp only [decide_eq_true_eq] at d1; show L.length - (k + 1) < L.length - k; omega)) | (refine InG.mk ?_; (simp only [at_, e8, em, et, decide_eq_true_eq, decide_eq_false_iff_not, Int.toNat_natCast, beq_iff_eq, beq_eq_false_iff_ne, ne_eq] at *; have hlt : k < L.length := (by omega); have ho := hiff.2 (by refine ⟨?_, ?_, ?_, ?_, ?_, ?_⟩ <;> omega); exact ⟨by omega, by omega, by omega, by rw [dimS_take hlt, hsum], by rw [ord_next hlt ho, hord]⟩)) | (refine CtG.mk ?_; (simp only [at_, e8, em, et, decide_eq_true_eq, decide_eq_false_iff_not, Int.toNat_natCast, beq_iff_eq, beq_eq_false_iff_ne, ne_eq] at *; first | (have := ord_end (L := L) (k := k) (by omega) (lastO L k) s; simp_all; done) | (have hlt : k < L.length := (by omega); rw [drop_at hlt] at hord; simp only [ordL, Bool.and_eq_true] at hord; have := hiff.1 hord.1; omega))) | (first | rfl | exact ⟨rfl, rfl⟩ | (simp only [at_, e8, em, ek, et, decide_eq_true_eq, decide_eq_false_iff_not, Int.toNat_natCast] at * <;> first | omega | (rw [w64 (by omega) (by omega)]) | (rw [hsum]; exact dimS_all (by omega))))
set_option maxRecDepth 100000 in
theorem order_pure (L : List Con) (hn : L.length ≤ 1000000) : PureC Tryz.prog [] 39 [roC L] (.bool (orderV L)) := by
  have rr := fun (tp : List Bool) (ms : List Prop) h hm => pure_run evOk (callF_ok evOk (noOrc_ok _ _) 8) Tryz.func39 (A := [roC L]) (N := Nat.max 1 Tryz.f39.ntmps) rfl (one_ann (order_loop L hn)) rfl rfl evNg (tabs := []) (R := .bool (orderV L)) (tp := tp) (ms := ms) h hm
  refine Or.elim (Bool.eq_false_or_eq_true (ordL L (-1 : Int) (0 : Int))) (fun d1 => rr [true] [decide (dimS L > (0 : Int)) = orderV L, L.length = L.length ∧ (fun i => (L.getD i Con.zero).rvs) = fun i => (L.getD i Con.zero).rvs, L.length = L.length ∧ (fun i => (L.getD i Con.zero).rvs) = fun i => (L.getD i Con.zero).rvs, (↑L.length : Int) = (↑L.length : Int), Dec (ordL L (-1 : Int) (0 : Int)) true] (by kernel_rfl) ⟨?_, ?_, ?_, ?_, d1⟩)
           (fun d1 => rr [false] [false = orderV L, L.length = L.length ∧ (fun i => (L.getD i Con.zero).rvs) = fun i => (L.getD i Con.zero).rvs, L.length = L.length ∧ (fun i => (L.getD i Con.zero).rvs) = fun i => (L.getD i Con.zero).rvs, (↑L.length : Int) = (↑L.length : Int), Dec (ordL L (-1 : Int) (0 : Int)) false] (by kernel_rfl) ⟨?_, ?_, ?_, ?_, d1⟩)
  all_goals first | (first | rfl | exact ⟨rfl, rfl⟩ | (simp only [orderV, d1, Bool.true_and, Bool.false_and, Bool.and_true]))
end Go.Proofs.YtkkmlbhmcdoibaaGreatDoor.S

namespace Go.Proofs.YtkkmlbhmcdoibaaGreatDoor.S
open Go.QfSy Go.RowKit
def legalP (c : Con) : Prop := (0 ≤ c.exp ∧ c.exp ≤ 60) ∧ (1 ≤ c.dim ∧ c.dim ≤ 8) ∧ (c.sign = 1 ∨ c.sign = -1) ∧ (0 ≤ c.oddity ∧ c.oddity ≤ 7) ∧
  (c.odd = false → c.dim % 2 = 0 ∧ c.oddity = 0) ∧
  (c.odd = true → (c.oddity - c.dim) % 2 = 0 ∧ (c.dim = 1 → c.sign = 1 → c.oddity = 1 ∨ c.oddity = 7) ∧ (c.dim = 1 → c.sign = -1 → c.oddity = 3 ∨ c.oddity = 5) ∧ (c.dim = 2 → c.sign = 1 → c.oddity ≠ 4) ∧ (c.dim = 2 → c.sign = -1 → c.oddity ≠ 0))
instance (c : Con) : Decidable (legalP c) := by unfold legalP; exact inferInstance
def legalB (c : Con) : Bool := decide (legalP c)
theorem tmod2 (a : Int) : a.tmod 2 = 0 ↔ a % 2 = 0 := by
  rw [← Int.dvd_iff_tmod_eq_zero, ← Int.dvd_iff_emod_eq_zero]
theorem legalR_eq (c : Con) : legalR_v c.exp c.dim c.sign c.odd c.oddity = legalB c := by
  obtain ⟨e, d, s, o, t⟩ := c
  rw [Bool.eq_iff_iff]
  rw [show (legalB ⟨e, d, s, o, t⟩ = true) ↔ legalP ⟨e, d, s, o, t⟩ from by simp [legalB]]
  unfold legalP
  simp only
  by_cases hb : (0 ≤ e ∧ e ≤ 60) ∧ (1 ≤ d ∧ d ≤ 8) ∧ (0 ≤ t ∧ t ≤ 7)
  · have hw : IntKind.i64.wrap (t - d) = t - d := w64 (by omega) (by omega)
    unfold legalR_v
    have h1 : decide (e < 0) = false := by simp; omega
    have h2 : decide (e > 60) = false := by simp; omega
    have h3 : decide (d < 1) = false := by simp; omega
    have h4 : decide (d > 8) = false := by simp; omega
    have h5 : decide (t < 0) = false := by simp; omega
    have h6 : decide (t > 7) = false := by simp; omega
    have h7 := tmod2 (t - d)
    have h8 := tmod2 d
    rw [hw, h1, h2, h3, h4, h5, h6]
    simp only [cond_false, Bool.cond_eq_ite, beq_iff_eq]
    cases o
    · simp only [Bool.false_eq_true, if_false, false_implies, true_implies, and_true]
      repeat' split
      all_goals simp_all
      all_goals omega
    · simp only [if_true, true_implies, h7]
      repeat' split
      all_goals simp_all
      all_goals omega
  · constructor
    · intro h
      exfalso
      have : legalR_v e d s o t = false := by
        unfold legalR_v
        by_cases h1 : e < 0
        · simp only [h1, decide_true, cond_true]
        by_cases h2 : e > 60
        · simp only [h1, h2, decide_true, decide_false, cond_true, cond_false]
        by_cases h3 : d < 1
        · simp only [h1, h2, h3, decide_true, decide_false, cond_true, cond_false]
        by_cases h4 : d > 8
        · simp only [h1, h2, h3, h4, decide_true, decide_false, cond_true, cond_false]
        by_cases h5 : t < 0
        · simp only [h1, h2, h3, h4, h5, decide_true, decide_false, cond_true, cond_false]
          cases s == 1 <;> cases s == -1 <;> rfl
        by_cases h6 : t > 7
        · simp only [h1, h2, h3, h4, h5, h6, decide_true, decide_false, cond_true, cond_false]
          cases s == 1 <;> cases s == -1 <;> rfl
        exact absurd ⟨⟨by omega, by omega⟩, ⟨by omega, by omega⟩, ⟨by omega, by omega⟩⟩ hb
      rw [this] at h
      cases h
    · rintro ⟨a, b, c, d, _⟩
      exact absurd ⟨a, b, d⟩ hb
noncomputable def val2M (p : Int) (L : List Con) : Bool := (p == 2) && (orderV L && L.all legalB)
noncomputable def entsL : List OEnt := [
  ⟨40, [], fun A => match A with
    | [.agg [.int .i64 e, .int .i64 d, .int .i64 s, .bool o, .int .i64 t]] => some (.bool (legalB ⟨e, d, s, o, t⟩), [])
    | _ => none⟩,
  ⟨39, [], fun A => match A with
    | [.sl n 5 row] => some (.bool (orderV (consR n row)), [(∀ i, i < n → row i = (Con.ofR (row i)).rvs) ∧ n ≤ 1000])
    | _ => none⟩]
theorem entsL_ok : ∀ e ∈ entsL, EntOk Tryz.prog e := by
  intro e he
  simp only [entsL, List.mem_cons, List.not_mem_nil, or_false] at he
  rcases he with rfl | rfl
  all_goals
    intro A R ms h hm
    simp only at h
    split at h
    all_goals first | (cases h; done) | cases h
  · rw [← legalR_eq]; exact legalR _ _ _ _ _
  · obtain ⟨h1, h3⟩ := all_one hm
    exact PureC.imp (order_pure _ (by rw [consR_len]; omega)) (.cons (.con h1) .nil)
noncomputable def val2A (L : List Con) : Ann := ⟨⟨[(15, (roC L).av), (16, .vint .i64 L.length), (17, .int .i64 0)], [], 1001⟩, some (L.all legalB), fun d => match d with
  | true => (.exit 0, ⟨[], [], 1001⟩)
  | false => (.ret, ⟨[(2, .bool false)], [], 1001⟩)⟩
theorem all_drop {L : List Con} {k : Nat} (hk : k < L.length) (q : Con → Bool) : (L.drop k).all q = (q (at_ L k) && (L.drop (k + 1)).all q) := by
  rw [drop_at hk]; rfl
set_option maxRecDepth 100000 in
theorem val2_loop (L : List Con) (hn : L.length ≤ 1000) : AnnOk Tryz.prog EV.ng (Nat.max 1 Tryz.f23.ntmps) (bodyAt Tryz.f23 [0, 1, 0, 1, 1]) (val2A L) := by
  refine ann_of evOk (callF_ok evOk (orcOf_ok entsL_ok) 8) none_ann (by kernel_rfl) (by kernel_rfl) (fun i : Nat => (fun (k : Nat) => (⟨[(15, (roC L).av), (16, .vint .i64 L.length), (17, .vint .i64 (k : Int))], [], 1001⟩ : St)) i) (fun i : Nat => (fun (k : Nat) => (L.length - k : Nat)) i) (fun (d : Bool) (i : Nat) => (fun (k : Nat) => (k ≤ L.length ∧ (L.drop k).all legalB = d : Prop)) i) ?_ ?_
  · intro d hd
    exact ⟨(0), [L.length = L.length ∧ (fun i => (L.getD i Con.zero).rvs) = fun i => (L.getD i Con.zero).rvs, (↑L.length : Int) = (↑L.length : Int), (0 : Int) = (↑(0 : Nat) : Int)], by kernel_rfl, (by refine ⟨?_, ?_, (?_ : (0 : Int) = (↑(0 : Nat) : Int))⟩ <;> (first | rfl | assumption | omega | simp_all)), (by exact ⟨Nat.zero_le _, hd⟩)⟩
  · rintro d hd k hI
    cases d
    · -- d = false
      obtain ⟨hk, hs⟩ := hI
      have ek : IntKind.i64.wrap ((k : Int) + 1) = ((k + 1 : Nat) : Int) := by rw [w64 (by omega) (by omega)]; omega
      refine Or.elim (Bool.eq_false_or_eq_true (decide ((↑k : Int) < (↑L.length : Int)))) (fun d1 => Or.elim (Bool.eq_false_or_eq_true (legalB (L.getD k Con.zero))) (fun d2 => ⟨[true, false], .inl ⟨(k + 1), [L.length = L.length ∧ (fun i => (L.getD i Con.zero).rvs) = fun i => (L.getD i Con.zero).rvs, (↑L.length : Int) = (↑L.length : Int), IntKind.i64.wrap ((↑k : Int) + (1 : Int)) = (↑(k + (1 : Nat)) : Int), Dec (!legalB (L.getD k Con.zero)) false, (0 : Int) ≤ (↑k : Int) ∧ (↑k : Int) < (↑L.length : Int), Dec (decide ((↑k : Int) < (↑L.length : Int))) true], by kernel_rfl, ⟨?_, ?_, ?_, (dN d2), ?_, d1⟩, MuG.out ?_, InG.out ?_⟩⟩)
           (fun d2 => ⟨[true, true], .inr ⟨[Dec (!legalB (L.getD k Con.zero)) true, (0 : Int) ≤ (↑k : Int) ∧ (↑k : Int) < (↑L.length : Int), Dec (decide ((↑k : Int) < (↑L.length : Int))) true], by kernel_rfl, ⟨(dN d2), ?_, d1⟩, rfl⟩⟩))
           (fun d1 => CtG.no ?_)
      all_goals first | (refine MuG.mk ?_; (simp only [decide_eq_true_eq] at *; show L.length - (k + 1) < L.length - k; omega)) | (refine InG.mk ?_; (simp only [decide_eq_true_eq] at *; rw [all_drop (by omega)] at hs; rw [show legalB (at_ L k) = true from d2] at hs; exact ⟨by omega, hs⟩)) | (refine CtG.mk ?_; (simp only [decide_eq_true_eq, decide_eq_false_iff_not] at *; first | (rw [List.drop_eq_nil_of_le (by omega)] at hs; cases hs; done) | (rw [all_drop (by omega)] at hs; rw [show legalB (at_ L k) = false from d2] at hs; cases hs; done))) | (first | rfl | exact ⟨rfl, rfl⟩ | ((try simp only [ek, Int.toNat_natCast, decide_eq_true_eq, decide_eq_false_iff_not] at *) <;> omega))
    · -- d = true
      obtain ⟨hk, hs⟩ := hI
      have ek : IntKind.i64.wrap ((k : Int) + 1) = ((k + 1 : Nat) : Int) := by rw [w64 (by omega) (by omega)]; omega
      refine Or.elim (Bool.eq_false_or_eq_true (decide ((↑k : Int) < (↑L.length : Int)))) (fun d1 => Or.elim (Bool.eq_false_or_eq_true (legalB (L.getD k Con.zero))) (fun d2 => ⟨[true, false], .inl ⟨(k + 1), [L.length = L.length ∧ (fun i => (L.getD i Con.zero).rvs) = fun i => (L.getD i Con.zero).rvs, (↑L.length : Int) = (↑L.length : Int), IntKind.i64.wrap ((↑k : Int) + (1 : Int)) = (↑(k + (1 : Nat)) : Int), Dec (!legalB (L.getD k Con.zero)) false, (0 : Int) ≤ (↑k : Int) ∧ (↑k : Int) < (↑L.length : Int), Dec (decide ((↑k : Int) < (↑L.length : Int))) true], by kernel_rfl, ⟨?_, ?_, ?_, (dN d2), ?_, d1⟩, MuG.out ?_, InG.out ?_⟩⟩)
           (fun d2 => CtG.no ?_))
           (fun d1 => ⟨[false], .inr ⟨[Dec (decide ((↑k : Int) < (↑L.length : Int))) false], by kernel_rfl, d1, rfl⟩⟩)
      all_goals first | (refine MuG.mk ?_; (simp only [decide_eq_true_eq] at *; show L.length - (k + 1) < L.length - k; omega)) | (refine InG.mk ?_; (simp only [decide_eq_true_eq] at *; rw [all_drop (by omega)] at hs; rw [show legalB (at_ L k) = true from d2] at hs; exact ⟨by omega, hs⟩)) | (refine CtG.mk ?_; (simp only [decide_eq_true_eq, decide_eq_false_iff_not] at *; first | (rw [List.drop_eq_nil_of_le (by omega)] at hs; cases hs; done) | (rw [all_drop (by omega)] at hs; rw [show legalB (at_ L k) = false from d2] at hs; cases hs; done))) | (first | rfl | exact ⟨rfl, rfl⟩ | ((try simp only [ek, Int.toNat_natCast, decide_eq_true_eq, decide_eq_false_iff_not] at *) <;> omega))
set_option maxRecDepth 100000 in
theorem val2_pure (p : Int) (L : List Con) (hn : L.length ≤ 1000) : PureC Tryz.prog [] 23 [.agg [.int .i64 p, roC L]] (.bool (val2M p L)) := by
  have rr := fun (tp : List Bool) (ms : List Prop) h hm => pure_run evOk (callF_ok evOk (orcOf_ok entsL_ok) 8) Tryz.func23 (A := [.agg [.int .i64 p, roC L]]) (N := Nat.max 1 Tryz.f23.ntmps) rfl (one_ann (val2_loop L hn)) rfl rfl evNg (tabs := []) (R := .bool (val2M p L)) (tp := tp) (ms := ms) h hm
  refine Or.elim (Bool.eq_false_or_eq_true (p == (2 : Int))) (fun d1 => Or.elim (Bool.eq_false_or_eq_true (orderV (consR L.length fun i => (L.getD i Con.zero).rvs))) (fun d2 => Or.elim (Bool.eq_false_or_eq_true (L.all legalB)) (fun d3 => rr [false, false, true] [true = val2M p L, L.length = L.length ∧ (fun i => (L.getD i Con.zero).rvs) = fun i => (L.getD i Con.zero).rvs, (↑L.length : Int) = (↑L.length : Int), Dec (L.all legalB) true, Dec (!orderV (consR L.length fun i => (L.getD i Con.zero).rvs)) false, (∀ (i : Nat), i < L.length → (fun i => (L.getD i Con.zero).rvs) i = (Con.ofR ((fun i => (L.getD i Con.zero).rvs) i)).rvs) ∧ L.length ≤ (1000 : Nat), Dec (p != (2 : Int)) false] (by kernel_rfl) ⟨?_, ?_, ?_, d3, (dN d2), ?_, (dN d1)⟩)
           (fun d3 => rr [false, false, false] [false = val2M p L, L.length = L.length ∧ (fun i => (L.getD i Con.zero).rvs) = fun i => (L.getD i Con.zero).rvs, (↑L.length : Int) = (↑L.length : Int), Dec (L.all legalB) false, Dec (!orderV (consR L.length fun i => (L.getD i Con.zero).rvs)) false, (∀ (i : Nat), i < L.length → (fun i => (L.getD i Con.zero).rvs) i = (Con.ofR ((fun i => (L.getD i Con.zero).rvs) i)).rvs) ∧ L.length ≤ (1000 : Nat), Dec (p != (2 : Int)) false] (by kernel_rfl) ⟨?_, ?_, ?_, d3, (dN d2), ?_, (dN d1)⟩))
           (fun d2 => rr [false, true] [false = val2M p L, Dec (!orderV (consR L.length fun i => (L.getD i Con.zero).rvs)) true, (∀ (i : Nat), i < L.length → (fun i => (L.getD i Con.zero).rvs) i = (Con.ofR ((fun i => (L.getD i Con.zero).rvs) i)).rvs) ∧ L.length ≤ (1000 : Nat), Dec (p != (2 : Int)) false] (by kernel_rfl) ⟨?_, (dN d2), ?_, (dN d1)⟩))
           (fun d1 => rr [true] [false = val2M p L, Dec (p != (2 : Int)) true] (by kernel_rfl) ⟨?_, (dN d1)⟩)
  all_goals first | (first | rfl | exact ⟨rfl, rfl⟩ | ((try simp only [consR_ro] at *) <;> first | rfl | trivial | exact ⟨fun _ _ => rfl, hn⟩ | (simp_all [val2M]; done)))
end Go.Proofs.YtkkmlbhmcdoibaaGreatDoor.S

namespace Go.Proofs.YtkkmlbhmcdoibaaGreatDoor.S
open Go.QfSy Go.RowKit
theorem st1 {L : List Con} {k : Nat} (h1 : 0 < (partM L ((k : Int) - 1)).length) (h2 : 0 < (partM L k).length) (h3 : ¬ (partM L ((k : Int) - 1)).getD 0 0 = (partM L k).getD 0 0) : stepM L k = add4 (add4 (flipS (flipS L k) (k - 1)) ((partM L ((k : Int) - 1)).getD 0 0)) ((partM L k).getD 0 0) := by
  unfold stepM
  have h4 : ((partM L ((k : Int) - 1)).getD 0 0 == (partM L k).getD 0 0) = false := by rw [beq_eq_false_iff_ne]; exact h3
  simp only [h1, h2, h4, decide_true, Bool.not_false, Bool.or_true, Bool.and_true, cond_true]
theorem st2 {L : List Con} {k : Nat} (h1 : 0 < (partM L ((k : Int) - 1)).length) (h3 : (partM L ((k : Int) - 1)).getD 0 0 = (partM L k).getD 0 0) : stepM L k = add4 (flipS (flipS L k) (k - 1)) ((partM L ((k : Int) - 1)).getD 0 0) := by
  unfold stepM
  have h4 : ((partM L ((k : Int) - 1)).getD 0 0 == (partM L k).getD 0 0) = true := by rw [beq_iff_eq]; exact h3
  have h5 : ((partM L ((k : Int) - 1)).length == 0) = false := by rw [beq_eq_false_iff_ne]; omega
  simp only [h1, h4, h5, decide_true, Bool.not_true, Bool.or_false, Bool.and_false, cond_true, cond_false]
end Go.Proofs.YtkkmlbhmcdoibaaGreatDoor.S

namespace Go.Proofs.YtkkmlbhmcdoibaaGreatDoor.S
open Go.QfSy Go.RowKit
end Go.Proofs.YtkkmlbhmcdoibaaGreatDoor.S

namespace Go.Proofs.YtkkmlbhmcdoibaaGreatDoor.S
open Go.QfSy Go.RowKit
end Go.Proofs.YtkkmlbhmcdoibaaGreatDoor.S

namespace Go.Proofs.YtkkmlbhmcdoibaaGreatDoor.S
open Go.QfSy Go.RowKit
theorem ordL_len : ∀ {L : List Con} {l s : Int}, s ≤ 8 → ordL L l s = true → (L.length : Int) + s ≤ 8
  | [], l, s, h, _ => by simp; omega
  | c :: L, l, s, h, ho => by
    simp only [ordL, okO, Bool.and_eq_true, decide_eq_true_eq] at ho
    have := ordL_len (L := L) (by omega) ho.2
    simp only [List.length_cons]
    omega
theorem orderV_parts {L : List Con} (h : orderV L = true) : ordL L (-1) 0 = true ∧ 0 < L.length ∧ L.length ≤ 8 := by
  unfold orderV at h
  rw [Bool.and_eq_true, decide_eq_true_eq] at h
  refine ⟨h.1, ?_, ?_⟩
  · cases L with
    | nil => simp [dimS] at h
    | cons c l => simp
  · have := ordL_len (by decide) h.1; omega
theorem val2_ok {L : List Con} (h : val2M 2 L = true) : okL L ∧ (∀ c ∈ L, fits c) ∧ 0 < L.length ∧ L.length ≤ 8 := by
  unfold val2M at h
  simp only [Bool.and_eq_true] at h
  obtain ⟨_, h1, h2⟩ := h
  obtain ⟨h3, h4, h5⟩ := orderV_parts h1
  have key : ∀ c ∈ L, legalP c := fun c hc => of_decide_eq_true (List.all_eq_true.1 h2 c hc)
  refine ⟨⟨by omega, fun c hc => ?_⟩, fun c hc => ?_, h4, h5⟩
  · obtain ⟨a, b, d, e, _⟩ := key c hc
    exact ⟨⟨a.1, by omega⟩, ⟨b.1, by omega⟩, d, e⟩
  · obtain ⟨a, b, d, e, _⟩ := key c hc
    unfold fits I64
    omega
end Go.Proofs.YtkkmlbhmcdoibaaGreatDoor.S

namespace Go.Proofs.YtkkmlbhmcdoibaaGreatDoor.S
open Go.QfSy Go.RowKit
def shO (c : Con) (last s : Int) : Bool := decide (last < c.exp ∧ c.exp ≤ 60 ∧ 1 ≤ c.dim ∧ c.dim ≤ 8 - s)
def shL : List Con → Int → Int → Bool
  | [], _, _ => true
  | c :: l, last, s => shO c last s && shL l c.exp (s + c.dim)
def shapeM (p : Int) (L : List Con) : Bool := (p == 2) && (!L.isEmpty && shL L (-1) 0)
def sgB (c : Con) : Bool := decide (c.sign = 1 ∨ c.sign = -1)
theorem ord_sh : ∀ {L : List Con} {l s : Int}, -1 ≤ l → ordL L l s = (shL L l s && L.all sgB)
  | [], _, _, _ => rfl
  | c :: L, l, s, h => by
    rw [Bool.eq_iff_iff]
    simp only [ordL, shL, okO, shO, sgB, List.all_cons, Bool.and_eq_true, decide_eq_true_eq]
    constructor
    · rintro ⟨h1, h2⟩
      rw [ord_sh (by omega), Bool.and_eq_true] at h2
      exact ⟨⟨⟨h1.2.2.1, h1.2.1, h1.2.2.2.2.1, h1.2.2.2.2.2⟩, h2.1⟩, h1.2.2.2.1, h2.2⟩
    · rintro ⟨⟨h1, h2⟩, h3, h4⟩
      refine ⟨⟨by omega, h1.2.1, h1.1, h3, h1.2.2.1, h1.2.2.2⟩, ?_⟩
      rw [ord_sh (by omega), Bool.and_eq_true]
      exact ⟨h2, h4⟩
theorem sh_pos : ∀ {L : List Con} {l s : Int}, shL L l s = true → 0 ≤ dimS L ∧ (L ≠ [] → 0 < dimS L)
  | [], _, _, _ => by simp [dimS]
  | c :: L, l, s, h => by
    simp only [shL, shO, Bool.and_eq_true, decide_eq_true_eq] at h
    have := sh_pos h.2
    simp only [dimS]
    exact ⟨by omega, fun _ => by omega⟩
theorem order_sh (L : List Con) : orderV L = (!L.isEmpty && shL L (-1) 0 && L.all sgB) := by
  unfold orderV
  rw [ord_sh (by decide)]
  cases hs : shL L (-1) 0 with
  | false => simp
  | true =>
    have hp := sh_pos hs
    cases L with
    | nil => simp [dimS]
    | cons c l =>
      have := hp.2 (by simp)
      simp [this]
theorem val2_sh (p : Int) (L : List Con) : val2M p L = (shapeM p L && L.all legalB) := by
  unfold val2M shapeM
  rw [order_sh]
  have hl : L.all legalB = true → L.all sgB = true := by
    intro h
    rw [List.all_eq_true] at h ⊢
    intro c hc
    have := of_decide_eq_true (h c hc)
    exact decide_eq_true this.2.2.1
  cases h1 : L.all legalB with
  | false => simp
  | true => rw [hl h1]; simp
def fusC (c : Con) : Bool := decide (0 ≤ c.oddity ∧ c.oddity ≤ 7) && (c.odd || (decide (c.dim % 2 = 0) && decide (c.oddity = 0)))
def fusI (L : List Con) (i : Nat) : Bool := fusC (at_ L i) && !(oddB L i && (!((partM L i).getD 0 0 == (i : Int)) && !((at_ L i).oddity == 0)))
def dimR (L : List Con) : List Int → Int
  | [] => 0
  | i :: l => (at_ L i.toNat).dim + dimR L l
def parR (L : List Con) (l : List Int) : Bool := decide (((at_ L (l.getD 0 0).toNat).oddity - dimR L l) % 2 = 0)
def zerR (L : List Con) (l : List Int) : Bool := l.tail.all fun i => (at_ L i.toNat).oddity == 0
def fusM (p : Int) (L : List Con) : Bool := (p == 2) && (orderV L && ((List.range L.length).all (fusI L) && (partsM L).all (parR L)))
def fusT (p : Int) (L : List Con) : Bool := shapeM p L && (L.all (fun c => sgB c && fusC c) && (partsM L).all (fun l => zerR L l && parR L l))
theorem tail_ivN {s n : Nat} : (ivN s (n + 1)).tail = ivN (s + 1) n := rfl
theorem fus_rows {L : List Con} : (∀ i, i < L.length → oddB L i = true → (partM L i).getD 0 0 ≠ (i : Int) → (at_ L i).oddity = 0) ↔ (∀ l ∈ partsM L, zerR L l = true) := by
  constructor
  · intro h l hl
    obtain ⟨s, n, e, hs, hr⟩ := part_row hl
    have hin := (parts_rows l hl).2.1
    unfold zerR
    rw [List.all_eq_true]
    intro x hx
    rw [e, tail_ivN, mem_ivN] at hx
    have hx2 : x ∈ l := by rw [e, mem_ivN]; omega
    have hlt := hin x hx2
    obtain ⟨h1, h2⟩ := hr (x.toNat - s) (by omega)
    rw [show s + (x.toNat - s) = x.toNat by omega] at h1 h2
    have h3 := h x.toNat (by omega) h1 (fun e2 => by rw [part_first (by omega) h1, h2 (by omega)] at e2; cases e2)
    rw [h3]; rfl
  · intro h i hi ho hne
    obtain ⟨s, n, t, e, h1, h2, h3, h4⟩ := part_iv hi ho
    have hz := h _ (partM_odd hi ho).1
    unfold zerR at hz
    rw [List.all_eq_true] at hz
    have ht : 0 < t := by
      rcases Nat.eq_zero_or_pos t with h0 | h0
      · subst h0
        rw [Nat.add_zero] at h1
        exact absurd ((part_first hi ho).2 (by rw [h1]; exact h3)) hne
      · exact h0
    have := hz (i : Int) (by rw [e, tail_ivN, mem_ivN]; omega)
    simpa using this
theorem all_at {L : List Con} (q : Con → Bool) : L.all q = true ↔ ∀ i, i < L.length → q (at_ L i) = true := by
  rw [List.all_eq_true]
  constructor
  · intro h i hi
    have : at_ L i = L[i] := by simp [at_, hi]
    rw [this]; exact h _ (List.getElem_mem hi)
  · intro h c hc
    obtain ⟨i, hi, rfl⟩ := List.getElem_of_mem hc
    have : at_ L i = L[i] := by simp [at_, hi]
    rw [← this]; exact h i hi
theorem fus_eq (p : Int) (L : List Con) : fusT p L = fusM p L := by
  rw [Bool.eq_iff_iff]
  unfold fusT fusM shapeM
  rw [order_sh]
  simp only [Bool.and_eq_true, List.all_eq_true (l := partsM L), List.all_eq_true (l := List.range L.length), List.mem_range, all_at]
  have key : (∀ i, i < L.length → fusI L i = true) ↔ (∀ i, i < L.length → fusC (at_ L i) = true) ∧ (∀ l ∈ partsM L, zerR L l = true) := by
    rw [← fus_rows]
    constructor
    · intro h
      refine ⟨fun i hi => ?_, fun i hi ho hne => ?_⟩
      · have := h i hi
        unfold fusI at this
        rw [Bool.and_eq_true] at this
        exact this.1
      · have := h i hi
        unfold fusI at this
        simp only [ho, Bool.and_eq_true, Bool.true_and, Bool.not_eq_true', Bool.and_eq_false_iff, Bool.not_eq_false', beq_iff_eq] at this
        rcases this.2 with h1 | h1
        · exact absurd h1 hne
        · exact h1
    · rintro ⟨h1, h2⟩ i hi
      unfold fusI
      rw [Bool.and_eq_true]
      refine ⟨h1 i hi, ?_⟩
      cases ho : oddB L i with
      | false => rfl
      | true =>
        by_cases hf : (partM L i).getD 0 0 = (i : Int)
        · rw [beq_iff_eq.2 hf]; rfl
        · rw [beq_iff_eq.2 (h2 i hi ho hf)]; simp only [Bool.not_true, Bool.and_false, Bool.not_false]
  constructor
  · rintro ⟨⟨h1, h2, h3⟩, h4, h5⟩
    exact ⟨h1, ⟨⟨h2, h3⟩, fun i hi => (h4 i hi).1⟩, key.2 ⟨fun i hi => (h4 i hi).2, fun l hl => (h5 l hl).1⟩, fun l hl => (h5 l hl).2⟩
  · rintro ⟨h1, ⟨⟨h2, h3⟩, h4⟩, h5, h6⟩
    have := key.1 h5
    exact ⟨⟨h1, h2, h3⟩, fun i hi => ⟨h4 i hi, this.1 i hi⟩, fun l hl => ⟨this.2 l hl, h6 l hl⟩⟩
end Go.Proofs.YtkkmlbhmcdoibaaGreatDoor.S

namespace Go.Proofs.YtkkmlbhmcdoibaaGreatDoor.S
open Go.QfSy Go.RowKit
end Go.Proofs.YtkkmlbhmcdoibaaGreatDoor.S

namespace Go.Proofs.YtkkmlbhmcdoibaaGreatDoor.S
open Go.QfSy Go.RowKit
end Go.Proofs.YtkkmlbhmcdoibaaGreatDoor.S

namespace Go.Proofs.YtkkmlbhmcdoibaaGreatDoor.S
open Go.QfSy Go.RowKit
theorem row_odd {L : List Con} {l : List Int} (hl : l ∈ partsM L) : ∀ x ∈ l, 0 ≤ x ∧ x < (L.length : Int) ∧ oddB L x.toNat = true := by
  intro x hx
  have h1 := (parts_rows l hl).2.1 x hx
  have h2 : ((x.toNat : Nat) : Int) ∈ (partsM L).flatten := by
    rw [show ((x.toNat : Nat) : Int) = x by omega]
    exact List.mem_flatten.2 ⟨l, hl, hx⟩
  exact ⟨h1.1, h1.2, (mem_parts.1 h2).2⟩
end Go.Proofs.YtkkmlbhmcdoibaaGreatDoor.S

namespace Go.Proofs.YtkkmlbhmcdoibaaGreatDoor.S
open Go.QfSy Go.RowKit
end Go.Proofs.YtkkmlbhmcdoibaaGreatDoor.S

namespace Go.Proofs.YtkkmlbhmcdoibaaGreatDoor.S
open Go.QfSy Go.RowKit
def oddOk (c : Con) : Prop := (0 ≤ c.exp ∧ c.exp ≤ 60) ∧ 1 ≤ c.dim ∧ (c.sign = 1 ∨ c.sign = -1) ∧ c.odd = true
end Go.Proofs.YtkkmlbhmcdoibaaGreatDoor.S

namespace Go.Proofs.YtkkmlbhmcdoibaaGreatDoor.S
open Go.QfSy Go.RowKit
end Go.Proofs.YtkkmlbhmcdoibaaGreatDoor.S

namespace Go.Proofs.YtkkmlbhmcdoibaaGreatDoor.S
open Go.QfSy Go.RowKit
theorem sh_at : ∀ {L : List Con} {l s : Int}, -1 ≤ l → 0 ≤ s → shL L l s = true → (∀ c ∈ L, 0 ≤ c.exp ∧ c.exp ≤ 60 ∧ 1 ≤ c.dim ∧ c.dim ≤ 8) ∧ (dimS L ≤ 8 - s ∨ L = []) ∧ (L.length : Int) ≤ dimS L
  | [], _, _, _, _, _ => ⟨fun c hc => by simp at hc, .inr rfl, by simp [dimS]⟩
  | c :: L, l, s, h0, hs, h => by
    simp only [shL, shO, Bool.and_eq_true, decide_eq_true_eq] at h
    obtain ⟨h1, h2⟩ := h
    obtain ⟨i1, i2, i3⟩ := sh_at (L := L) (l := c.exp) (s := s + c.dim) (by omega) (by omega) h2
    refine ⟨fun x hx => ?_, .inl ?_, ?_⟩
    · rcases List.mem_cons.1 hx with rfl | hx
      · omega
      · exact i1 x hx
    · simp only [dimS]
      rcases i2 with i2 | i2
      · omega
      · rw [i2]; simp only [dimS]; omega
    · simp only [dimS, List.length_cons]
      omega
structure FusAt (c : Con) : Prop where
  exp : 0 ≤ c.exp ∧ c.exp ≤ 60
  dim : 1 ≤ c.dim ∧ c.dim ≤ 8
  sign : c.sign = 1 ∨ c.sign = -1
  odt : 0 ≤ c.oddity ∧ c.oddity ≤ 7
  even : c.odd = false → c.dim % 2 = 0 ∧ c.oddity = 0
theorem fus_parts {L : List Con} (h : fusM 2 L = true) : shL L (-1) 0 = true ∧ 0 < L.length ∧ L.length ≤ 8 ∧ dimS L ≤ 8 ∧ ∀ k, k < L.length → FusAt (at_ L k) := by
  rw [← fus_eq] at h
  simp only [fusT, shapeM, Bool.and_eq_true] at h
  obtain ⟨⟨_, h1, h2⟩, h3, _⟩ := h
  obtain ⟨i1, i2, i3⟩ := sh_at (by decide) (by decide) h2
  have hne : L ≠ [] := by intro e; rw [e] at h1; cases h1
  have hd : dimS L ≤ 8 := by rcases i2 with i2 | i2; omega; exact absurd i2 hne
  refine ⟨h2, List.length_pos_iff.2 hne, by omega, hd, fun k hk => ?_⟩
  have e : at_ L k = L[k] := by simp [at_, hk]
  have h4 := i1 _ (List.getElem_mem hk)
  have h5 := (all_at _).1 h3 k hk
  rw [← e] at h4
  simp only [Bool.and_eq_true, sgB, fusC, decide_eq_true_eq, Bool.or_eq_true] at h5
  exact ⟨⟨h4.1, h4.2.1⟩, h4.2.2, h5.1, h5.2.1, fun ho => by rcases h5.2.2 with h | h; rw [ho] at h; cases h; exact h⟩
end Go.Proofs.YtkkmlbhmcdoibaaGreatDoor.S

namespace Go.Proofs.YtkkmlbhmcdoibaaGreatDoor.S
open Go.QfSy Go.RowKit
theorem row_ok {L : List Con} (h : fusM 2 L = true) {l : List Int} (hl : l ∈ partsM L) : ∀ x ∈ l, oddOk (at_ L x.toNat) := by
  intro x hx
  obtain ⟨h1, h2, h3⟩ := row_odd hl x hx
  have := (fus_parts h).2.2.2.2 x.toNat (by omega)
  exact ⟨this.exp, this.dim.1, this.sign, h3⟩
end Go.Proofs.YtkkmlbhmcdoibaaGreatDoor.S

namespace Go.Proofs.YtkkmlbhmcdoibaaGreatDoor.S
open Go.QfSy Go.RowKit
end Go.Proofs.YtkkmlbhmcdoibaaGreatDoor.S

namespace Go.Proofs.YtkkmlbhmcdoibaaGreatDoor.S
open Go.QfSy Go.RowKit
end Go.Proofs.YtkkmlbhmcdoibaaGreatDoor.S

namespace Go.Proofs.YtkkmlbhmcdoibaaGreatDoor.S
open Go.QfSy Go.RowKit
end Go.Proofs.YtkkmlbhmcdoibaaGreatDoor.S

namespace Go.Proofs.YtkkmlbhmcdoibaaGreatDoor.S
open Go.QfSy Go.RowKit
end Go.Proofs.YtkkmlbhmcdoibaaGreatDoor.S

namespace Go.Proofs.YtkkmlbhmcdoibaaGreatDoor.S
open Go.QfSy Go.RowKit
def ascI (L : List Con) : Prop := ∀ i j, i < j → j < L.length → (at_ L i).exp < (at_ L j).exp
theorem at_mem {L : List Con} {k : Nat} (h : k < L.length) : at_ L k ∈ L := by
  have : at_ L k = L[k] := by simp [at_, h]
  rw [this]; exact List.getElem_mem h
theorem mem_at {L : List Con} {c : Con} (h : c ∈ L) : ∃ k, k < L.length ∧ at_ L k = c := by
  obtain ⟨k, hk, e⟩ := List.getElem_of_mem h
  exact ⟨k, hk, by simp [at_, hk, e]⟩
theorem at_cons (a : Con) (l : List Con) (k : Nat) : at_ (a :: l) (k + 1) = at_ l k := by simp [at_]
theorem asc_at : ∀ {L : List Con}, asc L → ascI L
  | [], _ => fun i j _ hj => by simp at hj
  | a :: l, h => fun i j hij hj => by
    cases j with
    | zero => omega
    | succ j =>
      rw [at_cons]
      simp only [List.length_cons] at hj
      cases i with
      | zero => exact h.1 _ (at_mem (by omega))
      | succ i => rw [at_cons]; exact asc_at h.2 i j (by omega) (by omega)
theorem at_asc : ∀ {L : List Con}, ascI L → asc L
  | [], _ => trivial
  | a :: l, h => ⟨fun x hx => by
      obtain ⟨k, hk, e⟩ := mem_at hx
      have := h 0 (k + 1) (by omega) (by simp; omega)
      rw [at_cons, e] at this
      exact this, at_asc fun i j hij hj => by
      have := h (i + 1) (j + 1) (by omega) (by simp; omega)
      rw [at_cons, at_cons] at this
      exact this⟩
theorem sh_asc : ∀ {L : List Con} {last s : Int}, shL L last s = true → asc L ∧ ∀ c ∈ L, last < c.exp
  | [], _, _, _ => ⟨trivial, by simp⟩
  | c :: l, last, s, h => by
    have h' : (shO c last s && shL l c.exp (s + c.dim)) = true := h
    simp only [Bool.and_eq_true] at h'
    obtain ⟨h1, h2⟩ := sh_asc h'.2
    have h3 := of_decide_eq_true (show decide (last < c.exp ∧ c.exp ≤ 60 ∧ 1 ≤ c.dim ∧ c.dim ≤ 8 - s) = true from h'.1)
    refine ⟨⟨h2, h1⟩, fun x hx => ?_⟩
    rcases List.mem_cons.1 hx with hx | hx
    · rw [hx]; exact h3.1
    · have := h2 x hx; omega
theorem val2_asc {L : List Con} (h : val2M 2 L = true) : ascI L := by
  rw [val2_sh] at h
  unfold shapeM at h
  simp only [Bool.and_eq_true] at h
  exact asc_at (sh_asc h.1.2.2).1
end Go.Proofs.YtkkmlbhmcdoibaaGreatDoor.S

namespace Go.Proofs.YtkkmlbhmcdoibaaGreatDoor.S
open Go.QfSy Go.RowKit
end Go.Proofs.YtkkmlbhmcdoibaaGreatDoor.S

namespace Go.Proofs.YtkkmlbhmcdoibaaGreatDoor.S
open Go.QfSy Go.RowKit
theorem adE_lt {a b : Con} {A B : List Con} (h : a.exp < b.exp) : addM (a :: A) (b :: B) = a :: addM A (b :: B) := by rw [addM, if_pos h]
theorem adE_gt {a b : Con} {A B : List Con} (h : b.exp < a.exp) : addM (a :: A) (b :: B) = b :: addM (a :: A) B := by rw [addM, if_neg (by omega), if_pos h]
theorem adE_eq {a b : Con} {A B : List Con} (h : a.exp = b.exp) : addM (a :: A) (b :: B) = joinM a b :: addM A B := by rw [addM, if_neg (by omega), if_neg (by omega)]
theorem add_ind {motive : List Con → List Con → Prop} (h1 : ∀ B, motive [] B) (h2 : ∀ a A, motive (a :: A) [])
    (h3 : ∀ a A b B, a.exp < b.exp → motive A (b :: B) → motive (a :: A) (b :: B))
    (h4 : ∀ a A b B, b.exp < a.exp → motive (a :: A) B → motive (a :: A) (b :: B))
    (h5 : ∀ a A b B, a.exp = b.exp → motive A B → motive (a :: A) (b :: B)) : ∀ A B, motive A B
  | [], B => h1 B
  | a :: A, [] => h2 a A
  | a :: A, b :: B => by
    rcases Int.lt_trichotomy a.exp b.exp with h | h | h
    · exact h3 a A b B h (add_ind h1 h2 h3 h4 h5 A (b :: B))
    · exact h5 a A b B h (add_ind h1 h2 h3 h4 h5 A B)
    · exact h4 a A b B h (add_ind h1 h2 h3 h4 h5 (a :: A) B)
termination_by A B => A.length + B.length
def g0 (c : Con) : Con := ⟨c.exp, c.dim, 1, c.odd, 0⟩
end Go.Proofs.YtkkmlbhmcdoibaaGreatDoor.S

namespace Go.Proofs.YtkkmlbhmcdoibaaGreatDoor.S
open Go.QfSy Go.RowKit
end Go.Proofs.YtkkmlbhmcdoibaaGreatDoor.S

namespace Go.Proofs.YtkkmlbhmcdoibaaGreatDoor.S
open Go.QfSy Go.RowKit
theorem mem_addL (A B : List Con) : ∀ a ∈ A, ∃ c ∈ addM A B, c.exp = a.exp := by
  refine add_ind (motive := fun A B => ∀ a ∈ A, ∃ c ∈ addM A B, c.exp = a.exp) ?_ ?_ ?_ ?_ ?_ A B
  · intro B a ha; simp at ha
  · intro a A x hx; rw [addM_nil]; exact ⟨x, hx, rfl⟩
  · intro a A b B h ih x hx
    rw [adE_lt h]
    rcases List.mem_cons.1 hx with hx | hx
    · exact ⟨a, by simp, by rw [hx]⟩
    · obtain ⟨c, hc, e⟩ := ih x hx; exact ⟨c, by simp [hc], e⟩
  · intro a A b B h ih x hx
    rw [adE_gt h]
    obtain ⟨c, hc, e⟩ := ih x hx; exact ⟨c, by simp [hc], e⟩
  · intro a A b B h ih x hx
    rw [adE_eq h]
    rcases List.mem_cons.1 hx with hx | hx
    · exact ⟨joinM a b, by simp, by rw [hx]; rfl⟩
    · obtain ⟨c, hc, e⟩ := ih x hx; exact ⟨c, by simp [hc], e⟩
end Go.Proofs.YtkkmlbhmcdoibaaGreatDoor.S

namespace Go.Proofs.YtkkmlbhmcdoibaaGreatDoor.S
open Go.QfSy Go.RowKit
end Go.Proofs.YtkkmlbhmcdoibaaGreatDoor.S

namespace Go.Proofs.YtkkmlbhmcdoibaaGreatDoor.S
open Go.QfSy Go.RowKit
end Go.Proofs.YtkkmlbhmcdoibaaGreatDoor.S

namespace Go.Proofs.YtkkmlbhmcdoibaaGreatDoor.S
open Go.QfSy Go.RowKit
noncomputable def coH (p : Int) (L : List Con) : List (Nat × Blk) := [(1000, ⟨.plain [.vint .i64 p, (roC L).av], 30, 0, false, true⟩), (1001, ⟨.plain [.fn 46 [.ptr 1000 0], .fn 47 [.ptr 1000 0]], 79, 0, false, true⟩)]
noncomputable def coAnn (p : Int) (L : List Con) : Ann := ⟨⟨[(3, .ptr 1001 0), (5, .nils), (8, .vint .i64 L.length), (9, .int .i64 0)], coH p L, 1002⟩, some (partsA L L.length).2.isNone, fun d => match d with
  | true => (.exit 0, ⟨[(5, .nils)], [], 1010⟩)
  | false => (.exit 0, ⟨[(5, .lo 1003 ((partsFin L).length + 1))], [(1003, ⟨.rows .i64 (partsFin L) 1004 (partsLst L).length, 22, 1, true, true⟩), (1004, ⟨.ints .i64 (partsLst L), 3, 1, true, true⟩)], 1010⟩)⟩
noncomputable def coS (p : Int) (L : List Con) : Nat × List (List Int) × Option (List Int) → St
  | (k, _, none) => ⟨[(3, .ptr 1001 0), (5, .nils), (8, .vint .i64 L.length), (9, .vint .i64 (k : Int))], coH p L, 1010⟩
  | (k, F, some l) => ⟨[(3, .ptr 1001 0), (5, .lo 1003 (F.length + 1)), (8, .vint .i64 L.length), (9, .vint .i64 (k : Int))], coH p L ++ [(1003, ⟨.rows .i64 F 1004 l.length, 22, 1, true, true⟩), (1004, ⟨.ints .i64 l, 3, 1, true, true⟩)], 1010⟩
theorem joinB_t' {L : List Con} {k : Nat} (h1 : 0 < k) (h2 : (at_ L (k - 1)).odd = true) (h3 : (at_ L k).exp = (at_ L (k - 1)).exp + 1) : joinB L k = true := joinB_t h1 h2 (by omega)
theorem joinB_3' {L : List Con} {k : Nat} (h1 : ¬ (at_ L k).exp = (at_ L (k - 1)).exp + 1) : joinB L k = false := joinB_3 (by omega)
set_option maxRecDepth 100000 in
theorem co_loop (p : Int) (L : List Con) (hL : okE L) : AnnOk Tryz.prog EV.ng (Nat.max 2 Tryz.f45.ntmps) (bodyAt Tryz.f45 [0, 1, 0, 1, 1]) (coAnn p L) := by
  refine ann_of evOk (callF_ok evOk (noOrc_ok _ _) 8) none_ann (by kernel_rfl) (by kernel_rfl) (coS p L) (fun i => L.length - i.1) (fun d i => partsI L i ∧ d = (partsA L L.length).2.isNone) ?_ ?_
  · intro d hd
    exact ⟨(0, [], none), [(↑L.length : Int) = (↑L.length : Int), (0 : Int) = (↑(0 : Nat) : Int), p = p, L.length = L.length ∧ (fun i => (L.getD i Con.zero).rvs) = fun i => (L.getD i Con.zero).rvs], by kernel_rfl, (by refine ⟨?_, ?_, ?_, (?_ : L.length = L.length ∧ (fun i => (L.getD i Con.zero).rvs) = fun i => (L.getD i Con.zero).rvs)⟩ <;> (first | rfl | assumption | omega | simp_all)), (by exact ⟨⟨Nat.zero_le _, rfl⟩, hd.symm⟩)⟩
  · rintro d hd ⟨k, F, o⟩ hI
    cases d
    · -- d = false
      obtain ⟨hI, hD⟩ := hI
      have hG := partsI_ok hI
      have hk : k ≤ L.length := hI.1
      have hl := hL.1
      have ek : IntKind.i64.wrap ((k : Int) + 1) = ((k + 1 : Nat) : Int) := by rw [w64 (by omega) (by omega)]; omega
      have em : IntKind.i64.wrap ((k : Int) - 1) = (k : Int) - 1 := w64 (by omega) (by omega)
      have et : ((k : Int) - 1).toNat = k - 1 := by omega
      have ew : IntKind.i64.wrap ((at_ L (k - 1)).exp + 1) = (at_ L (k - 1)).exp + 1 := by have := hL.at' (k - 1); exact w64 (by omega) (by omega)
      have hFk : F.length ≤ k := by have := hG.len; cases o <;> simp [allA] at this <;> omega
      have eF : IntKind.i64.wrap (((F.length + 1 : Nat) : Int) - 1) = (F.length : Int) := by rw [w64 (by omega) (by omega)]; omega
      rcases o with _ | l
      · -- 1
        refine Or.elim (Bool.eq_false_or_eq_true (decide ((↑k : Int) < (↑L.length : Int)))) (fun d1 => Or.elim (Bool.eq_false_or_eq_true ((L.getD k Con.zero).odd)) (fun d2 => Or.elim (Bool.eq_false_or_eq_true (decide ((↑k : Int) > (0 : Int)))) (fun d3 => Or.elim (Bool.eq_false_or_eq_true ((L.getD (IntKind.i64.wrap ((↑k : Int) - (1 : Int))).toNat Con.zero).odd)) (fun d4 => GnG.no ?_)
           (fun d4 => ⟨[true, false, true, false], .inl ⟨(k + 1, [], some [(k : Int)]), [(1 : Nat) = (0 : Nat) + (1 : Nat), (↑L.length : Int) = (↑L.length : Int), IntKind.i64.wrap ((↑k : Int) + (1 : Int)) = (↑(k + (1 : Nat)) : Int), p = p, L.length = L.length ∧ (fun i => (L.getD i Con.zero).rvs) = fun i => (L.getD i Con.zero).rvs, ([] : List (List Int)) = [] ∧ (1 : Nat) = [(↑k : Int)].length, [(↑k : Int)] = [(↑k : Int)], Dec (L.getD (IntKind.i64.wrap ((↑k : Int) - (1 : Int))).toNat Con.zero).odd false, (0 : Int) ≤ IntKind.i64.wrap ((↑k : Int) - (1 : Int)) ∧ IntKind.i64.wrap ((↑k : Int) - (1 : Int)) < (↑L.length : Int), Dec (decide ((↑k : Int) > (0 : Int))) true, Dec (!(L.getD k Con.zero).odd) false, (0 : Int) ≤ (↑k : Int) ∧ (↑k : Int) < (↑L.length : Int), Dec (decide ((↑k : Int) < (↑L.length : Int))) true], by kernel_rfl, ⟨?_, ?_, ?_, ?_, ?_, ?_, ?_, d4, ?_, d3, (dN d2), ?_, d1⟩, MuG.out ?_, InG.out ?_⟩⟩))
           (fun d3 => ⟨[true, false, false], .inl ⟨(k + 1, [], some [(k : Int)]), [(1 : Nat) = (0 : Nat) + (1 : Nat), (↑L.length : Int) = (↑L.length : Int), IntKind.i64.wrap ((↑k : Int) + (1 : Int)) = (↑(k + (1 : Nat)) : Int), p = p, L.length = L.length ∧ (fun i => (L.getD i Con.zero).rvs) = fun i => (L.getD i Con.zero).rvs, ([] : List (List Int)) = [] ∧ (1 : Nat) = [(↑k : Int)].length, [(↑k : Int)] = [(↑k : Int)], Dec (decide ((↑k : Int) > (0 : Int))) false, Dec (!(L.getD k Con.zero).odd) false, (0 : Int) ≤ (↑k : Int) ∧ (↑k : Int) < (↑L.length : Int), Dec (decide ((↑k : Int) < (↑L.length : Int))) true], by kernel_rfl, ⟨?_, ?_, ?_, ?_, ?_, ?_, ?_, d3, (dN d2), ?_, d1⟩, MuG.out ?_, InG.out ?_⟩⟩))
           (fun d2 => ⟨[true, true], .inl ⟨(k + 1, F, none), [(↑L.length : Int) = (↑L.length : Int), IntKind.i64.wrap ((↑k : Int) + (1 : Int)) = (↑(k + (1 : Nat)) : Int), p = p, L.length = L.length ∧ (fun i => (L.getD i Con.zero).rvs) = fun i => (L.getD i Con.zero).rvs, Dec (!(L.getD k Con.zero).odd) true, (0 : Int) ≤ (↑k : Int) ∧ (↑k : Int) < (↑L.length : Int), Dec (decide ((↑k : Int) < (↑L.length : Int))) true], by kernel_rfl, ⟨?_, ?_, ?_, ?_, (dN d2), ?_, d1⟩, MuG.out ?_, InG.out ?_⟩⟩))
           (fun d1 => CtG.no ?_)
        all_goals first | (refine MuG.mk ?_; (simp only [decide_eq_true_eq, decide_eq_false_iff_not] at *; show L.length - (k + 1) < L.length - k; omega)) | (refine InG.mk ?_; (simp only [em, et, ew, decide_eq_true_eq, decide_eq_false_iff_not, gt_iff_lt, beq_iff_eq, beq_eq_false_iff_ne, ne_eq] at *; first | exact ⟨partsI_no hI (by omega) d2, hD⟩ | exact ⟨partsI_one hI (by omega) d2, hD⟩ | exact ⟨partsI_app hI (by omega) d2 (joinB_t' (by omega) d4 d5), hD⟩ | exact ⟨partsI_new hI (by omega) d2 (joinB_1 (by omega)), hD⟩ | exact ⟨partsI_new hI (by omega) d2 (joinB_2 d4), hD⟩ | exact ⟨partsI_new hI (by omega) d2 (joinB_3' d5), hD⟩)) | (refine CtG.mk ?_; (simp only [decide_eq_false_iff_not] at *; have h0 := partsI_end hI (by omega); rw [h0] at hD; cases hD)) | (refine GnG.mk ?_; (have h0 := ((partsI_ok hI).none rfl).2 (k - 1) (by simp only [decide_eq_true_eq] at d3; show k - 1 < k; omega); simp only [em, et] at d4; exact Bool.noConfusion ((show false = _ from h0.symm).trans d4))) | (first | rfl | exact ⟨rfl, rfl⟩ | ((try simp only [em, ek, et, eF, ew, Int.toNat_natCast, decide_eq_true_eq, decide_eq_false_iff_not, gt_iff_lt, View.num] at *) <;> first | omega | exact ⟨rfl, rfl⟩ | (have := (hG.rows l (by simp [allA])).2.2; exact ⟨by trivial, by omega⟩) | (rw [(partsI_fin hI (by omega)).1]; done) | (rw [(partsI_fin hI (by omega)).2]; done) | (rw [(partsI_fin hI (by omega)).1, (partsI_fin hI (by omega)).2]; exact ⟨rfl, rfl⟩) | (simp; done)))
      · -- 2
        refine Or.elim (Bool.eq_false_or_eq_true (decide ((↑k : Int) < (↑L.length : Int)))) (fun d1 => Or.elim (Bool.eq_false_or_eq_true ((L.getD k Con.zero).odd)) (fun d2 => Or.elim (Bool.eq_false_or_eq_true (decide ((↑k : Int) > (0 : Int)))) (fun d3 => Or.elim (Bool.eq_false_or_eq_true ((L.getD (IntKind.i64.wrap ((↑k : Int) - (1 : Int))).toNat Con.zero).odd)) (fun d4 => Or.elim (Bool.eq_false_or_eq_true ((L.getD k Con.zero).exp == IntKind.i64.wrap ((L.getD (IntKind.i64.wrap ((↑k : Int) - (1 : Int))).toNat Con.zero).exp + (1 : Int)))) (fun d5 => ⟨[true, false, true, true, true], .inl ⟨(k + 1, F, some (l ++ [(k : Int)])), [F.length + (1 : Nat) = F.length + (1 : Nat), (↑L.length : Int) = (↑L.length : Int), IntKind.i64.wrap ((↑k : Int) + (1 : Int)) = (↑(k + (1 : Nat)) : Int), p = p, L.length = L.length ∧ (fun i => (L.getD i Con.zero).rvs) = fun i => (L.getD i Con.zero).rvs, F = F ∧ l.length + (1 : Nat) = (l ++ [(↑k : Int)]).length, l ++ [(↑k : Int)] = l ++ [(↑k : Int)], (IntKind.i64.wrap ((↑(F.length + (1 : Nat)) : Int) - (1 : Int))).toNat = F.length, (0 : Int) ≤ IntKind.i64.wrap ((↑(F.length + (1 : Nat)) : Int) - (1 : Int)) ∧ IntKind.i64.wrap ((↑(F.length + (1 : Nat)) : Int) - (1 : Int)) < (↑(F.length + (1 : Nat)) : Int), (View.ints IntKind.i64 l).num = l.length ∧ l.length + (1 : Nat) ≤ (1000000 : Nat), (IntKind.i64.wrap ((↑(F.length + (1 : Nat)) : Int) - (1 : Int))).toNat = F.length, (0 : Int) ≤ IntKind.i64.wrap ((↑(F.length + (1 : Nat)) : Int) - (1 : Int)) ∧ IntKind.i64.wrap ((↑(F.length + (1 : Nat)) : Int) - (1 : Int)) < (↑(F.length + (1 : Nat)) : Int), Dec ((L.getD k Con.zero).exp == IntKind.i64.wrap ((L.getD (IntKind.i64.wrap ((↑k : Int) - (1 : Int))).toNat Con.zero).exp + (1 : Int))) true, (0 : Int) ≤ IntKind.i64.wrap ((↑k : Int) - (1 : Int)) ∧ IntKind.i64.wrap ((↑k : Int) - (1 : Int)) < (↑L.length : Int), (0 : Int) ≤ (↑k : Int) ∧ (↑k : Int) < (↑L.length : Int), Dec (L.getD (IntKind.i64.wrap ((↑k : Int) - (1 : Int))).toNat Con.zero).odd true, (0 : Int) ≤ IntKind.i64.wrap ((↑k : Int) - (1 : Int)) ∧ IntKind.i64.wrap ((↑k : Int) - (1 : Int)) < (↑L.length : Int), Dec (decide ((↑k : Int) > (0 : Int))) true, Dec (!(L.getD k Con.zero).odd) false, (0 : Int) ≤ (↑k : Int) ∧ (↑k : Int) < (↑L.length : Int), Dec (decide ((↑k : Int) < (↑L.length : Int))) true], by kernel_rfl, ⟨?_, ?_, ?_, ?_, ?_, ?_, ?_, ?_, ?_, ?_, ?_, ?_, d5, ?_, ?_, d4, ?_, d3, (dN d2), ?_, d1⟩, MuG.out ?_, InG.out ?_⟩⟩)
           (fun d5 => ⟨[true, false, true, true, false], .inl ⟨(k + 1, F ++ [l], some [(k : Int)]), [F.length + (1 : Nat) + (1 : Nat) = (F ++ [l]).length + (1 : Nat), (↑L.length : Int) = (↑L.length : Int), IntKind.i64.wrap ((↑k : Int) + (1 : Int)) = (↑(k + (1 : Nat)) : Int), p = p, L.length = L.length ∧ (fun i => (L.getD i Con.zero).rvs) = fun i => (L.getD i Con.zero).rvs, F ++ [l] = F ++ [l] ∧ (1 : Nat) = [(↑k : Int)].length, [(↑k : Int)] = [(↑k : Int)], F.length + (1 : Nat) + (1 : Nat) ≤ (1000000 : Nat), F.length + (1 : Nat) = F.length + (1 : Nat) ∧ l.length = l.length, Dec ((L.getD k Con.zero).exp == IntKind.i64.wrap ((L.getD (IntKind.i64.wrap ((↑k : Int) - (1 : Int))).toNat Con.zero).exp + (1 : Int))) false, (0 : Int) ≤ IntKind.i64.wrap ((↑k : Int) - (1 : Int)) ∧ IntKind.i64.wrap ((↑k : Int) - (1 : Int)) < (↑L.length : Int), (0 : Int) ≤ (↑k : Int) ∧ (↑k : Int) < (↑L.length : Int), Dec (L.getD (IntKind.i64.wrap ((↑k : Int) - (1 : Int))).toNat Con.zero).odd true, (0 : Int) ≤ IntKind.i64.wrap ((↑k : Int) - (1 : Int)) ∧ IntKind.i64.wrap ((↑k : Int) - (1 : Int)) < (↑L.length : Int), Dec (decide ((↑k : Int) > (0 : Int))) true, Dec (!(L.getD k Con.zero).odd) false, (0 : Int) ≤ (↑k : Int) ∧ (↑k : Int) < (↑L.length : Int), Dec (decide ((↑k : Int) < (↑L.length : Int))) true], by kernel_rfl, ⟨?_, ?_, ?_, ?_, ?_, ?_, ?_, ?_, ?_, d5, ?_, ?_, d4, ?_, d3, (dN d2), ?_, d1⟩, MuG.out ?_, InG.out ?_⟩⟩))
           (fun d4 => ⟨[true, false, true, false], .inl ⟨(k + 1, F ++ [l], some [(k : Int)]), [F.length + (1 : Nat) + (1 : Nat) = (F ++ [l]).length + (1 : Nat), (↑L.length : Int) = (↑L.length : Int), IntKind.i64.wrap ((↑k : Int) + (1 : Int)) = (↑(k + (1 : Nat)) : Int), p = p, L.length = L.length ∧ (fun i => (L.getD i Con.zero).rvs) = fun i => (L.getD i Con.zero).rvs, F ++ [l] = F ++ [l] ∧ (1 : Nat) = [(↑k : Int)].length, [(↑k : Int)] = [(↑k : Int)], F.length + (1 : Nat) + (1 : Nat) ≤ (1000000 : Nat), F.length + (1 : Nat) = F.length + (1 : Nat) ∧ l.length = l.length, Dec (L.getD (IntKind.i64.wrap ((↑k : Int) - (1 : Int))).toNat Con.zero).odd false, (0 : Int) ≤ IntKind.i64.wrap ((↑k : Int) - (1 : Int)) ∧ IntKind.i64.wrap ((↑k : Int) - (1 : Int)) < (↑L.length : Int), Dec (decide ((↑k : Int) > (0 : Int))) true, Dec (!(L.getD k Con.zero).odd) false, (0 : Int) ≤ (↑k : Int) ∧ (↑k : Int) < (↑L.length : Int), Dec (decide ((↑k : Int) < (↑L.length : Int))) true], by kernel_rfl, ⟨?_, ?_, ?_, ?_, ?_, ?_, ?_, ?_, ?_, d4, ?_, d3, (dN d2), ?_, d1⟩, MuG.out ?_, InG.out ?_⟩⟩))
           (fun d3 => ⟨[true, false, false], .inl ⟨(k + 1, F ++ [l], some [(k : Int)]), [F.length + (1 : Nat) + (1 : Nat) = (F ++ [l]).length + (1 : Nat), (↑L.length : Int) = (↑L.length : Int), IntKind.i64.wrap ((↑k : Int) + (1 : Int)) = (↑(k + (1 : Nat)) : Int), p = p, L.length = L.length ∧ (fun i => (L.getD i Con.zero).rvs) = fun i => (L.getD i Con.zero).rvs, F ++ [l] = F ++ [l] ∧ (1 : Nat) = [(↑k : Int)].length, [(↑k : Int)] = [(↑k : Int)], F.length + (1 : Nat) + (1 : Nat) ≤ (1000000 : Nat), F.length + (1 : Nat) = F.length + (1 : Nat) ∧ l.length = l.length, Dec (decide ((↑k : Int) > (0 : Int))) false, Dec (!(L.getD k Con.zero).odd) false, (0 : Int) ≤ (↑k : Int) ∧ (↑k : Int) < (↑L.length : Int), Dec (decide ((↑k : Int) < (↑L.length : Int))) true], by kernel_rfl, ⟨?_, ?_, ?_, ?_, ?_, ?_, ?_, ?_, ?_, d3, (dN d2), ?_, d1⟩, MuG.out ?_, InG.out ?_⟩⟩))
           (fun d2 => ⟨[true, true], .inl ⟨(k + 1, F, some l), [F.length + (1 : Nat) = F.length + (1 : Nat), (↑L.length : Int) = (↑L.length : Int), IntKind.i64.wrap ((↑k : Int) + (1 : Int)) = (↑(k + (1 : Nat)) : Int), p = p, L.length = L.length ∧ (fun i => (L.getD i Con.zero).rvs) = fun i => (L.getD i Con.zero).rvs, F = F ∧ l.length = l.length, l = l, Dec (!(L.getD k Con.zero).odd) true, (0 : Int) ≤ (↑k : Int) ∧ (↑k : Int) < (↑L.length : Int), Dec (decide ((↑k : Int) < (↑L.length : Int))) true], by kernel_rfl, ⟨?_, ?_, ?_, ?_, ?_, ?_, ?_, (dN d2), ?_, d1⟩, MuG.out ?_, InG.out ?_⟩⟩))
           (fun d1 => ⟨[false], .inr ⟨[F.length + (1 : Nat) = (partsFin L).length + (1 : Nat), F = partsFin L ∧ l.length = (partsLst L).length, l = partsLst L, Dec (decide ((↑k : Int) < (↑L.length : Int))) false], by kernel_rfl, ⟨?_, ?_, ?_, d1⟩, rfl⟩⟩)
        all_goals first | (refine MuG.mk ?_; (simp only [decide_eq_true_eq, decide_eq_false_iff_not] at *; show L.length - (k + 1) < L.length - k; omega)) | (refine InG.mk ?_; (simp only [em, et, ew, decide_eq_true_eq, decide_eq_false_iff_not, gt_iff_lt, beq_iff_eq, beq_eq_false_iff_ne, ne_eq] at *; first | exact ⟨partsI_no hI (by omega) d2, hD⟩ | exact ⟨partsI_one hI (by omega) d2, hD⟩ | exact ⟨partsI_app hI (by omega) d2 (joinB_t' (by omega) d4 d5), hD⟩ | exact ⟨partsI_new hI (by omega) d2 (joinB_1 (by omega)), hD⟩ | exact ⟨partsI_new hI (by omega) d2 (joinB_2 d4), hD⟩ | exact ⟨partsI_new hI (by omega) d2 (joinB_3' d5), hD⟩)) | (refine CtG.mk ?_; (simp only [decide_eq_false_iff_not] at *; have h0 := partsI_end hI (by omega); rw [h0] at hD; cases hD)) | (refine GnG.mk ?_; (have h0 := ((partsI_ok hI).none rfl).2 (k - 1) (by simp only [decide_eq_true_eq] at d3; show k - 1 < k; omega); simp only [em, et] at d4; exact Bool.noConfusion ((show false = _ from h0.symm).trans d4))) | (first | rfl | exact ⟨rfl, rfl⟩ | ((try simp only [em, ek, et, eF, ew, Int.toNat_natCast, decide_eq_true_eq, decide_eq_false_iff_not, gt_iff_lt, View.num] at *) <;> first | omega | exact ⟨rfl, rfl⟩ | (have := (hG.rows l (by simp [allA])).2.2; exact ⟨by trivial, by omega⟩) | (rw [(partsI_fin hI (by omega)).1]; done) | (rw [(partsI_fin hI (by omega)).2]; done) | (rw [(partsI_fin hI (by omega)).1, (partsI_fin hI (by omega)).2]; exact ⟨rfl, rfl⟩) | (simp; done)))
    · -- d = true
      obtain ⟨hI, hD⟩ := hI
      have hG := partsI_ok hI
      have hk : k ≤ L.length := hI.1
      have hl := hL.1
      have ek : IntKind.i64.wrap ((k : Int) + 1) = ((k + 1 : Nat) : Int) := by rw [w64 (by omega) (by omega)]; omega
      have em : IntKind.i64.wrap ((k : Int) - 1) = (k : Int) - 1 := w64 (by omega) (by omega)
      have et : ((k : Int) - 1).toNat = k - 1 := by omega
      have ew : IntKind.i64.wrap ((at_ L (k - 1)).exp + 1) = (at_ L (k - 1)).exp + 1 := by have := hL.at' (k - 1); exact w64 (by omega) (by omega)
      have hFk : F.length ≤ k := by have := hG.len; cases o <;> simp [allA] at this <;> omega
      have eF : IntKind.i64.wrap (((F.length + 1 : Nat) : Int) - 1) = (F.length : Int) := by rw [w64 (by omega) (by omega)]; omega
      rcases o with _ | l
      · -- 1
        refine Or.elim (Bool.eq_false_or_eq_true (decide ((↑k : Int) < (↑L.length : Int)))) (fun d1 => Or.elim (Bool.eq_false_or_eq_true ((L.getD k Con.zero).odd)) (fun d2 => Or.elim (Bool.eq_false_or_eq_true (decide ((↑k : Int) > (0 : Int)))) (fun d3 => Or.elim (Bool.eq_false_or_eq_true ((L.getD (IntKind.i64.wrap ((↑k : Int) - (1 : Int))).toNat Con.zero).odd)) (fun d4 => GnG.no ?_)
           (fun d4 => ⟨[true, false, true, false], .inl ⟨(k + 1, [], some [(k : Int)]), [(1 : Nat) = (0 : Nat) + (1 : Nat), (↑L.length : Int) = (↑L.length : Int), IntKind.i64.wrap ((↑k : Int) + (1 : Int)) = (↑(k + (1 : Nat)) : Int), p = p, L.length = L.length ∧ (fun i => (L.getD i Con.zero).rvs) = fun i => (L.getD i Con.zero).rvs, ([] : List (List Int)) = [] ∧ (1 : Nat) = [(↑k : Int)].length, [(↑k : Int)] = [(↑k : Int)], Dec (L.getD (IntKind.i64.wrap ((↑k : Int) - (1 : Int))).toNat Con.zero).odd false, (0 : Int) ≤ IntKind.i64.wrap ((↑k : Int) - (1 : Int)) ∧ IntKind.i64.wrap ((↑k : Int) - (1 : Int)) < (↑L.length : Int), Dec (decide ((↑k : Int) > (0 : Int))) true, Dec (!(L.getD k Con.zero).odd) false, (0 : Int) ≤ (↑k : Int) ∧ (↑k : Int) < (↑L.length : Int), Dec (decide ((↑k : Int) < (↑L.length : Int))) true], by kernel_rfl, ⟨?_, ?_, ?_, ?_, ?_, ?_, ?_, d4, ?_, d3, (dN d2), ?_, d1⟩, MuG.out ?_, InG.out ?_⟩⟩))
           (fun d3 => ⟨[true, false, false], .inl ⟨(k + 1, [], some [(k : Int)]), [(1 : Nat) = (0 : Nat) + (1 : Nat), (↑L.length : Int) = (↑L.length : Int), IntKind.i64.wrap ((↑k : Int) + (1 : Int)) = (↑(k + (1 : Nat)) : Int), p = p, L.length = L.length ∧ (fun i => (L.getD i Con.zero).rvs) = fun i => (L.getD i Con.zero).rvs, ([] : List (List Int)) = [] ∧ (1 : Nat) = [(↑k : Int)].length, [(↑k : Int)] = [(↑k : Int)], Dec (decide ((↑k : Int) > (0 : Int))) false, Dec (!(L.getD k Con.zero).odd) false, (0 : Int) ≤ (↑k : Int) ∧ (↑k : Int) < (↑L.length : Int), Dec (decide ((↑k : Int) < (↑L.length : Int))) true], by kernel_rfl, ⟨?_, ?_, ?_, ?_, ?_, ?_, ?_, d3, (dN d2), ?_, d1⟩, MuG.out ?_, InG.out ?_⟩⟩))
           (fun d2 => ⟨[true, true], .inl ⟨(k + 1, F, none), [(↑L.length : Int) = (↑L.length : Int), IntKind.i64.wrap ((↑k : Int) + (1 : Int)) = (↑(k + (1 : Nat)) : Int), p = p, L.length = L.length ∧ (fun i => (L.getD i Con.zero).rvs) = fun i => (L.getD i Con.zero).rvs, Dec (!(L.getD k Con.zero).odd) true, (0 : Int) ≤ (↑k : Int) ∧ (↑k : Int) < (↑L.length : Int), Dec (decide ((↑k : Int) < (↑L.length : Int))) true], by kernel_rfl, ⟨?_, ?_, ?_, ?_, (dN d2), ?_, d1⟩, MuG.out ?_, InG.out ?_⟩⟩))
           (fun d1 => ⟨[false], .inr ⟨[Dec (decide ((↑k : Int) < (↑L.length : Int))) false], by kernel_rfl, d1, rfl⟩⟩)
        all_goals first | (refine MuG.mk ?_; (simp only [decide_eq_true_eq, decide_eq_false_iff_not] at *; show L.length - (k + 1) < L.length - k; omega)) | (refine InG.mk ?_; (simp only [em, et, ew, decide_eq_true_eq, decide_eq_false_iff_not, gt_iff_lt, beq_iff_eq, beq_eq_false_iff_ne, ne_eq] at *; first | exact ⟨partsI_no hI (by omega) d2, hD⟩ | exact ⟨partsI_one hI (by omega) d2, hD⟩ | exact ⟨partsI_app hI (by omega) d2 (joinB_t' (by omega) d4 d5), hD⟩ | exact ⟨partsI_new hI (by omega) d2 (joinB_1 (by omega)), hD⟩ | exact ⟨partsI_new hI (by omega) d2 (joinB_2 d4), hD⟩ | exact ⟨partsI_new hI (by omega) d2 (joinB_3' d5), hD⟩)) | (refine CtG.mk ?_; (simp only [decide_eq_false_iff_not] at *; have h0 := partsI_end hI (by omega); rw [h0] at hD; cases hD)) | (refine GnG.mk ?_; (have h0 := ((partsI_ok hI).none rfl).2 (k - 1) (by simp only [decide_eq_true_eq] at d3; show k - 1 < k; omega); simp only [em, et] at d4; exact Bool.noConfusion ((show false = _ from h0.symm).trans d4))) | (first | rfl | exact ⟨rfl, rfl⟩ | ((try simp only [em, ek, et, eF, ew, Int.toNat_natCast, decide_eq_true_eq, decide_eq_false_iff_not, gt_iff_lt, View.num] at *) <;> first | omega | exact ⟨rfl, rfl⟩ | (have := (hG.rows l (by simp [allA])).2.2; exact ⟨by trivial, by omega⟩) | (rw [(partsI_fin hI (by omega)).1]; done) | (rw [(partsI_fin hI (by omega)).2]; done) | (rw [(partsI_fin hI (by omega)).1, (partsI_fin hI (by omega)).2]; exact ⟨rfl, rfl⟩) | (simp; done)))
      · -- 2
        refine Or.elim (Bool.eq_false_or_eq_true (decide ((↑k : Int) < (↑L.length : Int)))) (fun d1 => Or.elim (Bool.eq_false_or_eq_true ((L.getD k Con.zero).odd)) (fun d2 => Or.elim (Bool.eq_false_or_eq_true (decide ((↑k : Int) > (0 : Int)))) (fun d3 => Or.elim (Bool.eq_false_or_eq_true ((L.getD (IntKind.i64.wrap ((↑k : Int) - (1 : Int))).toNat Con.zero).odd)) (fun d4 => Or.elim (Bool.eq_false_or_eq_true ((L.getD k Con.zero).exp == IntKind.i64.wrap ((L.getD (IntKind.i64.wrap ((↑k : Int) - (1 : Int))).toNat Con.zero).exp + (1 : Int)))) (fun d5 => ⟨[true, false, true, true, true], .inl ⟨(k + 1, F, some (l ++ [(k : Int)])), [F.length + (1 : Nat) = F.length + (1 : Nat), (↑L.length : Int) = (↑L.length : Int), IntKind.i64.wrap ((↑k : Int) + (1 : Int)) = (↑(k + (1 : Nat)) : Int), p = p, L.length = L.length ∧ (fun i => (L.getD i Con.zero).rvs) = fun i => (L.getD i Con.zero).rvs, F = F ∧ l.length + (1 : Nat) = (l ++ [(↑k : Int)]).length, l ++ [(↑k : Int)] = l ++ [(↑k : Int)], (IntKind.i64.wrap ((↑(F.length + (1 : Nat)) : Int) - (1 : Int))).toNat = F.length, (0 : Int) ≤ IntKind.i64.wrap ((↑(F.length + (1 : Nat)) : Int) - (1 : Int)) ∧ IntKind.i64.wrap ((↑(F.length + (1 : Nat)) : Int) - (1 : Int)) < (↑(F.length + (1 : Nat)) : Int), (View.ints IntKind.i64 l).num = l.length ∧ l.length + (1 : Nat) ≤ (1000000 : Nat), (IntKind.i64.wrap ((↑(F.length + (1 : Nat)) : Int) - (1 : Int))).toNat = F.length, (0 : Int) ≤ IntKind.i64.wrap ((↑(F.length + (1 : Nat)) : Int) - (1 : Int)) ∧ IntKind.i64.wrap ((↑(F.length + (1 : Nat)) : Int) - (1 : Int)) < (↑(F.length + (1 : Nat)) : Int), Dec ((L.getD k Con.zero).exp == IntKind.i64.wrap ((L.getD (IntKind.i64.wrap ((↑k : Int) - (1 : Int))).toNat Con.zero).exp + (1 : Int))) true, (0 : Int) ≤ IntKind.i64.wrap ((↑k : Int) - (1 : Int)) ∧ IntKind.i64.wrap ((↑k : Int) - (1 : Int)) < (↑L.length : Int), (0 : Int) ≤ (↑k : Int) ∧ (↑k : Int) < (↑L.length : Int), Dec (L.getD (IntKind.i64.wrap ((↑k : Int) - (1 : Int))).toNat Con.zero).odd true, (0 : Int) ≤ IntKind.i64.wrap ((↑k : Int) - (1 : Int)) ∧ IntKind.i64.wrap ((↑k : Int) - (1 : Int)) < (↑L.length : Int), Dec (decide ((↑k : Int) > (0 : Int))) true, Dec (!(L.getD k Con.zero).odd) false, (0 : Int) ≤ (↑k : Int) ∧ (↑k : Int) < (↑L.length : Int), Dec (decide ((↑k : Int) < (↑L.length : Int))) true], by kernel_rfl, ⟨?_, ?_, ?_, ?_, ?_, ?_, ?_, ?_, ?_, ?_, ?_, ?_, d5, ?_, ?_, d4, ?_, d3, (dN d2), ?_, d1⟩, MuG.out ?_, InG.out ?_⟩⟩)
           (fun d5 => ⟨[true, false, true, true, false], .inl ⟨(k + 1, F ++ [l], some [(k : Int)]), [F.length + (1 : Nat) + (1 : Nat) = (F ++ [l]).length + (1 : Nat), (↑L.length : Int) = (↑L.length : Int), IntKind.i64.wrap ((↑k : Int) + (1 : Int)) = (↑(k + (1 : Nat)) : Int), p = p, L.length = L.length ∧ (fun i => (L.getD i Con.zero).rvs) = fun i => (L.getD i Con.zero).rvs, F ++ [l] = F ++ [l] ∧ (1 : Nat) = [(↑k : Int)].length, [(↑k : Int)] = [(↑k : Int)], F.length + (1 : Nat) + (1 : Nat) ≤ (1000000 : Nat), F.length + (1 : Nat) = F.length + (1 : Nat) ∧ l.length = l.length, Dec ((L.getD k Con.zero).exp == IntKind.i64.wrap ((L.getD (IntKind.i64.wrap ((↑k : Int) - (1 : Int))).toNat Con.zero).exp + (1 : Int))) false, (0 : Int) ≤ IntKind.i64.wrap ((↑k : Int) - (1 : Int)) ∧ IntKind.i64.wrap ((↑k : Int) - (1 : Int)) < (↑L.length : Int), (0 : Int) ≤ (↑k : Int) ∧ (↑k : Int) < (↑L.length : Int), Dec (L.getD (IntKind.i64.wrap ((↑k : Int) - (1 : Int))).toNat Con.zero).odd true, (0 : Int) ≤ IntKind.i64.wrap ((↑k : Int) - (1 : Int)) ∧ IntKind.i64.wrap ((↑k : Int) - (1 : Int)) < (↑L.length : Int), Dec (decide ((↑k : Int) > (0 : Int))) true, Dec (!(L.getD k Con.zero).odd) false, (0 : Int) ≤ (↑k : Int) ∧ (↑k : Int) < (↑L.length : Int), Dec (decide ((↑k : Int) < (↑L.length : Int))) true], by kernel_rfl, ⟨?_, ?_, ?_, ?_, ?_, ?_, ?_, ?_, ?_, d5, ?_, ?_, d4, ?_, d3, (dN d2), ?_, d1⟩, MuG.out ?_, InG.out ?_⟩⟩))
           (fun d4 => ⟨[true, false, true, false], .inl ⟨(k + 1, F ++ [l], some [(k : Int)]), [F.length + (1 : Nat) + (1 : Nat) = (F ++ [l]).length + (1 : Nat), (↑L.length : Int) = (↑L.length : Int), IntKind.i64.wrap ((↑k : Int) + (1 : Int)) = (↑(k + (1 : Nat)) : Int), p = p, L.length = L.length ∧ (fun i => (L.getD i Con.zero).rvs) = fun i => (L.getD i Con.zero).rvs, F ++ [l] = F ++ [l] ∧ (1 : Nat) = [(↑k : Int)].length, [(↑k : Int)] = [(↑k : Int)], F.length + (1 : Nat) + (1 : Nat) ≤ (1000000 : Nat), F.length + (1 : Nat) = F.length + (1 : Nat) ∧ l.length = l.length, Dec (L.getD (IntKind.i64.wrap ((↑k : Int) - (1 : Int))).toNat Con.zero).odd false, (0 : Int) ≤ IntKind.i64.wrap ((↑k : Int) - (1 : Int)) ∧ IntKind.i64.wrap ((↑k : Int) - (1 : Int)) < (↑L.length : Int), Dec (decide ((↑k : Int) > (0 : Int))) true, Dec (!(L.getD k Con.zero).odd) false, (0 : Int) ≤ (↑k : Int) ∧ (↑k : Int) < (↑L.length : Int), Dec (decide ((↑k : Int) < (↑L.length : Int))) true], by kernel_rfl, ⟨?_, ?_, ?_, ?_, ?_, ?_, ?_, ?_, ?_, d4, ?_, d3, (dN d2), ?_, d1⟩, MuG.out ?_, InG.out ?_⟩⟩))
           (fun d3 => ⟨[true, false, false], .inl ⟨(k + 1, F ++ [l], some [(k : Int)]), [F.length + (1 : Nat) + (1 : Nat) = (F ++ [l]).length + (1 : Nat), (↑L.length : Int) = (↑L.length : Int), IntKind.i64.wrap ((↑k : Int) + (1 : Int)) = (↑(k + (1 : Nat)) : Int), p = p, L.length = L.length ∧ (fun i => (L.getD i Con.zero).rvs) = fun i => (L.getD i Con.zero).rvs, F ++ [l] = F ++ [l] ∧ (1 : Nat) = [(↑k : Int)].length, [(↑k : Int)] = [(↑k : Int)], F.length + (1 : Nat) + (1 : Nat) ≤ (1000000 : Nat), F.length + (1 : Nat) = F.length + (1 : Nat) ∧ l.length = l.length, Dec (decide ((↑k : Int) > (0 : Int))) false, Dec (!(L.getD k Con.zero).odd) false, (0 : Int) ≤ (↑k : Int) ∧ (↑k : Int) < (↑L.length : Int), Dec (decide ((↑k : Int) < (↑L.length : Int))) true], by kernel_rfl, ⟨?_, ?_, ?_, ?_, ?_, ?_, ?_, ?_, ?_, d3, (dN d2), ?_, d1⟩, MuG.out ?_, InG.out ?_⟩⟩))
           (fun d2 => ⟨[true, true], .inl ⟨(k + 1, F, some l), [F.length + (1 : Nat) = F.length + (1 : Nat), (↑L.length : Int) = (↑L.length : Int), IntKind.i64.wrap ((↑k : Int) + (1 : Int)) = (↑(k + (1 : Nat)) : Int), p = p, L.length = L.length ∧ (fun i => (L.getD i Con.zero).rvs) = fun i => (L.getD i Con.zero).rvs, F = F ∧ l.length = l.length, l = l, Dec (!(L.getD k Con.zero).odd) true, (0 : Int) ≤ (↑k : Int) ∧ (↑k : Int) < (↑L.length : Int), Dec (decide ((↑k : Int) < (↑L.length : Int))) true], by kernel_rfl, ⟨?_, ?_, ?_, ?_, ?_, ?_, ?_, (dN d2), ?_, d1⟩, MuG.out ?_, InG.out ?_⟩⟩))
           (fun d1 => CtG.no ?_)
        all_goals first | (refine MuG.mk ?_; (simp only [decide_eq_true_eq, decide_eq_false_iff_not] at *; show L.length - (k + 1) < L.length - k; omega)) | (refine InG.mk ?_; (simp only [em, et, ew, decide_eq_true_eq, decide_eq_false_iff_not, gt_iff_lt, beq_iff_eq, beq_eq_false_iff_ne, ne_eq] at *; first | exact ⟨partsI_no hI (by omega) d2, hD⟩ | exact ⟨partsI_one hI (by omega) d2, hD⟩ | exact ⟨partsI_app hI (by omega) d2 (joinB_t' (by omega) d4 d5), hD⟩ | exact ⟨partsI_new hI (by omega) d2 (joinB_1 (by omega)), hD⟩ | exact ⟨partsI_new hI (by omega) d2 (joinB_2 d4), hD⟩ | exact ⟨partsI_new hI (by omega) d2 (joinB_3' d5), hD⟩)) | (refine CtG.mk ?_; (simp only [decide_eq_false_iff_not] at *; have h0 := partsI_end hI (by omega); rw [h0] at hD; cases hD)) | (refine GnG.mk ?_; (have h0 := ((partsI_ok hI).none rfl).2 (k - 1) (by simp only [decide_eq_true_eq] at d3; show k - 1 < k; omega); simp only [em, et] at d4; exact Bool.noConfusion ((show false = _ from h0.symm).trans d4))) | (first | rfl | exact ⟨rfl, rfl⟩ | ((try simp only [em, ek, et, eF, ew, Int.toNat_natCast, decide_eq_true_eq, decide_eq_false_iff_not, gt_iff_lt, View.num] at *) <;> first | omega | exact ⟨rfl, rfl⟩ | (have := (hG.rows l (by simp [allA])).2.2; exact ⟨by trivial, by omega⟩) | (rw [(partsI_fin hI (by omega)).1]; done) | (rw [(partsI_fin hI (by omega)).2]; done) | (rw [(partsI_fin hI (by omega)).1, (partsI_fin hI (by omega)).2]; exact ⟨rfl, rfl⟩) | (simp; done)))
noncomputable def orcCo (p : Int) (L : List Con) : CallF := orcB EV (callF EV noOrc 4) 45 2 [([0, 1, 0, 1, 1], coAnn p L)] noOrc
theorem orcCo_ok (p : Int) (L : List Con) (hL : okE L) : CallOk Tryz.prog EV.ng (orcCo p L) := orcB_ok evOk (callF_ok evOk (noOrc_ok _ _) 4) Tryz.func45 (one_ann (co_loop p L hL)) (noOrc_ok _ _)
set_option maxRecDepth 100000 in
theorem comps_pure (p : Int) (L : List Con) (hL : okE L) : PureC Tryz.prog [] 31 [.agg [.int .i64 p, roC L]] (roR .i64 (partsM L)) := by
  have rr := fun (tp : List Bool) (ms : List Prop) h hm => pure_run evOk (callF_ok evOk (orcCo_ok p L hL) 4) Tryz.func31 (A := [.agg [.int .i64 p, roC L]]) rfl none_ann rfl rfl evNg (tabs := []) (R := roR .i64 (partsM L)) (tp := tp) (ms := ms) h hm
  refine Or.elim (Bool.eq_false_or_eq_true ((partsA L L.length).snd.isNone)) (fun d1 => rr [true] [(partsM L).length = (0 : Nat), (↑L.length : Int) = (↑L.length : Int), p = p, L.length = L.length ∧ (fun i => (L.getD i Con.zero).rvs) = fun i => (L.getD i Con.zero).rvs, Dec (partsA L L.length).snd.isNone true] (by kernel_rfl) ⟨?_, ?_, ?_, ?_, d1⟩)
           (fun d1 => rr [false] [(partsFin L).length + (1 : Nat) = (partsM L).length ∧ (partsFin L).length + (1 : Nat) = (partsFin L).length + (1 : Nat) ∧ (partsLst L).length = (partsLst L).length ∧ ∀ (i : Nat), i < (partsFin L).length + (1 : Nat) → (fun i => [rI IntKind.i64 ((partsM L).getD i [])]) i = [rI IntKind.i64 ((partsFin L ++ [partsLst L]).getD i [])], (↑L.length : Int) = (↑L.length : Int), p = p, L.length = L.length ∧ (fun i => (L.getD i Con.zero).rvs) = fun i => (L.getD i Con.zero).rvs, Dec (partsA L L.length).snd.isNone false] (by kernel_rfl) ⟨?_, ?_, ?_, ?_, d1⟩)
  all_goals first | (first | rfl | exact ⟨rfl, rfl⟩ | (rw [parts_nil d1]; rfl) | (rw [parts_cons d1]; exact ⟨by simp, rfl, rfl, fun i _ => rfl⟩))
end Go.Proofs.YtkkmlbhmcdoibaaGreatDoor.S

namespace Go.Proofs.YtkkmlbhmcdoibaaGreatDoor.S
open Go.QfSy Go.RowKit
def idxN (a : Int) : List Int → Nat
  | [] => 0
  | x :: l => bif x == a then 0 else idxN a l + 1
def idxI (a : Int) (l : List Int) : Int := bif hasI a l then (idxN a l : Int) else -1
theorem idxN_drop {a : Int} {l : List Int} {t : Nat} (ht : t < l.length) : idxN a (l.drop t) = (bif l.getD t 0 == a then 0 else idxN a (l.drop (t + 1)) + 1) := by
  rw [drop_int ht]; rfl
noncomputable def ixAnn (l : List Int) (a : Int) : Ann := ⟨⟨[(0, (rI .i64 l).av), (1, .vint .i64 a), (7, .vint .i64 l.length), (8, .int .i64 0)], [], 1000⟩, some (hasI a l), fun d => match d with
  | true => (.ret, ⟨[(4, .vint .i64 (idxN a l : Int))], [], 1000⟩)
  | false => (.exit 0, ⟨[], [], 1000⟩)⟩
set_option maxRecDepth 100000 in
theorem ix_loop (l : List Int) (a : Int) (hn : l.length ≤ 1000) : AnnOk Tryz.prog EV.ng (Nat.max 2 Tryz.f56.ntmps) (bodyAt Tryz.f56 [0, 1, 0, 1]) (ixAnn l a) := by
  refine ann_of evOk (callF_ok evOk (noOrc_ok _ _) 8) none_ann (by kernel_rfl) (by kernel_rfl) (fun i : Nat => (fun (t : Nat) => (⟨[(0, (rI .i64 l).av), (1, .vint .i64 a), (7, .vint .i64 l.length), (8, .vint .i64 (t : Int))], [], 1000⟩ : St)) i) (fun i : Nat => (fun (t : Nat) => (l.length - t : Nat)) i) (fun (d : Bool) (i : Nat) => (fun (t : Nat) => (t ≤ l.length ∧ hasI a (l.drop t) = d ∧ t + idxN a (l.drop t) = idxN a l : Prop)) i) ?_ ?_
  · intro d hd
    exact ⟨(0), [l.length = l.length ∧ (fun j => [RV.int IntKind.i64 (l.getD j (0 : Int))]) = fun j => [RV.int IntKind.i64 (l.getD j (0 : Int))], a = a, (↑l.length : Int) = (↑l.length : Int), (0 : Int) = (↑(0 : Nat) : Int)], by kernel_rfl, (by refine ⟨?_, ?_, ?_, (?_ : (0 : Int) = (↑(0 : Nat) : Int))⟩ <;> (first | rfl | assumption | omega | simp_all)), (by exact ⟨Nat.zero_le _, hd, Nat.zero_add _⟩)⟩
  · rintro d hd t hI
    cases d
    · -- d = false
      obtain ⟨ht, hs, hx⟩ := hI
      have ek : IntKind.i64.wrap ((t : Int) + 1) = ((t + 1 : Nat) : Int) := by rw [w64 (by omega) (by omega)]; omega
      refine Or.elim (Bool.eq_false_or_eq_true (decide ((↑t : Int) < (↑l.length : Int)))) (fun d1 => Or.elim (Bool.eq_false_or_eq_true (a == l.getD t (0 : Int))) (fun d2 => CtG.no ?_)
           (fun d2 => ⟨[true, false], .inl ⟨(t + 1), [l.length = l.length ∧ (fun j => [RV.int IntKind.i64 (l.getD j (0 : Int))]) = fun j => [RV.int IntKind.i64 (l.getD j (0 : Int))], a = a, (↑l.length : Int) = (↑l.length : Int), IntKind.i64.wrap ((↑t : Int) + (1 : Int)) = (↑(t + (1 : Nat)) : Int), Dec (a == l.getD t (0 : Int)) false, (0 : Int) ≤ (↑t : Int) ∧ (↑t : Int) < (↑l.length : Int), Dec (decide ((↑t : Int) < (↑l.length : Int))) true], by kernel_rfl, ⟨?_, ?_, ?_, ?_, d2, ?_, d1⟩, MuG.out ?_, InG.out ?_⟩⟩))
           (fun d1 => ⟨[false], .inr ⟨[Dec (decide ((↑t : Int) < (↑l.length : Int))) false], by kernel_rfl, d1, rfl⟩⟩)
      all_goals first | (refine MuG.mk ?_; (simp only [decide_eq_true_eq] at *; show l.length - (t + 1) < l.length - t; omega)) | (refine InG.mk ?_; (simp only [decide_eq_true_eq, Int.toNat_natCast] at *; have d3 : (l.getD t 0 == a) = false := (by rw [beq_eq_false_iff_ne] at d2 ⊢; exact fun h => d2 h.symm); rw [hasI_drop (by omega), d3] at hs; rw [idxN_drop (by omega), d3] at hx; simp only [cond_false] at hx; exact ⟨by omega, hs, by omega⟩)) | (refine CtG.mk ?_; (simp only [decide_eq_true_eq, decide_eq_false_iff_not, Int.toNat_natCast] at *; first | (rw [List.drop_eq_nil_of_le (by omega)] at hs; cases hs; done) | (rw [beq_iff_eq] at d2; rw [hasI_drop (by omega), ← d2, beq_self_eq_true] at hs; cases hs; done))) | (first | (with_reducible rfl) | exact ⟨rfl, rfl⟩ | ((try simp only [ek, Int.toNat_natCast, decide_eq_true_eq, decide_eq_false_iff_not, beq_iff_eq] at *) <;> first | omega | (rw [idxN_drop (by omega), d2.symm, beq_self_eq_true] at hx; simp only [cond_true] at hx; omega) | exact ⟨rfl, rfl⟩))
    · -- d = true
      obtain ⟨ht, hs, hx⟩ := hI
      have ek : IntKind.i64.wrap ((t : Int) + 1) = ((t + 1 : Nat) : Int) := by rw [w64 (by omega) (by omega)]; omega
      refine Or.elim (Bool.eq_false_or_eq_true (decide ((↑t : Int) < (↑l.length : Int)))) (fun d1 => Or.elim (Bool.eq_false_or_eq_true (a == l.getD t (0 : Int))) (fun d2 => ⟨[true, true], .inr ⟨[(↑t : Int) = (↑(idxN a l) : Int), Dec (a == l.getD t (0 : Int)) true, (0 : Int) ≤ (↑t : Int) ∧ (↑t : Int) < (↑l.length : Int), Dec (decide ((↑t : Int) < (↑l.length : Int))) true], by kernel_rfl, ⟨?_, d2, ?_, d1⟩, rfl⟩⟩)
           (fun d2 => ⟨[true, false], .inl ⟨(t + 1), [l.length = l.length ∧ (fun j => [RV.int IntKind.i64 (l.getD j (0 : Int))]) = fun j => [RV.int IntKind.i64 (l.getD j (0 : Int))], a = a, (↑l.length : Int) = (↑l.length : Int), IntKind.i64.wrap ((↑t : Int) + (1 : Int)) = (↑(t + (1 : Nat)) : Int), Dec (a == l.getD t (0 : Int)) false, (0 : Int) ≤ (↑t : Int) ∧ (↑t : Int) < (↑l.length : Int), Dec (decide ((↑t : Int) < (↑l.length : Int))) true], by kernel_rfl, ⟨?_, ?_, ?_, ?_, d2, ?_, d1⟩, MuG.out ?_, InG.out ?_⟩⟩))
           (fun d1 => CtG.no ?_)
      all_goals first | (refine MuG.mk ?_; (simp only [decide_eq_true_eq] at *; show l.length - (t + 1) < l.length - t; omega)) | (refine InG.mk ?_; (simp only [decide_eq_true_eq, Int.toNat_natCast] at *; have d3 : (l.getD t 0 == a) = false := (by rw [beq_eq_false_iff_ne] at d2 ⊢; exact fun h => d2 h.symm); rw [hasI_drop (by omega), d3] at hs; rw [idxN_drop (by omega), d3] at hx; simp only [cond_false] at hx; exact ⟨by omega, hs, by omega⟩)) | (refine CtG.mk ?_; (simp only [decide_eq_true_eq, decide_eq_false_iff_not, Int.toNat_natCast] at *; first | (rw [List.drop_eq_nil_of_le (by omega)] at hs; cases hs; done) | (rw [beq_iff_eq] at d2; rw [hasI_drop (by omega), ← d2, beq_self_eq_true] at hs; cases hs; done))) | (first | (with_reducible rfl) | exact ⟨rfl, rfl⟩ | ((try simp only [ek, Int.toNat_natCast, decide_eq_true_eq, decide_eq_false_iff_not, beq_iff_eq] at *) <;> first | omega | (rw [idxN_drop (by omega), d2.symm, beq_self_eq_true] at hx; simp only [cond_true] at hx; omega) | exact ⟨rfl, rfl⟩))
set_option maxRecDepth 100000 in
theorem index_pure (l : List Int) (a : Int) (hn : l.length ≤ 1000) : PureC Tryz.prog [] 56 [rI .i64 l, .int .i64 a] (.int .i64 (idxI a l)) := by
  have rr := fun (tp : List Bool) (ms : List Prop) h hm => pure_run evOk (callF_ok evOk (noOrc_ok _ _) 8) Tryz.func56 (A := [rI .i64 l, .int .i64 a]) (N := Nat.max 1 Tryz.f56.ntmps) rfl (one_ann (ix_loop l a hn)) rfl rfl evNg (tabs := []) (R := .int .i64 (idxI a l)) (tp := tp) (ms := ms) h hm
  refine Or.elim (Bool.eq_false_or_eq_true (hasI a l)) (fun d1 => rr [true] [(↑(idxN a l) : Int) = idxI a l, l.length = l.length ∧ (fun j => [RV.int IntKind.i64 (l.getD j (0 : Int))]) = fun j => [RV.int IntKind.i64 (l.getD j (0 : Int))], a = a, (↑l.length : Int) = (↑l.length : Int), Dec (hasI a l) true] (by kernel_rfl) ⟨?_, ?_, ?_, ?_, d1⟩)
           (fun d1 => rr [false] [(-1 : Int) = idxI a l, l.length = l.length ∧ (fun j => [RV.int IntKind.i64 (l.getD j (0 : Int))]) = fun j => [RV.int IntKind.i64 (l.getD j (0 : Int))], a = a, (↑l.length : Int) = (↑l.length : Int), Dec (hasI a l) false] (by kernel_rfl) ⟨?_, ?_, ?_, ?_, d1⟩)
  all_goals first | (first | (with_reducible rfl) | exact ⟨rfl, rfl⟩ | (unfold idxI; rw [d1]; rfl))
noncomputable def entsVI : List OEnt := [
  ⟨56, [], fun A => match A with
    | [.sl m 1 row', .int .i64 a] => some (.int .i64 (idxI a (intsR m row')), [(∀ i, i < m → row' i = [.int .i64 (intR (row' i))]) ∧ m ≤ 1000])
    | _ => none⟩]
theorem entsVI_ok : ∀ e ∈ entsVI, EntOk Tryz.prog e := by
  intro e he
  simp only [entsVI, List.mem_cons, List.not_mem_nil, or_false] at he
  rcases he with rfl
  intro A R ms h hm
  simp only at h
  split at h
  all_goals first | (cases h; done) | cases h
  obtain ⟨h1, h2⟩ := all_one hm
  exact PureC.imp (index_pure _ _ (by rw [intsR_len]; exact h2)) (.cons (.ints h1) (.cons .same .nil))
theorem idx_ge (a : Int) (l : List Int) : decide (idxI a l ≥ 0) = hasI a l := by
  unfold idxI
  cases hasI a l
  · rfl
  · simp only [cond_true, decide_eq_true_eq]; omega
set_option maxRecDepth 100000 in
theorem contains_pure (l : List Int) (a : Int) (hn : l.length ≤ 1000) : PureC Tryz.prog [] 44 [rI .i64 l, .int .i64 a] (.bool (hasI a l)) := by
  have rr := fun (tp : List Bool) (ms : List Prop) h hm => pure_run evOk (callF_ok evOk (orcOf_ok entsVI_ok) 8) Tryz.func44 (A := [rI .i64 l, .int .i64 a]) rfl none_ann rfl rfl evNg (tabs := []) (R := .bool (hasI a l)) (tp := tp) (ms := ms) h hm
  refine rr [] [decide (idxI a (intsR l.length fun j => [RV.int IntKind.i64 (l.getD j (0 : Int))]) ≥ (0 : Int)) = hasI a l, (∀ (i : Nat), i < l.length → (fun j => [RV.int IntKind.i64 (l.getD j (0 : Int))]) i = [RV.int IntKind.i64 (intR ((fun j => [RV.int IntKind.i64 (l.getD j (0 : Int))]) i))]) ∧ l.length ≤ (1000 : Nat)] (by kernel_rfl) ⟨?_, (?_ : (∀ (i : Nat), i < l.length → (fun j => [RV.int IntKind.i64 (l.getD j (0 : Int))]) i = [RV.int IntKind.i64 (intR ((fun j => [RV.int IntKind.i64 (l.getD j (0 : Int))]) i))]) ∧ l.length ≤ (1000 : Nat))⟩
  all_goals first | (first | (with_reducible rfl) | exact ⟨fun _ _ => rfl, hn⟩ | (rw [intsR_ro]; exact idx_ge a l))
noncomputable def entsVC : List OEnt := [
  ⟨44, [], fun A => match A with
    | [.sl m 1 row', .int .i64 a] => some (.bool (hasI a (intsR m row')), [(∀ i, i < m → row' i = [.int .i64 (intR (row' i))]) ∧ m ≤ 1000])
    | _ => none⟩,
  ⟨31, [], fun A => match A with
    | [.agg [.int .i64 p, .sl n 5 row]] => some (roR .i64 (partsM (consR n row)), [(∀ i, i < n → row i = (Con.ofR (row i)).rvs) ∧ okE (consR n row)])
    | _ => none⟩]
theorem entsVC_ok : ∀ e ∈ entsVC, EntOk Tryz.prog e := by
  intro e he
  simp only [entsVC, List.mem_cons, List.not_mem_nil, or_false] at he
  rcases he with rfl | rfl
  all_goals
    intro A R ms h hm
    simp only at h
    split at h
    all_goals first | (cases h; done) | cases h
  · obtain ⟨h1, h2⟩ := all_one hm
    exact PureC.imp (contains_pure _ _ (by rw [intsR_len]; exact h2)) (.cons (.ints h1) (.cons .same .nil))
  · obtain ⟨h1, h2⟩ := all_one hm
    exact PureC.imp (comps_pure _ _ h2) (.cons (.agg (.cons .same (.cons (.con h1) .nil))) .nil)
end Go.Proofs.YtkkmlbhmcdoibaaGreatDoor.S

namespace Go.Proofs.YtkkmlbhmcdoibaaGreatDoor.S
open Go.QfSy Go.RowKit
theorem sh_drop {L : List Con} {k : Nat} (hk : k < L.length) (l s : Int) : shL (L.drop k) l s = (shO (at_ L k) l s && shL (L.drop (k + 1)) (at_ L k).exp (s + (at_ L k).dim)) := by
  rw [drop_at hk]; rfl
noncomputable def shAnn (L : List Con) : Ann := ⟨⟨[(3, .int .i64 0), (4, .int .i64 (-1)), (17, (roC L).av), (18, .vint .i64 L.length), (19, .int .i64 0)], [], 1001⟩, some (shL L (-1) 0), fun d => match d with
  | true => (.exit 0, ⟨[], [], 1001⟩)
  | false => (.ret, ⟨[(2, .bool false)], [], 1001⟩)⟩
set_option maxRecDepth 100000 in
theorem sh_loop (L : List Con) (hn : L.length ≤ 1000) : AnnOk Tryz.prog EV.ng (Nat.max 1 Tryz.f36.ntmps) (bodyAt Tryz.f36 [0, 1, 0, 1, 1, 1]) (shAnn L) := by
  refine ann_of evOk (callF_ok evOk (noOrc_ok _ _) 8) none_ann (by kernel_rfl) (by kernel_rfl) (fun i : Nat × Int × Int => (fun (k : Nat) (s e : Int) => (⟨[(3, .vint .i64 s), (4, .vint .i64 e), (17, (roC L).av), (18, .vint .i64 L.length), (19, .vint .i64 (k : Int))], [], 1001⟩ : St)) i.1 i.2.1 i.2.2) (fun i : Nat × Int × Int => (fun (k : Nat) (s e : Int) => (L.length - k : Nat)) i.1 i.2.1 i.2.2) (fun (d : Bool) (i : Nat × Int × Int) => (fun (k : Nat) (s e : Int) => (k ≤ L.length ∧ (0 ≤ s ∧ s ≤ 8) ∧ shL (L.drop k) e s = d : Prop)) i.1 i.2.1 i.2.2) ?_ ?_
  · intro d hd
    exact ⟨(0, 0, -1), [(0 : Int) = (0 : Int), (-1 : Int) = (-1 : Int), L.length = L.length ∧ (fun i => (L.getD i Con.zero).rvs) = fun i => (L.getD i Con.zero).rvs, (↑L.length : Int) = (↑L.length : Int), (0 : Int) = (↑(0 : Nat) : Int)], by kernel_rfl, (by refine ⟨?_, ?_, ?_, ?_, (?_ : (0 : Int) = (↑(0 : Nat) : Int))⟩ <;> (first | rfl | assumption | omega | simp_all)), (by exact ⟨Nat.zero_le _, by decide, hd⟩)⟩
  · rintro d hd ⟨k, s, e⟩ hI
    cases d
    · -- d = false
      obtain ⟨hk, hs, hd'⟩ := hI
      have hs : 0 ≤ s ∧ s ≤ 8 := hs
      have hd' : shL (L.drop k) e s = _ := hd'
      have hk : k ≤ L.length := hk
      have ek : IntKind.i64.wrap ((k : Int) + 1) = ((k + 1 : Nat) : Int) := by rw [w64 (by omega) (by omega)]; omega
      have e8 : IntKind.i64.wrap (8 - s) = 8 - s := w64 (by omega) (by omega)
      refine Or.elim (Bool.eq_false_or_eq_true (decide ((↑k : Int) < (↑L.length : Int)))) (fun d1 => Or.elim (Bool.eq_false_or_eq_true (decide ((L.getD k Con.zero).exp ≤ e))) (fun d2 => ⟨[true, true], .inr ⟨[Dec (decide ((L.getD k Con.zero).exp ≤ e)) true, (0 : Int) ≤ (↑k : Int) ∧ (↑k : Int) < (↑L.length : Int), Dec (decide ((↑k : Int) < (↑L.length : Int))) true], by kernel_rfl, ⟨d2, ?_, d1⟩, rfl⟩⟩)
           (fun d2 => Or.elim (Bool.eq_false_or_eq_true (decide ((L.getD k Con.zero).exp > (60 : Int)))) (fun d3 => ⟨[true, false, true], .inr ⟨[Dec (decide ((L.getD k Con.zero).exp > (60 : Int))) true, Dec (decide ((L.getD k Con.zero).exp ≤ e)) false, (0 : Int) ≤ (↑k : Int) ∧ (↑k : Int) < (↑L.length : Int), Dec (decide ((↑k : Int) < (↑L.length : Int))) true], by kernel_rfl, ⟨d3, d2, ?_, d1⟩, rfl⟩⟩)
           (fun d3 => Or.elim (Bool.eq_false_or_eq_true (decide ((L.getD k Con.zero).dim < (1 : Int)))) (fun d4 => ⟨[true, false, false, true], .inr ⟨[Dec (decide ((L.getD k Con.zero).dim < (1 : Int))) true, Dec (decide ((L.getD k Con.zero).exp > (60 : Int))) false, Dec (decide ((L.getD k Con.zero).exp ≤ e)) false, (0 : Int) ≤ (↑k : Int) ∧ (↑k : Int) < (↑L.length : Int), Dec (decide ((↑k : Int) < (↑L.length : Int))) true], by kernel_rfl, ⟨d4, d3, d2, ?_, d1⟩, rfl⟩⟩)
           (fun d4 => Or.elim (Bool.eq_false_or_eq_true (decide ((L.getD k Con.zero).dim > IntKind.i64.wrap ((8 : Int) - s)))) (fun d5 => ⟨[true, false, false, false, true], .inr ⟨[Dec (decide ((L.getD k Con.zero).dim > IntKind.i64.wrap ((8 : Int) - s))) true, Dec (decide ((L.getD k Con.zero).dim < (1 : Int))) false, Dec (decide ((L.getD k Con.zero).exp > (60 : Int))) false, Dec (decide ((L.getD k Con.zero).exp ≤ e)) false, (0 : Int) ≤ (↑k : Int) ∧ (↑k : Int) < (↑L.length : Int), Dec (decide ((↑k : Int) < (↑L.length : Int))) true], by kernel_rfl, ⟨d5, d4, d3, d2, ?_, d1⟩, rfl⟩⟩)
           (fun d5 => ⟨[true, false, false, false, false], .inl ⟨(k + 1, s + (at_ L k).dim, (at_ L k).exp), [IntKind.i64.wrap (s + (L.getD k Con.zero).dim) = s + (at_ L k).dim, (L.getD k Con.zero).exp = (at_ L k).exp, L.length = L.length ∧ (fun i => (L.getD i Con.zero).rvs) = fun i => (L.getD i Con.zero).rvs, (↑L.length : Int) = (↑L.length : Int), IntKind.i64.wrap ((↑k : Int) + (1 : Int)) = (↑(k + (1 : Nat)) : Int), Dec (decide ((L.getD k Con.zero).dim > IntKind.i64.wrap ((8 : Int) - s))) false, Dec (decide ((L.getD k Con.zero).dim < (1 : Int))) false, Dec (decide ((L.getD k Con.zero).exp > (60 : Int))) false, Dec (decide ((L.getD k Con.zero).exp ≤ e)) false, (0 : Int) ≤ (↑k : Int) ∧ (↑k : Int) < (↑L.length : Int), Dec (decide ((↑k : Int) < (↑L.length : Int))) true], by kernel_rfl, ⟨?_, ?_, ?_, ?_, ?_, d5, d4, d3, d2, ?_, d1⟩, MuG.out ?_, InG.out ?_⟩⟩)))))
           (fun d1 => CtG.no ?_)
      all_goals first | (refine MuG.mk ?_; (simp only [decide_eq_true_eq] at *; show L.length - (k + 1) < L.length - k; omega)) | (refine InG.mk ?_; (simp only [e8, Int.toNat_natCast, decide_eq_true_eq, decide_eq_false_iff_not, gt_iff_lt] at *; rw [sh_drop (by omega), show shO (at_ L k) e s = true from decide_eq_true ⟨by simp only [at_]; omega, by simp only [at_]; omega, by simp only [at_]; omega, by simp only [at_]; omega⟩] at hd'; exact ⟨by omega, by simp only [at_]; omega, hd'⟩)) | (refine CtG.mk ?_; (simp only [e8, Int.toNat_natCast, decide_eq_true_eq, decide_eq_false_iff_not, gt_iff_lt] at *; first | (rw [List.drop_eq_nil_of_le (by omega)] at hd'; cases hd'; done) | (rw [sh_drop (by omega), show shO (at_ L k) e s = false from decide_eq_false (by simp only [at_]; omega)] at hd'; cases hd'; done))) | (first | (with_reducible rfl) | exact ⟨rfl, rfl⟩ | ((try simp only [ek, e8, at_, Int.toNat_natCast, decide_eq_true_eq, decide_eq_false_iff_not, gt_iff_lt] at *) <;> first | omega | (exact w64 (by omega) (by omega))))
    · -- d = true
      obtain ⟨hk, hs, hd'⟩ := hI
      have hs : 0 ≤ s ∧ s ≤ 8 := hs
      have hd' : shL (L.drop k) e s = _ := hd'
      have hk : k ≤ L.length := hk
      have ek : IntKind.i64.wrap ((k : Int) + 1) = ((k + 1 : Nat) : Int) := by rw [w64 (by omega) (by omega)]; omega
      have e8 : IntKind.i64.wrap (8 - s) = 8 - s := w64 (by omega) (by omega)
      refine Or.elim (Bool.eq_false_or_eq_true (decide ((↑k : Int) < (↑L.length : Int)))) (fun d1 => Or.elim (Bool.eq_false_or_eq_true (decide ((L.getD k Con.zero).exp ≤ e))) (fun d2 => CtG.no ?_)
           (fun d2 => Or.elim (Bool.eq_false_or_eq_true (decide ((L.getD k Con.zero).exp > (60 : Int)))) (fun d3 => CtG.no ?_)
           (fun d3 => Or.elim (Bool.eq_false_or_eq_true (decide ((L.getD k Con.zero).dim < (1 : Int)))) (fun d4 => CtG.no ?_)
           (fun d4 => Or.elim (Bool.eq_false_or_eq_true (decide ((L.getD k Con.zero).dim > IntKind.i64.wrap ((8 : Int) - s)))) (fun d5 => CtG.no ?_)
           (fun d5 => ⟨[true, false, false, false, false], .inl ⟨(k + 1, s + (at_ L k).dim, (at_ L k).exp), [IntKind.i64.wrap (s + (L.getD k Con.zero).dim) = s + (at_ L k).dim, (L.getD k Con.zero).exp = (at_ L k).exp, L.length = L.length ∧ (fun i => (L.getD i Con.zero).rvs) = fun i => (L.getD i Con.zero).rvs, (↑L.length : Int) = (↑L.length : Int), IntKind.i64.wrap ((↑k : Int) + (1 : Int)) = (↑(k + (1 : Nat)) : Int), Dec (decide ((L.getD k Con.zero).dim > IntKind.i64.wrap ((8 : Int) - s))) false, Dec (decide ((L.getD k Con.zero).dim < (1 : Int))) false, Dec (decide ((L.getD k Con.zero).exp > (60 : Int))) false, Dec (decide ((L.getD k Con.zero).exp ≤ e)) false, (0 : Int) ≤ (↑k : Int) ∧ (↑k : Int) < (↑L.length : Int), Dec (decide ((↑k : Int) < (↑L.length : Int))) true], by kernel_rfl, ⟨?_, ?_, ?_, ?_, ?_, d5, d4, d3, d2, ?_, d1⟩, MuG.out ?_, InG.out ?_⟩⟩)))))
           (fun d1 => ⟨[false], .inr ⟨[Dec (decide ((↑k : Int) < (↑L.length : Int))) false], by kernel_rfl, d1, rfl⟩⟩)
      all_goals first | (refine MuG.mk ?_; (simp only [decide_eq_true_eq] at *; show L.length - (k + 1) < L.length - k; omega)) | (refine InG.mk ?_; (simp only [e8, Int.toNat_natCast, decide_eq_true_eq, decide_eq_false_iff_not, gt_iff_lt] at *; rw [sh_drop (by omega), show shO (at_ L k) e s = true from decide_eq_true ⟨by simp only [at_]; omega, by simp only [at_]; omega, by simp only [at_]; omega, by simp only [at_]; omega⟩] at hd'; exact ⟨by omega, by simp only [at_]; omega, hd'⟩)) | (refine CtG.mk ?_; (simp only [e8, Int.toNat_natCast, decide_eq_true_eq, decide_eq_false_iff_not, gt_iff_lt] at *; first | (rw [List.drop_eq_nil_of_le (by omega)] at hd'; cases hd'; done) | (rw [sh_drop (by omega), show shO (at_ L k) e s = false from decide_eq_false (by simp only [at_]; omega)] at hd'; cases hd'; done))) | (first | (with_reducible rfl) | exact ⟨rfl, rfl⟩ | ((try simp only [ek, e8, at_, Int.toNat_natCast, decide_eq_true_eq, decide_eq_false_iff_not, gt_iff_lt] at *) <;> first | omega | (exact w64 (by omega) (by omega))))
set_option maxRecDepth 100000 in
theorem sh_pure (p : Int) (L : List Con) (hn : L.length ≤ 1000) : PureC Tryz.prog [] 36 [.agg [.int .i64 p, roC L]] (.bool (shapeM p L)) := by
  have rr := fun (tp : List Bool) (ms : List Prop) h hm => pure_run evOk (callF_ok evOk (noOrc_ok _ _) 8) Tryz.func36 (A := [.agg [.int .i64 p, roC L]]) (N := Nat.max 1 Tryz.f36.ntmps) rfl (one_ann (sh_loop L hn)) rfl rfl evNg (tabs := []) (R := .bool (shapeM p L)) (tp := tp) (ms := ms) h hm
  refine Or.elim (Bool.eq_false_or_eq_true (p == (2 : Int))) (fun d1 => Or.elim (Bool.eq_false_or_eq_true ((↑L.length : Int) == (0 : Int))) (fun d2 => rr [false, true] [false = shapeM p L, Dec ((↑L.length : Int) == (0 : Int)) true, Dec (p != (2 : Int)) false] (by kernel_rfl) ⟨?_, d2, (dN d1)⟩)
           (fun d2 => Or.elim (Bool.eq_false_or_eq_true (shL L (-1 : Int) (0 : Int))) (fun d3 => rr [false, false, true] [true = shapeM p L, L.length = L.length ∧ (fun i => (L.getD i Con.zero).rvs) = fun i => (L.getD i Con.zero).rvs, (↑L.length : Int) = (↑L.length : Int), Dec (shL L (-1 : Int) (0 : Int)) true, Dec ((↑L.length : Int) == (0 : Int)) false, Dec (p != (2 : Int)) false] (by kernel_rfl) ⟨?_, ?_, ?_, d3, d2, (dN d1)⟩)
           (fun d3 => rr [false, false, false] [false = shapeM p L, L.length = L.length ∧ (fun i => (L.getD i Con.zero).rvs) = fun i => (L.getD i Con.zero).rvs, (↑L.length : Int) = (↑L.length : Int), Dec (shL L (-1 : Int) (0 : Int)) false, Dec ((↑L.length : Int) == (0 : Int)) false, Dec (p != (2 : Int)) false] (by kernel_rfl) ⟨?_, ?_, ?_, d3, d2, (dN d1)⟩)))
           (fun d1 => rr [true] [false = shapeM p L, Dec (p != (2 : Int)) true] (by kernel_rfl) ⟨?_, (dN d1)⟩)
  all_goals first | (refine GnG.mk ?_; (simp_all)) | (first | (with_reducible rfl) | exact ⟨rfl, rfl⟩ | (unfold shapeM; simp_all; done))
theorem legalT_eq (c : Con) : legalT_v c.exp c.dim c.sign c.odd c.oddity = legalB c := legalR_eq c
noncomputable def entsVS : List OEnt := [
  ⟨6, [], fun A => match A with
    | [.agg [.int .i64 e, .int .i64 d, .int .i64 s, .bool o, .int .i64 t]] => some (.bool (legalB ⟨e, d, s, o, t⟩), [])
    | _ => none⟩,
  ⟨36, [], fun A => match A with
    | [.agg [.int .i64 p, .sl n 5 row]] => some (.bool (shapeM p (consR n row)), [(∀ i, i < n → row i = (Con.ofR (row i)).rvs) ∧ n ≤ 1000])
    | _ => none⟩]
theorem entsVS_ok : ∀ e ∈ entsVS, EntOk Tryz.prog e := by
  intro e he
  simp only [entsVS, List.mem_cons, List.not_mem_nil, or_false] at he
  rcases he with rfl | rfl
  all_goals
    intro A R ms h hm
    simp only at h
    split at h
    all_goals first | (cases h; done) | cases h
  · rw [← legalT_eq]; exact legalT _ _ _ _ _
  · obtain ⟨h1, h2⟩ := all_one hm
    exact PureC.imp (sh_pure _ _ (by rw [consR_len]; exact h2)) (.cons (.agg (.cons .same (.cons (.con h1) .nil))) .nil)
noncomputable def vaAnn (L : List Con) : Ann := ⟨⟨[(9, (roC L).av), (10, .vint .i64 L.length), (11, .int .i64 0)], [], 1001⟩, some (L.all legalB), fun d => match d with
  | true => (.exit 0, ⟨[], [], 1001⟩)
  | false => (.ret, ⟨[(2, .bool false)], [], 1001⟩)⟩
set_option maxRecDepth 100000 in
theorem va_loop (L : List Con) (hn : L.length ≤ 1000) : AnnOk Tryz.prog EV.ng (Nat.max 1 Tryz.f19.ntmps) (bodyAt Tryz.f19 [0, 1, 0, 1, 1]) (vaAnn L) := by
  refine ann_of evOk (callF_ok evOk (orcOf_ok entsVS_ok) 8) none_ann (by kernel_rfl) (by kernel_rfl) (fun i : Nat => (fun (k : Nat) => (⟨[(9, (roC L).av), (10, .vint .i64 L.length), (11, .vint .i64 (k : Int))], [], 1001⟩ : St)) i) (fun i : Nat => (fun (k : Nat) => (L.length - k : Nat)) i) (fun (d : Bool) (i : Nat) => (fun (k : Nat) => (k ≤ L.length ∧ (L.drop k).all legalB = d : Prop)) i) ?_ ?_
  · intro d hd
    exact ⟨(0), [L.length = L.length ∧ (fun i => (L.getD i Con.zero).rvs) = fun i => (L.getD i Con.zero).rvs, (↑L.length : Int) = (↑L.length : Int), (0 : Int) = (↑(0 : Nat) : Int)], by kernel_rfl, (by refine ⟨?_, ?_, (?_ : (0 : Int) = (↑(0 : Nat) : Int))⟩ <;> (first | rfl | assumption | omega | simp_all)), (by exact ⟨Nat.zero_le _, hd⟩)⟩
  · rintro d hd k hI
    cases d
    · -- d = false
      obtain ⟨hk, hs⟩ := hI
      have ek : IntKind.i64.wrap ((k : Int) + 1) = ((k + 1 : Nat) : Int) := by rw [w64 (by omega) (by omega)]; omega
      refine Or.elim (Bool.eq_false_or_eq_true (decide ((↑k : Int) < (↑L.length : Int)))) (fun d1 => Or.elim (Bool.eq_false_or_eq_true (legalB (L.getD k Con.zero))) (fun d2 => ⟨[true, false], .inl ⟨(k + 1), [L.length = L.length ∧ (fun i => (L.getD i Con.zero).rvs) = fun i => (L.getD i Con.zero).rvs, (↑L.length : Int) = (↑L.length : Int), IntKind.i64.wrap ((↑k : Int) + (1 : Int)) = (↑(k + (1 : Nat)) : Int), Dec (!legalB (L.getD k Con.zero)) false, (0 : Int) ≤ (↑k : Int) ∧ (↑k : Int) < (↑L.length : Int), Dec (decide ((↑k : Int) < (↑L.length : Int))) true], by kernel_rfl, ⟨?_, ?_, ?_, (dN d2), ?_, d1⟩, MuG.out ?_, InG.out ?_⟩⟩)
           (fun d2 => ⟨[true, true], .inr ⟨[Dec (!legalB (L.getD k Con.zero)) true, (0 : Int) ≤ (↑k : Int) ∧ (↑k : Int) < (↑L.length : Int), Dec (decide ((↑k : Int) < (↑L.length : Int))) true], by kernel_rfl, ⟨(dN d2), ?_, d1⟩, rfl⟩⟩))
           (fun d1 => CtG.no ?_)
      all_goals first | (refine MuG.mk ?_; (simp only [decide_eq_true_eq] at *; show L.length - (k + 1) < L.length - k; omega)) | (refine InG.mk ?_; (simp only [decide_eq_true_eq] at *; rw [all_drop (by omega)] at hs; rw [show legalB (at_ L k) = true from d2] at hs; exact ⟨by omega, hs⟩)) | (refine CtG.mk ?_; (simp only [decide_eq_true_eq, decide_eq_false_iff_not] at *; first | (rw [List.drop_eq_nil_of_le (by omega)] at hs; cases hs; done) | (rw [all_drop (by omega)] at hs; rw [show legalB (at_ L k) = false from d2] at hs; cases hs; done))) | (first | rfl | exact ⟨rfl, rfl⟩ | ((try simp only [ek, Int.toNat_natCast, decide_eq_true_eq, decide_eq_false_iff_not] at *) <;> omega))
    · -- d = true
      obtain ⟨hk, hs⟩ := hI
      have ek : IntKind.i64.wrap ((k : Int) + 1) = ((k + 1 : Nat) : Int) := by rw [w64 (by omega) (by omega)]; omega
      refine Or.elim (Bool.eq_false_or_eq_true (decide ((↑k : Int) < (↑L.length : Int)))) (fun d1 => Or.elim (Bool.eq_false_or_eq_true (legalB (L.getD k Con.zero))) (fun d2 => ⟨[true, false], .inl ⟨(k + 1), [L.length = L.length ∧ (fun i => (L.getD i Con.zero).rvs) = fun i => (L.getD i Con.zero).rvs, (↑L.length : Int) = (↑L.length : Int), IntKind.i64.wrap ((↑k : Int) + (1 : Int)) = (↑(k + (1 : Nat)) : Int), Dec (!legalB (L.getD k Con.zero)) false, (0 : Int) ≤ (↑k : Int) ∧ (↑k : Int) < (↑L.length : Int), Dec (decide ((↑k : Int) < (↑L.length : Int))) true], by kernel_rfl, ⟨?_, ?_, ?_, (dN d2), ?_, d1⟩, MuG.out ?_, InG.out ?_⟩⟩)
           (fun d2 => CtG.no ?_))
           (fun d1 => ⟨[false], .inr ⟨[Dec (decide ((↑k : Int) < (↑L.length : Int))) false], by kernel_rfl, d1, rfl⟩⟩)
      all_goals first | (refine MuG.mk ?_; (simp only [decide_eq_true_eq] at *; show L.length - (k + 1) < L.length - k; omega)) | (refine InG.mk ?_; (simp only [decide_eq_true_eq] at *; rw [all_drop (by omega)] at hs; rw [show legalB (at_ L k) = true from d2] at hs; exact ⟨by omega, hs⟩)) | (refine CtG.mk ?_; (simp only [decide_eq_true_eq, decide_eq_false_iff_not] at *; first | (rw [List.drop_eq_nil_of_le (by omega)] at hs; cases hs; done) | (rw [all_drop (by omega)] at hs; rw [show legalB (at_ L k) = false from d2] at hs; cases hs; done))) | (first | rfl | exact ⟨rfl, rfl⟩ | ((try simp only [ek, Int.toNat_natCast, decide_eq_true_eq, decide_eq_false_iff_not] at *) <;> omega))
set_option maxRecDepth 100000 in
theorem tvalid_pure (p : Int) (L : List Con) (hn : L.length ≤ 1000) : PureC Tryz.prog [] 19 [.agg [.int .i64 p, roC L]] (.bool (val2M p L)) := by
  have rr := fun (tp : List Bool) (ms : List Prop) h hm => pure_run evOk (callF_ok evOk (orcOf_ok entsVS_ok) 8) Tryz.func19 (A := [.agg [.int .i64 p, roC L]]) (N := Nat.max 1 Tryz.f19.ntmps) rfl (one_ann (va_loop L hn)) rfl rfl evNg (tabs := []) (R := .bool (val2M p L)) (tp := tp) (ms := ms) h hm
  refine Or.elim (Bool.eq_false_or_eq_true (shapeM p (consR L.length fun i => (L.getD i Con.zero).rvs))) (fun d1 => Or.elim (Bool.eq_false_or_eq_true (L.all legalB)) (fun d2 => rr [false, true] [true = val2M p L, L.length = L.length ∧ (fun i => (L.getD i Con.zero).rvs) = fun i => (L.getD i Con.zero).rvs, (↑L.length : Int) = (↑L.length : Int), Dec (L.all legalB) true, Dec (!shapeM p (consR L.length fun i => (L.getD i Con.zero).rvs)) false, (∀ (i : Nat), i < L.length → (fun i => (L.getD i Con.zero).rvs) i = (Con.ofR ((fun i => (L.getD i Con.zero).rvs) i)).rvs) ∧ L.length ≤ (1000 : Nat)] (by kernel_rfl) ⟨?_, ?_, ?_, d2, (dN d1), (?_ : (∀ (i : Nat), i < L.length → (fun i => (L.getD i Con.zero).rvs) i = (Con.ofR ((fun i => (L.getD i Con.zero).rvs) i)).rvs) ∧ L.length ≤ (1000 : Nat))⟩)
           (fun d2 => rr [false, false] [false = val2M p L, L.length = L.length ∧ (fun i => (L.getD i Con.zero).rvs) = fun i => (L.getD i Con.zero).rvs, (↑L.length : Int) = (↑L.length : Int), Dec (L.all legalB) false, Dec (!shapeM p (consR L.length fun i => (L.getD i Con.zero).rvs)) false, (∀ (i : Nat), i < L.length → (fun i => (L.getD i Con.zero).rvs) i = (Con.ofR ((fun i => (L.getD i Con.zero).rvs) i)).rvs) ∧ L.length ≤ (1000 : Nat)] (by kernel_rfl) ⟨?_, ?_, ?_, d2, (dN d1), (?_ : (∀ (i : Nat), i < L.length → (fun i => (L.getD i Con.zero).rvs) i = (Con.ofR ((fun i => (L.getD i Con.zero).rvs) i)).rvs) ∧ L.length ≤ (1000 : Nat))⟩))
           (fun d1 => rr [true] [false = val2M p L, Dec (!shapeM p (consR L.length fun i => (L.getD i Con.zero).rvs)) true, (∀ (i : Nat), i < L.length → (fun i => (L.getD i Con.zero).rvs) i = (Con.ofR ((fun i => (L.getD i Con.zero).rvs) i)).rvs) ∧ L.length ≤ (1000 : Nat)] (by kernel_rfl) ⟨?_, (dN d1), (?_ : (∀ (i : Nat), i < L.length → (fun i => (L.getD i Con.zero).rvs) i = (Con.ofR ((fun i => (L.getD i Con.zero).rvs) i)).rvs) ∧ L.length ≤ (1000 : Nat))⟩)
  all_goals first | (first | (with_reducible rfl) | exact ⟨rfl, rfl⟩ | exact ⟨fun _ _ => rfl, hn⟩ | ((try simp only [consR_ro] at *) <;> first | trivial | (rw [val2_sh]; simp_all; done)))
end Go.Proofs.YtkkmlbhmcdoibaaGreatDoor.S

namespace Go.Proofs.YtkkmlbhmcdoibaaGreatDoor.S
open Go.QfSy Go.RowKit
noncomputable def entsVW : List OEnt := entsVC ++ [
  ⟨19, [], fun A => match A with
    | [.agg [.int .i64 p, .sl n 5 row]] => some (.bool (val2M p (consR n row)), [(∀ i, i < n → row i = (Con.ofR (row i)).rvs) ∧ n ≤ 1000])
    | _ => none⟩]
theorem entsVW_ok : ∀ e ∈ entsVW, EntOk Tryz.prog e := by
  intro e he
  rcases List.mem_append.1 he with he | he
  · exact entsVC_ok e he
  · rw [List.mem_singleton.1 he]
    intro A R ms h hm
    simp only at h
    split at h
    · cases h
      obtain ⟨h1, h3⟩ := all_one hm
      exact PureC.imp (tvalid_pure _ _ (by rw [consR_len]; exact h3)) (.cons (.agg (.cons .same (.cons (.con h1) .nil))) .nil)
    · cases h
end Go.Proofs.YtkkmlbhmcdoibaaGreatDoor.S

namespace Go.Proofs.YtkkmlbhmcdoibaaGreatDoor.S
open Go.QfSy Go.RowKit
theorem val2_p {p : Int} {L : List Con} (h : val2M p L = true) : p = 2 := by
  unfold val2M at h
  simp only [Bool.and_eq_true, beq_iff_eq] at h
  exact h.1
end Go.Proofs.YtkkmlbhmcdoibaaGreatDoor.S

namespace Go.Proofs.YtkkmlbhmcdoibaaGreatDoor.S
open Go.QfSy Go.RowKit
def bP (v : Bool) : Int := bif v then 2 else 0
def bL (v : Bool) (M : List Con) : List Con := bif v then M else []
end Go.Proofs.YtkkmlbhmcdoibaaGreatDoor.S

namespace Go.Proofs.YtkkmlbhmcdoibaaGreatDoor.S
open Go.QfSy Go.RowKit
noncomputable def entsSm : List OEnt := [
  ⟨23, [], fun A => match A with
    | [.agg [.int .i64 p, .sl n 5 row]] => some (.bool (val2M p (consR n row)), [(∀ i, i < n → row i = (Con.ofR (row i)).rvs) ∧ n ≤ 1000])
    | _ => none⟩,
  ⟨24, [], fun A => match A with
    | [.sl n 5 row, .sl m 5 row'] => some (roC (addM (consR n row) (consR m row')), [(∀ i, i < n → row i = (Con.ofR (row i)).rvs) ∧ (∀ i, i < m → row' i = (Con.ofR (row' i)).rvs) ∧ val2M 2 (consR n row) = true ∧ val2M 2 (consR m row') = true])
    | _ => none⟩]
theorem val2_addOk {L : List Con} (h : val2M 2 L = true) : ∀ c ∈ L, addOk c := fun c hc => by
  have h1 := (val2_ok h).1.2 c hc
  exact ⟨by have := h1.2.1; omega, h1.2.2.1, h1.2.2.2⟩
theorem add_pos {A B : List Con} (h : 0 < A.length) : 0 < (addM A B).length := by
  obtain ⟨c, hc, _⟩ := mem_addL A B _ (at_mem (L := A) (k := 0) h)
  exact List.length_pos_of_mem hc
theorem entsSm_ok : ∀ e ∈ entsSm, EntOk Tryz.prog e := by
  intro e he
  simp only [entsSm, List.mem_cons, List.not_mem_nil, or_false] at he
  rcases he with rfl | rfl
  all_goals
    intro A R ms h hm
    simp only at h
    split at h
    all_goals first | (cases h; done) | cases h
  · obtain ⟨h1, h2⟩ := all_one hm
    exact PureC.imp (val2_pure _ _ (by rw [consR_len]; exact h2)) (.cons (.agg (.cons .same (.cons (.con h1) .nil))) .nil)
  · obtain ⟨h1, h2, h3, h4⟩ := all_one hm
    exact PureC.imp (add_pure _ _ (val2_addOk h3) (val2_addOk h4) (add_pos (val2_ok h3).2.2.1) (val2_ok h3).1.1 (val2_ok h4).1.1) (.cons (.con h1) (.cons (.con h2) .nil))
theorem val2_two {p : Int} {L : List Con} (h : val2M p L = true) : val2M 2 L = true := by have e := val2_p h; rw [e] at h; exact h
noncomputable def smV (p q : Int) (A B : List Con) : Bool := val2M p A && (val2M q B && val2M 2 (addM A B))
noncomputable def smE (v : Bool) : Int := bif v then 0 else 22
set_option maxHeartbeats 1000000 in
set_option maxRecDepth 100000 in
theorem sum2_pure (p q : Int) (A B : List Con) (hA : A.length ≤ 1000) (hB : B.length ≤ 1000) : PureC Tryz.prog [] 12 [.agg [.int .i64 p, roC A], .agg [.int .i64 q, roC B]] (.tup [.agg [.int .i64 (bP (smV p q A B)), roC (bL (smV p q A B) (addM A B))], .int .i64 (smE (smV p q A B))]) := by
  have k1 := consR_ro A; have k2 := consR_ro B
  have rr := fun (tp : List Bool) (ms : List Prop) h hm => pure_run evOk (callF_ok evOk (orcOf_ok entsSm_ok) 8) Tryz.func12 (A := [.agg [.int .i64 p, roC A], .agg [.int .i64 q, roC B]]) rfl none_ann rfl rfl evNg (tabs := []) (R := .tup [.agg [.int .i64 (bP (smV p q A B)), roC (bL (smV p q A B) (addM A B))], .int .i64 (smE (smV p q A B))]) (tp := tp) (ms := ms) h hm
  refine Or.elim (Bool.eq_false_or_eq_true (val2M p (consR A.length fun i => (A.getD i Con.zero).rvs))) (fun d1 => Or.elim (Bool.eq_false_or_eq_true (val2M q (consR B.length fun i => (B.getD i Con.zero).rvs))) (fun d2 => Or.elim (Bool.eq_false_or_eq_true (val2M (2 : Int) (consR (addM (consR A.length fun i => (A.getD i Con.zero).rvs) (consR B.length fun i => (B.getD i Con.zero).rvs)).length fun i => ((addM (consR A.length fun i => (A.getD i Con.zero).rvs) (consR B.length fun i => (B.getD i Con.zero).rvs)).getD i Con.zero).rvs))) (fun d3 => rr [false, false, false] [(2 : Int) = bP (smV p q A B), (addM (consR A.length fun i => (A.getD i Con.zero).rvs) (consR B.length fun i => (B.getD i Con.zero).rvs)).length = (bL (smV p q A B) (addM A B)).length ∧ (fun i => ((addM (consR A.length fun i => (A.getD i Con.zero).rvs) (consR B.length fun i => (B.getD i Con.zero).rvs)).getD i Con.zero).rvs) = fun i => ((bL (smV p q A B) (addM A B)).getD i Con.zero).rvs, (0 : Int) = smE (smV p q A B), Dec (!val2M (2 : Int) (consR (addM (consR A.length fun i => (A.getD i Con.zero).rvs) (consR B.length fun i => (B.getD i Con.zero).rvs)).length fun i => ((addM (consR A.length fun i => (A.getD i Con.zero).rvs) (consR B.length fun i => (B.getD i Con.zero).rvs)).getD i Con.zero).rvs)) false, (∀ (i : Nat), i < (addM (consR A.length fun i => (A.getD i Con.zero).rvs) (consR B.length fun i => (B.getD i Con.zero).rvs)).length → (fun i => ((addM (consR A.length fun i => (A.getD i Con.zero).rvs) (consR B.length fun i => (B.getD i Con.zero).rvs)).getD i Con.zero).rvs) i = (Con.ofR ((fun i => ((addM (consR A.length fun i => (A.getD i Con.zero).rvs) (consR B.length fun i => (B.getD i Con.zero).rvs)).getD i Con.zero).rvs) i)).rvs) ∧ (addM (consR A.length fun i => (A.getD i Con.zero).rvs) (consR B.length fun i => (B.getD i Con.zero).rvs)).length ≤ (1000 : Nat), (∀ (i : Nat), i < A.length → (fun i => (A.getD i Con.zero).rvs) i = (Con.ofR ((fun i => (A.getD i Con.zero).rvs) i)).rvs) ∧ (∀ (i : Nat), i < B.length → (fun i => (B.getD i Con.zero).rvs) i = (Con.ofR ((fun i => (B.getD i Con.zero).rvs) i)).rvs) ∧ val2M (2 : Int) (consR A.length fun i => (A.getD i Con.zero).rvs) = true ∧ val2M (2 : Int) (consR B.length fun i => (B.getD i Con.zero).rvs) = true, Dec (!val2M q (consR B.length fun i => (B.getD i Con.zero).rvs)) false, (∀ (i : Nat), i < B.length → (fun i => (B.getD i Con.zero).rvs) i = (Con.ofR ((fun i => (B.getD i Con.zero).rvs) i)).rvs) ∧ B.length ≤ (1000 : Nat), Dec (!val2M p (consR A.length fun i => (A.getD i Con.zero).rvs)) false, (∀ (i : Nat), i < A.length → (fun i => (A.getD i Con.zero).rvs) i = (Con.ofR ((fun i => (A.getD i Con.zero).rvs) i)).rvs) ∧ A.length ≤ (1000 : Nat)] (by kernel_rfl) ⟨?_, ?_, ?_, (dN d3), ?_, ?_, (dN d2), ?_, (dN d1), (?_ : (∀ (i : Nat), i < A.length → (fun i => (A.getD i Con.zero).rvs) i = (Con.ofR ((fun i => (A.getD i Con.zero).rvs) i)).rvs) ∧ A.length ≤ (1000 : Nat))⟩)
           (fun d3 => rr [false, false, true] [(0 : Int) = bP (smV p q A B), (bL (smV p q A B) (addM A B)).length = (0 : Nat), (22 : Int) = smE (smV p q A B), Dec (!val2M (2 : Int) (consR (addM (consR A.length fun i => (A.getD i Con.zero).rvs) (consR B.length fun i => (B.getD i Con.zero).rvs)).length fun i => ((addM (consR A.length fun i => (A.getD i Con.zero).rvs) (consR B.length fun i => (B.getD i Con.zero).rvs)).getD i Con.zero).rvs)) true, (∀ (i : Nat), i < (addM (consR A.length fun i => (A.getD i Con.zero).rvs) (consR B.length fun i => (B.getD i Con.zero).rvs)).length → (fun i => ((addM (consR A.length fun i => (A.getD i Con.zero).rvs) (consR B.length fun i => (B.getD i Con.zero).rvs)).getD i Con.zero).rvs) i = (Con.ofR ((fun i => ((addM (consR A.length fun i => (A.getD i Con.zero).rvs) (consR B.length fun i => (B.getD i Con.zero).rvs)).getD i Con.zero).rvs) i)).rvs) ∧ (addM (consR A.length fun i => (A.getD i Con.zero).rvs) (consR B.length fun i => (B.getD i Con.zero).rvs)).length ≤ (1000 : Nat), (∀ (i : Nat), i < A.length → (fun i => (A.getD i Con.zero).rvs) i = (Con.ofR ((fun i => (A.getD i Con.zero).rvs) i)).rvs) ∧ (∀ (i : Nat), i < B.length → (fun i => (B.getD i Con.zero).rvs) i = (Con.ofR ((fun i => (B.getD i Con.zero).rvs) i)).rvs) ∧ val2M (2 : Int) (consR A.length fun i => (A.getD i Con.zero).rvs) = true ∧ val2M (2 : Int) (consR B.length fun i => (B.getD i Con.zero).rvs) = true, Dec (!val2M q (consR B.length fun i => (B.getD i Con.zero).rvs)) false, (∀ (i : Nat), i < B.length → (fun i => (B.getD i Con.zero).rvs) i = (Con.ofR ((fun i => (B.getD i Con.zero).rvs) i)).rvs) ∧ B.length ≤ (1000 : Nat), Dec (!val2M p (consR A.length fun i => (A.getD i Con.zero).rvs)) false, (∀ (i : Nat), i < A.length → (fun i => (A.getD i Con.zero).rvs) i = (Con.ofR ((fun i => (A.getD i Con.zero).rvs) i)).rvs) ∧ A.length ≤ (1000 : Nat)] (by kernel_rfl) ⟨?_, ?_, ?_, (dN d3), ?_, ?_, (dN d2), ?_, (dN d1), (?_ : (∀ (i : Nat), i < A.length → (fun i => (A.getD i Con.zero).rvs) i = (Con.ofR ((fun i => (A.getD i Con.zero).rvs) i)).rvs) ∧ A.length ≤ (1000 : Nat))⟩))
           (fun d2 => rr [false, true] [(0 : Int) = bP (smV p q A B), (bL (smV p q A B) (addM A B)).length = (0 : Nat), (22 : Int) = smE (smV p q A B), Dec (!val2M q (consR B.length fun i => (B.getD i Con.zero).rvs)) true, (∀ (i : Nat), i < B.length → (fun i => (B.getD i Con.zero).rvs) i = (Con.ofR ((fun i => (B.getD i Con.zero).rvs) i)).rvs) ∧ B.length ≤ (1000 : Nat), Dec (!val2M p (consR A.length fun i => (A.getD i Con.zero).rvs)) false, (∀ (i : Nat), i < A.length → (fun i => (A.getD i Con.zero).rvs) i = (Con.ofR ((fun i => (A.getD i Con.zero).rvs) i)).rvs) ∧ A.length ≤ (1000 : Nat)] (by kernel_rfl) ⟨?_, ?_, ?_, (dN d2), ?_, (dN d1), (?_ : (∀ (i : Nat), i < A.length → (fun i => (A.getD i Con.zero).rvs) i = (Con.ofR ((fun i => (A.getD i Con.zero).rvs) i)).rvs) ∧ A.length ≤ (1000 : Nat))⟩))
           (fun d1 => rr [true] [(0 : Int) = bP (smV p q A B), (bL (smV p q A B) (addM A B)).length = (0 : Nat), (22 : Int) = smE (smV p q A B), Dec (!val2M p (consR A.length fun i => (A.getD i Con.zero).rvs)) true, (∀ (i : Nat), i < A.length → (fun i => (A.getD i Con.zero).rvs) i = (Con.ofR ((fun i => (A.getD i Con.zero).rvs) i)).rvs) ∧ A.length ≤ (1000 : Nat)] (by kernel_rfl) ⟨?_, ?_, ?_, (dN d1), (?_ : (∀ (i : Nat), i < A.length → (fun i => (A.getD i Con.zero).rvs) i = (Con.ofR ((fun i => (A.getD i Con.zero).rvs) i)).rvs) ∧ A.length ≤ (1000 : Nat))⟩)
  all_goals first | (first | (with_reducible rfl) | exact ⟨fun _ _ => rfl, hA⟩ | exact ⟨fun _ _ => rfl, hB⟩ | (simp only [consR_ro] at *; first | (exact ⟨fun _ _ => rfl, fun _ _ => rfl, val2_two d1, val2_two d2⟩) | (unfold smV; rw [d1]; rfl) | (unfold smV; rw [d1, d2]; rfl) | (unfold smV; rw [d1, d2, d3]; rfl) | (unfold smV; rw [d1, d2, d3]; exact ⟨rfl, rfl⟩) | (exact ⟨fun _ _ => rfl, by have h1 := (val2_ok (val2_two d1)).2.2.2; have h2 := (val2_ok (val2_two d2)).2.2.2; have := addM_len A B; omega⟩) | exact (5 : Nat)))
end Go.Proofs.YtkkmlbhmcdoibaaGreatDoor.S

