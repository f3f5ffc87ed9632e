/- A part of the proof of the laws: VC, VG, VP, VH0, YT, Y2, VQ, VE. -/
import Derived.Test.YtcfdaddablojlaaGreatDoorPkOB1
import Derived.Test.YtcfdaddablojlaaGreatDoorRows
import Derived.Test.YtcfdaddablojlaaGreatDoorTie
import Derived.Test.YtcfdaddablojlaaGreatDoorCards
import Derived.ProofKit
import Derived.Deep.DeepHandedRow
import Derived.Lib.LaidTab
import Derived.Stop.LaidErr
import Derived.Test.YtcfdaddablojlaaGreatDoorChecked
import Derived.WalkKit
import Derived.Lib.Hide
import Derived.Laws.Rows
import Derived.WalkMore
import Derived.Below
import Derived.BigQuiet
import Derived.Deep.QuietTactic
import Derived.Deep.RegionWith
import Derived.Deep.RegionHeld3
import Derived.Laws.StructEq
set_option linter.unusedSimpArgs false
set_option linter.unusedVariables false
/- train.shaped, Valid and Fused. -/
set_option linter.unusedSimpArgs false
set_option linter.unusedVariables false
namespace Go.Proofs.YtcfdaddablojlaaGreatDoor.S
open Go.QfSy Go.RowKit

theorem sh_drop {L : List Con} {k : Nat} (hk : k < L.length) (l s : Int) : shL (L.drop k) l s = (shO (at_ L k) l s && shL (L.drop (k + 1)) (at_ L k).exp (s + (at_ L k).dim)) := by
  rw [drop_at hk]; rfl
noncomputable def shAnn (L : List Con) : Ann := ⟨⟨[(3, .int .i64 0), (4, .int .i64 (-1)), (17, (roC L).av), (18, .vint .i64 L.length), (19, .int .i64 0)], [], 1001⟩, some (shL L (-1) 0), fun d => match d with
  | true => (.exit 0, ⟨[], [], 1001⟩)
  | false => (.ret, ⟨[(2, .bool false)], [], 1001⟩)⟩
set_option maxRecDepth 100000 in
theorem sh_loop (L : List Con) (hn : L.length ≤ 1000) : AnnOk Tryz.prog EV.ng (Nat.max 1 Tryz.f60.ntmps) (bodyAt Tryz.f60 [0, 1, 0, 1, 1, 1]) (shAnn L) := by
  refine ann_of evOk (callF_ok evOk (noOrc_ok _ _) 8) none_ann (by kernel_rfl) (by kernel_rfl) (fun i : Nat × Int × Int => (fun (k : Nat) (s e : Int) => (⟨[(3, .vint .i64 s), (4, .vint .i64 e), (17, (roC L).av), (18, .vint .i64 L.length), (19, .vint .i64 (k : Int))], [], 1001⟩ : St)) i.1 i.2.1 i.2.2) (fun i : Nat × Int × Int => (fun (k : Nat) (s e : Int) => (L.length - k : Nat)) i.1 i.2.1 i.2.2) (fun (d : Bool) (i : Nat × Int × Int) => (fun (k : Nat) (s e : Int) => (k ≤ L.length ∧ (0 ≤ s ∧ s ≤ 8) ∧ shL (L.drop k) e s = d : Prop)) i.1 i.2.1 i.2.2) ?_ ?_
  · intro d hd
    exact ⟨(0, 0, -1), [(0 : Int) = (0 : Int), (-1 : Int) = (-1 : Int), L.length = L.length ∧ (fun i => (L.getD i Con.zero).rvs) = fun i => (L.getD i Con.zero).rvs, (↑L.length : Int) = (↑L.length : Int), (0 : Int) = (↑(0 : Nat) : Int)], by kernel_rfl, (by refine ⟨?_, ?_, ?_, ?_, (?_ : (0 : Int) = (↑(0 : Nat) : Int))⟩ <;> (first | rfl | assumption | omega | simp_all)), (by exact ⟨Nat.zero_le _, by decide, hd⟩)⟩
  · rintro d hd ⟨k, s, e⟩ hI
    cases d
    · -- d = false
      obtain ⟨hk, hs, hd'⟩ := hI
      have hs : 0 ≤ s ∧ s ≤ 8 := hs
      have hd' : shL (L.drop k) e s = _ := hd'
      have hk : k ≤ L.length := hk
      have ek : IntKind.i64.wrap ((k : Int) + 1) = ((k + 1 : Nat) : Int) := by rw [w64 (by omega) (by omega)]; omega
      have e8 : IntKind.i64.wrap (8 - s) = 8 - s := w64 (by omega) (by omega)
      refine Or.elim (Bool.eq_false_or_eq_true (decide ((↑k : Int) < (↑L.length : Int)))) (fun d1 => Or.elim (Bool.eq_false_or_eq_true (decide ((L.getD k Con.zero).exp ≤ e))) (fun d2 => ⟨[true, true], .inr ⟨[Dec (decide ((L.getD k Con.zero).exp ≤ e)) true, (0 : Int) ≤ (↑k : Int) ∧ (↑k : Int) < (↑L.length : Int), Dec (decide ((↑k : Int) < (↑L.length : Int))) true], by kernel_rfl, ⟨d2, ?_, d1⟩, rfl⟩⟩)
           (fun d2 => Or.elim (Bool.eq_false_or_eq_true (decide ((L.getD k Con.zero).exp > (60 : Int)))) (fun d3 => ⟨[true, false, true], .inr ⟨[Dec (decide ((L.getD k Con.zero).exp > (60 : Int))) true, Dec (decide ((L.getD k Con.zero).exp ≤ e)) false, (0 : Int) ≤ (↑k : Int) ∧ (↑k : Int) < (↑L.length : Int), Dec (decide ((↑k : Int) < (↑L.length : Int))) true], by kernel_rfl, ⟨d3, d2, ?_, d1⟩, rfl⟩⟩)
           (fun d3 => Or.elim (Bool.eq_false_or_eq_true (decide ((L.getD k Con.zero).dim < (1 : Int)))) (fun d4 => ⟨[true, false, false, true], .inr ⟨[Dec (decide ((L.getD k Con.zero).dim < (1 : Int))) true, Dec (decide ((L.getD k Con.zero).exp > (60 : Int))) false, Dec (decide ((L.getD k Con.zero).exp ≤ e)) false, (0 : Int) ≤ (↑k : Int) ∧ (↑k : Int) < (↑L.length : Int), Dec (decide ((↑k : Int) < (↑L.length : Int))) true], by kernel_rfl, ⟨d4, d3, d2, ?_, d1⟩, rfl⟩⟩)
           (fun d4 => Or.elim (Bool.eq_false_or_eq_true (decide ((L.getD k Con.zero).dim > IntKind.i64.wrap ((8 : Int) - s)))) (fun d5 => ⟨[true, false, false, false, true], .inr ⟨[Dec (decide ((L.getD k Con.zero).dim > IntKind.i64.wrap ((8 : Int) - s))) true, Dec (decide ((L.getD k Con.zero).dim < (1 : Int))) false, Dec (decide ((L.getD k Con.zero).exp > (60 : Int))) false, Dec (decide ((L.getD k Con.zero).exp ≤ e)) false, (0 : Int) ≤ (↑k : Int) ∧ (↑k : Int) < (↑L.length : Int), Dec (decide ((↑k : Int) < (↑L.length : Int))) true], by kernel_rfl, ⟨d5, d4, d3, d2, ?_, d1⟩, rfl⟩⟩)
           (fun d5 => ⟨[true, false, false, false, false], .inl ⟨(k + 1, s + (at_ L k).dim, (at_ L k).exp), [IntKind.i64.wrap (s + (L.getD k Con.zero).dim) = s + (at_ L k).dim, (L.getD k Con.zero).exp = (at_ L k).exp, L.length = L.length ∧ (fun i => (L.getD i Con.zero).rvs) = fun i => (L.getD i Con.zero).rvs, (↑L.length : Int) = (↑L.length : Int), IntKind.i64.wrap ((↑k : Int) + (1 : Int)) = (↑(k + (1 : Nat)) : Int), Dec (decide ((L.getD k Con.zero).dim > IntKind.i64.wrap ((8 : Int) - s))) false, Dec (decide ((L.getD k Con.zero).dim < (1 : Int))) false, Dec (decide ((L.getD k Con.zero).exp > (60 : Int))) false, Dec (decide ((L.getD k Con.zero).exp ≤ e)) false, (0 : Int) ≤ (↑k : Int) ∧ (↑k : Int) < (↑L.length : Int), Dec (decide ((↑k : Int) < (↑L.length : Int))) true], by kernel_rfl, ⟨?_, ?_, ?_, ?_, ?_, d5, d4, d3, d2, ?_, d1⟩, MuG.out ?_, InG.out ?_⟩⟩)))))
           (fun d1 => CtG.no ?_)
      all_goals first | (refine MuG.mk ?_; (simp only [decide_eq_true_eq] at *; show L.length - (k + 1) < L.length - k; omega)) | (refine InG.mk ?_; (simp only [e8, Int.toNat_natCast, decide_eq_true_eq, decide_eq_false_iff_not, gt_iff_lt] at *; rw [sh_drop (by omega), show shO (at_ L k) e s = true from decide_eq_true ⟨by simp only [at_]; omega, by simp only [at_]; omega, by simp only [at_]; omega, by simp only [at_]; omega⟩] at hd'; exact ⟨by omega, by simp only [at_]; omega, hd'⟩)) | (refine CtG.mk ?_; (simp only [e8, Int.toNat_natCast, decide_eq_true_eq, decide_eq_false_iff_not, gt_iff_lt] at *; first | (rw [List.drop_eq_nil_of_le (by omega)] at hd'; cases hd'; done) | (rw [sh_drop (by omega), show shO (at_ L k) e s = false from decide_eq_false (by simp only [at_]; omega)] at hd'; cases hd'; done))) | (first | (with_reducible rfl) | exact ⟨rfl, rfl⟩ | ((try simp only [ek, e8, at_, Int.toNat_natCast, decide_eq_true_eq, decide_eq_false_iff_not, gt_iff_lt] at *) <;> first | omega | (exact w64 (by omega) (by omega))))
    · -- d = true
      obtain ⟨hk, hs, hd'⟩ := hI
      have hs : 0 ≤ s ∧ s ≤ 8 := hs
      have hd' : shL (L.drop k) e s = _ := hd'
      have hk : k ≤ L.length := hk
      have ek : IntKind.i64.wrap ((k : Int) + 1) = ((k + 1 : Nat) : Int) := by rw [w64 (by omega) (by omega)]; omega
      have e8 : IntKind.i64.wrap (8 - s) = 8 - s := w64 (by omega) (by omega)
      refine Or.elim (Bool.eq_false_or_eq_true (decide ((↑k : Int) < (↑L.length : Int)))) (fun d1 => Or.elim (Bool.eq_false_or_eq_true (decide ((L.getD k Con.zero).exp ≤ e))) (fun d2 => CtG.no ?_)
           (fun d2 => Or.elim (Bool.eq_false_or_eq_true (decide ((L.getD k Con.zero).exp > (60 : Int)))) (fun d3 => CtG.no ?_)
           (fun d3 => Or.elim (Bool.eq_false_or_eq_true (decide ((L.getD k Con.zero).dim < (1 : Int)))) (fun d4 => CtG.no ?_)
           (fun d4 => Or.elim (Bool.eq_false_or_eq_true (decide ((L.getD k Con.zero).dim > IntKind.i64.wrap ((8 : Int) - s)))) (fun d5 => CtG.no ?_)
           (fun d5 => ⟨[true, false, false, false, false], .inl ⟨(k + 1, s + (at_ L k).dim, (at_ L k).exp), [IntKind.i64.wrap (s + (L.getD k Con.zero).dim) = s + (at_ L k).dim, (L.getD k Con.zero).exp = (at_ L k).exp, L.length = L.length ∧ (fun i => (L.getD i Con.zero).rvs) = fun i => (L.getD i Con.zero).rvs, (↑L.length : Int) = (↑L.length : Int), IntKind.i64.wrap ((↑k : Int) + (1 : Int)) = (↑(k + (1 : Nat)) : Int), Dec (decide ((L.getD k Con.zero).dim > IntKind.i64.wrap ((8 : Int) - s))) false, Dec (decide ((L.getD k Con.zero).dim < (1 : Int))) false, Dec (decide ((L.getD k Con.zero).exp > (60 : Int))) false, Dec (decide ((L.getD k Con.zero).exp ≤ e)) false, (0 : Int) ≤ (↑k : Int) ∧ (↑k : Int) < (↑L.length : Int), Dec (decide ((↑k : Int) < (↑L.length : Int))) true], by kernel_rfl, ⟨?_, ?_, ?_, ?_, ?_, d5, d4, d3, d2, ?_, d1⟩, MuG.out ?_, InG.out ?_⟩⟩)))))
           (fun d1 => ⟨[false], .inr ⟨[Dec (decide ((↑k : Int) < (↑L.length : Int))) false], by kernel_rfl, d1, rfl⟩⟩)
      all_goals first | (refine MuG.mk ?_; (simp only [decide_eq_true_eq] at *; show L.length - (k + 1) < L.length - k; omega)) | (refine InG.mk ?_; (simp only [e8, Int.toNat_natCast, decide_eq_true_eq, decide_eq_false_iff_not, gt_iff_lt] at *; rw [sh_drop (by omega), show shO (at_ L k) e s = true from decide_eq_true ⟨by simp only [at_]; omega, by simp only [at_]; omega, by simp only [at_]; omega, by simp only [at_]; omega⟩] at hd'; exact ⟨by omega, by simp only [at_]; omega, hd'⟩)) | (refine CtG.mk ?_; (simp only [e8, Int.toNat_natCast, decide_eq_true_eq, decide_eq_false_iff_not, gt_iff_lt] at *; first | (rw [List.drop_eq_nil_of_le (by omega)] at hd'; cases hd'; done) | (rw [sh_drop (by omega), show shO (at_ L k) e s = false from decide_eq_false (by simp only [at_]; omega)] at hd'; cases hd'; done))) | (first | (with_reducible rfl) | exact ⟨rfl, rfl⟩ | ((try simp only [ek, e8, at_, Int.toNat_natCast, decide_eq_true_eq, decide_eq_false_iff_not, gt_iff_lt] at *) <;> first | omega | (exact w64 (by omega) (by omega))))
set_option maxRecDepth 100000 in
theorem sh_pure (p : Int) (L : List Con) (hn : L.length ≤ 1000) : PureC Tryz.prog [] 60 [.agg [.int .i64 p, roC L]] (.bool (shapeM p L)) := by
  have rr := fun (tp : List Bool) (ms : List Prop) h hm => pure_run evOk (callF_ok evOk (noOrc_ok _ _) 8) Tryz.func60 (A := [.agg [.int .i64 p, roC L]]) (N := Nat.max 1 Tryz.f60.ntmps) rfl (one_ann (sh_loop L hn)) rfl rfl evNg (tabs := []) (R := .bool (shapeM p L)) (tp := tp) (ms := ms) h hm
  refine Or.elim (Bool.eq_false_or_eq_true (p == (2 : Int))) (fun d1 => Or.elim (Bool.eq_false_or_eq_true ((↑L.length : Int) == (0 : Int))) (fun d2 => rr [false, true] [false = shapeM p L, Dec ((↑L.length : Int) == (0 : Int)) true, Dec (p != (2 : Int)) false] (by kernel_rfl) ⟨?_, d2, (dN d1)⟩)
           (fun d2 => Or.elim (Bool.eq_false_or_eq_true (shL L (-1 : Int) (0 : Int))) (fun d3 => rr [false, false, true] [true = shapeM p L, L.length = L.length ∧ (fun i => (L.getD i Con.zero).rvs) = fun i => (L.getD i Con.zero).rvs, (↑L.length : Int) = (↑L.length : Int), Dec (shL L (-1 : Int) (0 : Int)) true, Dec ((↑L.length : Int) == (0 : Int)) false, Dec (p != (2 : Int)) false] (by kernel_rfl) ⟨?_, ?_, ?_, d3, d2, (dN d1)⟩)
           (fun d3 => rr [false, false, false] [false = shapeM p L, L.length = L.length ∧ (fun i => (L.getD i Con.zero).rvs) = fun i => (L.getD i Con.zero).rvs, (↑L.length : Int) = (↑L.length : Int), Dec (shL L (-1 : Int) (0 : Int)) false, Dec ((↑L.length : Int) == (0 : Int)) false, Dec (p != (2 : Int)) false] (by kernel_rfl) ⟨?_, ?_, ?_, d3, d2, (dN d1)⟩)))
           (fun d1 => rr [true] [false = shapeM p L, Dec (p != (2 : Int)) true] (by kernel_rfl) ⟨?_, (dN d1)⟩)
  all_goals first | (refine GnG.mk ?_; (simp_all)) | (first | (with_reducible rfl) | exact ⟨rfl, rfl⟩ | (unfold shapeM; simp_all; done))
theorem legalT_eq (c : Con) : legalT_v c.exp c.dim c.sign c.odd c.oddity = legalB c := legalR_eq c
noncomputable def entsVS : List OEnt := [
  ⟨63, [], fun A => match A with
    | [.agg [.int .i64 e, .int .i64 d, .int .i64 s, .bool o, .int .i64 t]] => some (.bool (legalB ⟨e, d, s, o, t⟩), [])
    | _ => none⟩,
  ⟨60, [], fun A => match A with
    | [.agg [.int .i64 p, .sl n 5 row]] => some (.bool (shapeM p (consR n row)), [(∀ i, i < n → row i = (Con.ofR (row i)).rvs) ∧ n ≤ 1000])
    | _ => none⟩]
theorem entsVS_ok : ∀ e ∈ entsVS, EntOk Tryz.prog e := by
  intro e he
  simp only [entsVS, List.mem_cons, List.not_mem_nil, or_false] at he
  rcases he with rfl | rfl
  all_goals
    intro A R ms h hm
    simp only at h
    split at h
    all_goals first | (cases h; done) | cases h
  · rw [← legalT_eq]; exact legalT _ _ _ _ _
  · obtain ⟨h1, h2⟩ := all_one hm
    exact PureC.imp (sh_pure _ _ (by rw [consR_len]; exact h2)) (.cons (.agg (.cons .same (.cons (.con h1) .nil))) .nil)
noncomputable def vaAnn (L : List Con) : Ann := ⟨⟨[(9, (roC L).av), (10, .vint .i64 L.length), (11, .int .i64 0)], [], 1001⟩, some (L.all legalB), fun d => match d with
  | true => (.exit 0, ⟨[], [], 1001⟩)
  | false => (.ret, ⟨[(2, .bool false)], [], 1001⟩)⟩
set_option maxRecDepth 100000 in
theorem va_loop (L : List Con) (hn : L.length ≤ 1000) : AnnOk Tryz.prog EV.ng (Nat.max 1 Tryz.f38.ntmps) (bodyAt Tryz.f38 [0, 1, 0, 1, 1]) (vaAnn L) := by
  refine ann_of evOk (callF_ok evOk (orcOf_ok entsVS_ok) 8) none_ann (by kernel_rfl) (by kernel_rfl) (fun i : Nat => (fun (k : Nat) => (⟨[(9, (roC L).av), (10, .vint .i64 L.length), (11, .vint .i64 (k : Int))], [], 1001⟩ : St)) i) (fun i : Nat => (fun (k : Nat) => (L.length - k : Nat)) i) (fun (d : Bool) (i : Nat) => (fun (k : Nat) => (k ≤ L.length ∧ (L.drop k).all legalB = d : Prop)) i) ?_ ?_
  · intro d hd
    exact ⟨(0), [L.length = L.length ∧ (fun i => (L.getD i Con.zero).rvs) = fun i => (L.getD i Con.zero).rvs, (↑L.length : Int) = (↑L.length : Int), (0 : Int) = (↑(0 : Nat) : Int)], by kernel_rfl, (by refine ⟨?_, ?_, (?_ : (0 : Int) = (↑(0 : Nat) : Int))⟩ <;> (first | rfl | assumption | omega | simp_all)), (by exact ⟨Nat.zero_le _, hd⟩)⟩
  · rintro d hd k hI
    cases d
    · -- d = false
      obtain ⟨hk, hs⟩ := hI
      have ek : IntKind.i64.wrap ((k : Int) + 1) = ((k + 1 : Nat) : Int) := by rw [w64 (by omega) (by omega)]; omega
      refine Or.elim (Bool.eq_false_or_eq_true (decide ((↑k : Int) < (↑L.length : Int)))) (fun d1 => Or.elim (Bool.eq_false_or_eq_true (legalB (L.getD k Con.zero))) (fun d2 => ⟨[true, false], .inl ⟨(k + 1), [L.length = L.length ∧ (fun i => (L.getD i Con.zero).rvs) = fun i => (L.getD i Con.zero).rvs, (↑L.length : Int) = (↑L.length : Int), IntKind.i64.wrap ((↑k : Int) + (1 : Int)) = (↑(k + (1 : Nat)) : Int), Dec (!legalB (L.getD k Con.zero)) false, (0 : Int) ≤ (↑k : Int) ∧ (↑k : Int) < (↑L.length : Int), Dec (decide ((↑k : Int) < (↑L.length : Int))) true], by kernel_rfl, ⟨?_, ?_, ?_, (dN d2), ?_, d1⟩, MuG.out ?_, InG.out ?_⟩⟩)
           (fun d2 => ⟨[true, true], .inr ⟨[Dec (!legalB (L.getD k Con.zero)) true, (0 : Int) ≤ (↑k : Int) ∧ (↑k : Int) < (↑L.length : Int), Dec (decide ((↑k : Int) < (↑L.length : Int))) true], by kernel_rfl, ⟨(dN d2), ?_, d1⟩, rfl⟩⟩))
           (fun d1 => CtG.no ?_)
      all_goals first | (refine MuG.mk ?_; (simp only [decide_eq_true_eq] at *; show L.length - (k + 1) < L.length - k; omega)) | (refine InG.mk ?_; (simp only [decide_eq_true_eq] at *; rw [all_drop (by omega)] at hs; rw [show legalB (at_ L k) = true from d2] at hs; exact ⟨by omega, hs⟩)) | (refine CtG.mk ?_; (simp only [decide_eq_true_eq, decide_eq_false_iff_not] at *; first | (rw [List.drop_eq_nil_of_le (by omega)] at hs; cases hs; done) | (rw [all_drop (by omega)] at hs; rw [show legalB (at_ L k) = false from d2] at hs; cases hs; done))) | (first | rfl | exact ⟨rfl, rfl⟩ | ((try simp only [ek, Int.toNat_natCast, decide_eq_true_eq, decide_eq_false_iff_not] at *) <;> omega))
    · -- d = true
      obtain ⟨hk, hs⟩ := hI
      have ek : IntKind.i64.wrap ((k : Int) + 1) = ((k + 1 : Nat) : Int) := by rw [w64 (by omega) (by omega)]; omega
      refine Or.elim (Bool.eq_false_or_eq_true (decide ((↑k : Int) < (↑L.length : Int)))) (fun d1 => Or.elim (Bool.eq_false_or_eq_true (legalB (L.getD k Con.zero))) (fun d2 => ⟨[true, false], .inl ⟨(k + 1), [L.length = L.length ∧ (fun i => (L.getD i Con.zero).rvs) = fun i => (L.getD i Con.zero).rvs, (↑L.length : Int) = (↑L.length : Int), IntKind.i64.wrap ((↑k : Int) + (1 : Int)) = (↑(k + (1 : Nat)) : Int), Dec (!legalB (L.getD k Con.zero)) false, (0 : Int) ≤ (↑k : Int) ∧ (↑k : Int) < (↑L.length : Int), Dec (decide ((↑k : Int) < (↑L.length : Int))) true], by kernel_rfl, ⟨?_, ?_, ?_, (dN d2), ?_, d1⟩, MuG.out ?_, InG.out ?_⟩⟩)
           (fun d2 => CtG.no ?_))
           (fun d1 => ⟨[false], .inr ⟨[Dec (decide ((↑k : Int) < (↑L.length : Int))) false], by kernel_rfl, d1, rfl⟩⟩)
      all_goals first | (refine MuG.mk ?_; (simp only [decide_eq_true_eq] at *; show L.length - (k + 1) < L.length - k; omega)) | (refine InG.mk ?_; (simp only [decide_eq_true_eq] at *; rw [all_drop (by omega)] at hs; rw [show legalB (at_ L k) = true from d2] at hs; exact ⟨by omega, hs⟩)) | (refine CtG.mk ?_; (simp only [decide_eq_true_eq, decide_eq_false_iff_not] at *; first | (rw [List.drop_eq_nil_of_le (by omega)] at hs; cases hs; done) | (rw [all_drop (by omega)] at hs; rw [show legalB (at_ L k) = false from d2] at hs; cases hs; done))) | (first | rfl | exact ⟨rfl, rfl⟩ | ((try simp only [ek, Int.toNat_natCast, decide_eq_true_eq, decide_eq_false_iff_not] at *) <;> omega))
set_option maxRecDepth 100000 in
theorem tvalid_pure (p : Int) (L : List Con) (hn : L.length ≤ 1000) : PureC Tryz.prog [] 38 [.agg [.int .i64 p, roC L]] (.bool (val2M p L)) := by
  have rr := fun (tp : List Bool) (ms : List Prop) h hm => pure_run evOk (callF_ok evOk (orcOf_ok entsVS_ok) 8) Tryz.func38 (A := [.agg [.int .i64 p, roC L]]) (N := Nat.max 1 Tryz.f38.ntmps) rfl (one_ann (va_loop L hn)) rfl rfl evNg (tabs := []) (R := .bool (val2M p L)) (tp := tp) (ms := ms) h hm
  refine Or.elim (Bool.eq_false_or_eq_true (shapeM p (consR L.length fun i => (L.getD i Con.zero).rvs))) (fun d1 => Or.elim (Bool.eq_false_or_eq_true (L.all legalB)) (fun d2 => rr [false, true] [true = val2M p L, L.length = L.length ∧ (fun i => (L.getD i Con.zero).rvs) = fun i => (L.getD i Con.zero).rvs, (↑L.length : Int) = (↑L.length : Int), Dec (L.all legalB) true, Dec (!shapeM p (consR L.length fun i => (L.getD i Con.zero).rvs)) false, (∀ (i : Nat), i < L.length → (fun i => (L.getD i Con.zero).rvs) i = (Con.ofR ((fun i => (L.getD i Con.zero).rvs) i)).rvs) ∧ L.length ≤ (1000 : Nat)] (by kernel_rfl) ⟨?_, ?_, ?_, d2, (dN d1), (?_ : (∀ (i : Nat), i < L.length → (fun i => (L.getD i Con.zero).rvs) i = (Con.ofR ((fun i => (L.getD i Con.zero).rvs) i)).rvs) ∧ L.length ≤ (1000 : Nat))⟩)
           (fun d2 => rr [false, false] [false = val2M p L, L.length = L.length ∧ (fun i => (L.getD i Con.zero).rvs) = fun i => (L.getD i Con.zero).rvs, (↑L.length : Int) = (↑L.length : Int), Dec (L.all legalB) false, Dec (!shapeM p (consR L.length fun i => (L.getD i Con.zero).rvs)) false, (∀ (i : Nat), i < L.length → (fun i => (L.getD i Con.zero).rvs) i = (Con.ofR ((fun i => (L.getD i Con.zero).rvs) i)).rvs) ∧ L.length ≤ (1000 : Nat)] (by kernel_rfl) ⟨?_, ?_, ?_, d2, (dN d1), (?_ : (∀ (i : Nat), i < L.length → (fun i => (L.getD i Con.zero).rvs) i = (Con.ofR ((fun i => (L.getD i Con.zero).rvs) i)).rvs) ∧ L.length ≤ (1000 : Nat))⟩))
           (fun d1 => rr [true] [false = val2M p L, Dec (!shapeM p (consR L.length fun i => (L.getD i Con.zero).rvs)) true, (∀ (i : Nat), i < L.length → (fun i => (L.getD i Con.zero).rvs) i = (Con.ofR ((fun i => (L.getD i Con.zero).rvs) i)).rvs) ∧ L.length ≤ (1000 : Nat)] (by kernel_rfl) ⟨?_, (dN d1), (?_ : (∀ (i : Nat), i < L.length → (fun i => (L.getD i Con.zero).rvs) i = (Con.ofR ((fun i => (L.getD i Con.zero).rvs) i)).rvs) ∧ L.length ≤ (1000 : Nat))⟩)
  all_goals first | (first | (with_reducible rfl) | exact ⟨rfl, rfl⟩ | exact ⟨fun _ _ => rfl, hn⟩ | ((try simp only [consR_ro] at *) <;> first | trivial | (rw [val2_sh]; simp_all; done)))

/- Fused -/
def fusB (c : Con) : Bool := sgB c && fusC c
noncomputable def loH (p : Int) (L : List Con) : List (Nat × Blk) := [(1000, ⟨.plain [.vint .i64 p, (roC L).av], 24, 0, false, true⟩)]
noncomputable def f1Ann (p : Int) (L : List Con) : Ann := ⟨⟨[(1, .ptr 1000 0), (14, (roC L).av), (15, .vint .i64 L.length), (16, .int .i64 0)], loH p L, 1010⟩, some (L.all fusB), fun d => match d with
  | true => (.exit 0, ⟨[(1, .ptr 1000 0)], loH p L, 1010⟩)
  | false => (.ret, ⟨[(2, .bool false)], [], 1010⟩)⟩
theorem fusB_iff {c : Con} : fusB c = true ↔ (c.sign = 1 ∨ c.sign = -1) ∧ (0 ≤ c.oddity ∧ c.oddity ≤ 7) ∧ (c.odd = false → c.dim.tmod 2 = 0 ∧ c.oddity = 0) := by
  simp only [fusB, sgB, fusC, Bool.and_eq_true, decide_eq_true_eq, Bool.or_eq_true, tmod2]
  cases c.odd <;> simp
theorem fusB_no {c : Con} (h : ¬ ((c.sign = 1 ∨ c.sign = -1) ∧ (0 ≤ c.oddity ∧ c.oddity ≤ 7) ∧ (c.odd = false → c.dim.tmod 2 = 0 ∧ c.oddity = 0))) : fusB c = false := by
  cases hf : fusB c with
  | false => rfl
  | true => exact absurd (fusB_iff.1 hf) h
set_option maxRecDepth 100000 in
theorem f1_loop (p : Int) (L : List Con) (hn : L.length ≤ 1000) : AnnOk Tryz.prog EV.ng (Nat.max 1 Tryz.f35.ntmps) (bodyAt Tryz.f35 [0, 1, 0, 1, 1]) (f1Ann p L) := by
  refine ann_of evOk (callF_ok evOk (noOrc_ok _ _) 8) none_ann (by kernel_rfl) (by kernel_rfl) (fun i : Nat => (fun (k : Nat) => (⟨[(1, .ptr 1000 0), (14, (roC L).av), (15, .vint .i64 L.length), (16, .vint .i64 (k : Int))], loH p L, 1010⟩ : St)) i) (fun i : Nat => (fun (k : Nat) => (L.length - k : Nat)) i) (fun (d : Bool) (i : Nat) => (fun (k : Nat) => (k ≤ L.length ∧ (L.drop k).all fusB = d : Prop)) i) ?_ ?_
  · intro d hd
    exact ⟨(0), [L.length = L.length ∧ (fun i => (L.getD i Con.zero).rvs) = fun i => (L.getD i Con.zero).rvs, (↑L.length : Int) = (↑L.length : Int), (0 : Int) = (↑(0 : Nat) : Int), p = p, L.length = L.length ∧ (fun i => (L.getD i Con.zero).rvs) = fun i => (L.getD i Con.zero).rvs], by kernel_rfl, (by refine ⟨?_, ?_, ?_, ?_, (?_ : L.length = L.length ∧ (fun i => (L.getD i Con.zero).rvs) = fun i => (L.getD i Con.zero).rvs)⟩ <;> (first | rfl | assumption | omega | simp_all)), (by exact ⟨Nat.zero_le _, hd⟩)⟩
  · rintro d hd k hI
    cases d
    · -- d = false
      obtain ⟨hk, hs⟩ := hI
      have ek : IntKind.i64.wrap ((k : Int) + 1) = ((k + 1 : Nat) : Int) := by rw [w64 (by omega) (by omega)]; omega
      refine Or.elim (Bool.eq_false_or_eq_true (decide ((↑k : Int) < (↑L.length : Int)))) (fun d1 => Or.elim (Bool.eq_false_or_eq_true ((L.getD k Con.zero).sign == (1 : Int))) (fun d2 => Or.elim (Bool.eq_false_or_eq_true (decide ((L.getD k Con.zero).oddity < (0 : Int)))) (fun d3 => ⟨[true, false, true], .inr ⟨[Dec (decide ((L.getD k Con.zero).oddity < (0 : Int))) true, Dec ((L.getD k Con.zero).sign != (1 : Int)) false, (0 : Int) ≤ (↑k : Int) ∧ (↑k : Int) < (↑L.length : Int), Dec (decide ((↑k : Int) < (↑L.length : Int))) true], by kernel_rfl, ⟨d3, (dN d2), ?_, d1⟩, rfl⟩⟩)
           (fun d3 => Or.elim (Bool.eq_false_or_eq_true (decide ((L.getD k Con.zero).oddity > (7 : Int)))) (fun d4 => ⟨[true, false, false, true], .inr ⟨[Dec (decide ((L.getD k Con.zero).oddity > (7 : Int))) true, Dec (decide ((L.getD k Con.zero).oddity < (0 : Int))) false, Dec ((L.getD k Con.zero).sign != (1 : Int)) false, (0 : Int) ≤ (↑k : Int) ∧ (↑k : Int) < (↑L.length : Int), Dec (decide ((↑k : Int) < (↑L.length : Int))) true], by kernel_rfl, ⟨d4, d3, (dN d2), ?_, d1⟩, rfl⟩⟩)
           (fun d4 => Or.elim (Bool.eq_false_or_eq_true ((L.getD k Con.zero).odd)) (fun d5 => ⟨[true, false, false, false, false], .inl ⟨(k + 1), [L.length = L.length ∧ (fun i => (L.getD i Con.zero).rvs) = fun i => (L.getD i Con.zero).rvs, (↑L.length : Int) = (↑L.length : Int), IntKind.i64.wrap ((↑k : Int) + (1 : Int)) = (↑(k + (1 : Nat)) : Int), p = p, L.length = L.length ∧ (fun i => (L.getD i Con.zero).rvs) = fun i => (L.getD i Con.zero).rvs, Dec (!(L.getD k Con.zero).odd) false, Dec (decide ((L.getD k Con.zero).oddity > (7 : Int))) false, Dec (decide ((L.getD k Con.zero).oddity < (0 : Int))) false, Dec ((L.getD k Con.zero).sign != (1 : Int)) false, (0 : Int) ≤ (↑k : Int) ∧ (↑k : Int) < (↑L.length : Int), Dec (decide ((↑k : Int) < (↑L.length : Int))) true], by kernel_rfl, ⟨?_, ?_, ?_, ?_, ?_, (dN d5), d4, d3, (dN d2), ?_, d1⟩, MuG.out ?_, InG.out ?_⟩⟩)
           (fun d5 => Or.elim (Bool.eq_false_or_eq_true ((L.getD k Con.zero).dim.tmod (2 : Int) == (0 : Int))) (fun d6 => Or.elim (Bool.eq_false_or_eq_true ((L.getD k Con.zero).oddity == (0 : Int))) (fun d7 => ⟨[true, false, false, false, true, false, false], .inl ⟨(k + 1), [L.length = L.length ∧ (fun i => (L.getD i Con.zero).rvs) = fun i => (L.getD i Con.zero).rvs, (↑L.length : Int) = (↑L.length : Int), IntKind.i64.wrap ((↑k : Int) + (1 : Int)) = (↑(k + (1 : Nat)) : Int), p = p, L.length = L.length ∧ (fun i => (L.getD i Con.zero).rvs) = fun i => (L.getD i Con.zero).rvs, Dec ((L.getD k Con.zero).oddity != (0 : Int)) false, Dec ((L.getD k Con.zero).dim.tmod (2 : Int) != (0 : Int)) false, (2 : Int) ≠ (0 : Int), Dec (!(L.getD k Con.zero).odd) true, Dec (decide ((L.getD k Con.zero).oddity > (7 : Int))) false, Dec (decide ((L.getD k Con.zero).oddity < (0 : Int))) false, Dec ((L.getD k Con.zero).sign != (1 : Int)) false, (0 : Int) ≤ (↑k : Int) ∧ (↑k : Int) < (↑L.length : Int), Dec (decide ((↑k : Int) < (↑L.length : Int))) true], by kernel_rfl, ⟨?_, ?_, ?_, ?_, ?_, (dN d7), (dN d6), ?_, (dN d5), d4, d3, (dN d2), ?_, d1⟩, MuG.out ?_, InG.out ?_⟩⟩)
           (fun d7 => ⟨[true, false, false, false, true, false, true], .inr ⟨[Dec ((L.getD k Con.zero).oddity != (0 : Int)) true, Dec ((L.getD k Con.zero).dim.tmod (2 : Int) != (0 : Int)) false, (2 : Int) ≠ (0 : Int), Dec (!(L.getD k Con.zero).odd) true, Dec (decide ((L.getD k Con.zero).oddity > (7 : Int))) false, Dec (decide ((L.getD k Con.zero).oddity < (0 : Int))) false, Dec ((L.getD k Con.zero).sign != (1 : Int)) false, (0 : Int) ≤ (↑k : Int) ∧ (↑k : Int) < (↑L.length : Int), Dec (decide ((↑k : Int) < (↑L.length : Int))) true], by kernel_rfl, ⟨(dN d7), (dN d6), ?_, (dN d5), d4, d3, (dN d2), ?_, d1⟩, rfl⟩⟩))
           (fun d6 => ⟨[true, false, false, false, true, true], .inr ⟨[Dec ((L.getD k Con.zero).dim.tmod (2 : Int) != (0 : Int)) true, (2 : Int) ≠ (0 : Int), Dec (!(L.getD k Con.zero).odd) true, Dec (decide ((L.getD k Con.zero).oddity > (7 : Int))) false, Dec (decide ((L.getD k Con.zero).oddity < (0 : Int))) false, Dec ((L.getD k Con.zero).sign != (1 : Int)) false, (0 : Int) ≤ (↑k : Int) ∧ (↑k : Int) < (↑L.length : Int), Dec (decide ((↑k : Int) < (↑L.length : Int))) true], by kernel_rfl, ⟨(dN d6), ?_, (dN d5), d4, d3, (dN d2), ?_, d1⟩, rfl⟩⟩)))))
           (fun d2 => Or.elim (Bool.eq_false_or_eq_true ((L.getD k Con.zero).sign == (-1 : Int))) (fun d3 => Or.elim (Bool.eq_false_or_eq_true (decide ((L.getD k Con.zero).oddity < (0 : Int)))) (fun d4 => ⟨[true, true, false, true], .inr ⟨[Dec (decide ((L.getD k Con.zero).oddity < (0 : Int))) true, Dec ((L.getD k Con.zero).sign != (-1 : Int)) false, Dec ((L.getD k Con.zero).sign != (1 : Int)) true, (0 : Int) ≤ (↑k : Int) ∧ (↑k : Int) < (↑L.length : Int), Dec (decide ((↑k : Int) < (↑L.length : Int))) true], by kernel_rfl, ⟨d4, (dN d3), (dN d2), ?_, d1⟩, rfl⟩⟩)
           (fun d4 => Or.elim (Bool.eq_false_or_eq_true (decide ((L.getD k Con.zero).oddity > (7 : Int)))) (fun d5 => ⟨[true, true, false, false, true], .inr ⟨[Dec (decide ((L.getD k Con.zero).oddity > (7 : Int))) true, Dec (decide ((L.getD k Con.zero).oddity < (0 : Int))) false, Dec ((L.getD k Con.zero).sign != (-1 : Int)) false, Dec ((L.getD k Con.zero).sign != (1 : Int)) true, (0 : Int) ≤ (↑k : Int) ∧ (↑k : Int) < (↑L.length : Int), Dec (decide ((↑k : Int) < (↑L.length : Int))) true], by kernel_rfl, ⟨d5, d4, (dN d3), (dN d2), ?_, d1⟩, rfl⟩⟩)
           (fun d5 => Or.elim (Bool.eq_false_or_eq_true ((L.getD k Con.zero).odd)) (fun d6 => ⟨[true, true, false, false, false, false], .inl ⟨(k + 1), [L.length = L.length ∧ (fun i => (L.getD i Con.zero).rvs) = fun i => (L.getD i Con.zero).rvs, (↑L.length : Int) = (↑L.length : Int), IntKind.i64.wrap ((↑k : Int) + (1 : Int)) = (↑(k + (1 : Nat)) : Int), p = p, L.length = L.length ∧ (fun i => (L.getD i Con.zero).rvs) = fun i => (L.getD i Con.zero).rvs, Dec (!(L.getD k Con.zero).odd) false, Dec (decide ((L.getD k Con.zero).oddity > (7 : Int))) false, Dec (decide ((L.getD k Con.zero).oddity < (0 : Int))) false, Dec ((L.getD k Con.zero).sign != (-1 : Int)) false, Dec ((L.getD k Con.zero).sign != (1 : Int)) true, (0 : Int) ≤ (↑k : Int) ∧ (↑k : Int) < (↑L.length : Int), Dec (decide ((↑k : Int) < (↑L.length : Int))) true], by kernel_rfl, ⟨?_, ?_, ?_, ?_, ?_, (dN d6), d5, d4, (dN d3), (dN d2), ?_, d1⟩, MuG.out ?_, InG.out ?_⟩⟩)
           (fun d6 => Or.elim (Bool.eq_false_or_eq_true ((L.getD k Con.zero).dim.tmod (2 : Int) == (0 : Int))) (fun d7 => Or.elim (Bool.eq_false_or_eq_true ((L.getD k Con.zero).oddity == (0 : Int))) (fun d8 => ⟨[true, true, false, false, false, true, false, false], .inl ⟨(k + 1), [L.length = L.length ∧ (fun i => (L.getD i Con.zero).rvs) = fun i => (L.getD i Con.zero).rvs, (↑L.length : Int) = (↑L.length : Int), IntKind.i64.wrap ((↑k : Int) + (1 : Int)) = (↑(k + (1 : Nat)) : Int), p = p, L.length = L.length ∧ (fun i => (L.getD i Con.zero).rvs) = fun i => (L.getD i Con.zero).rvs, Dec ((L.getD k Con.zero).oddity != (0 : Int)) false, Dec ((L.getD k Con.zero).dim.tmod (2 : Int) != (0 : Int)) false, (2 : Int) ≠ (0 : Int), Dec (!(L.getD k Con.zero).odd) true, Dec (decide ((L.getD k Con.zero).oddity > (7 : Int))) false, Dec (decide ((L.getD k Con.zero).oddity < (0 : Int))) false, Dec ((L.getD k Con.zero).sign != (-1 : Int)) false, Dec ((L.getD k Con.zero).sign != (1 : Int)) true, (0 : Int) ≤ (↑k : Int) ∧ (↑k : Int) < (↑L.length : Int), Dec (decide ((↑k : Int) < (↑L.length : Int))) true], by kernel_rfl, ⟨?_, ?_, ?_, ?_, ?_, (dN d8), (dN d7), ?_, (dN d6), d5, d4, (dN d3), (dN d2), ?_, d1⟩, MuG.out ?_, InG.out ?_⟩⟩)
           (fun d8 => ⟨[true, true, false, false, false, true, false, true], .inr ⟨[Dec ((L.getD k Con.zero).oddity != (0 : Int)) true, Dec ((L.getD k Con.zero).dim.tmod (2 : Int) != (0 : Int)) false, (2 : Int) ≠ (0 : Int), Dec (!(L.getD k Con.zero).odd) true, Dec (decide ((L.getD k Con.zero).oddity > (7 : Int))) false, Dec (decide ((L.getD k Con.zero).oddity < (0 : Int))) false, Dec ((L.getD k Con.zero).sign != (-1 : Int)) false, Dec ((L.getD k Con.zero).sign != (1 : Int)) true, (0 : Int) ≤ (↑k : Int) ∧ (↑k : Int) < (↑L.length : Int), Dec (decide ((↑k : Int) < (↑L.length : Int))) true], by kernel_rfl, ⟨(dN d8), (dN d7), ?_, (dN d6), d5, d4, (dN d3), (dN d2), ?_, d1⟩, rfl⟩⟩))
           (fun d7 => ⟨[true, true, false, false, false, true, true], .inr ⟨[Dec ((L.getD k Con.zero).dim.tmod (2 : Int) != (0 : Int)) true, (2 : Int) ≠ (0 : Int), Dec (!(L.getD k Con.zero).odd) true, Dec (decide ((L.getD k Con.zero).oddity > (7 : Int))) false, Dec (decide ((L.getD k Con.zero).oddity < (0 : Int))) false, Dec ((L.getD k Con.zero).sign != (-1 : Int)) false, Dec ((L.getD k Con.zero).sign != (1 : Int)) true, (0 : Int) ≤ (↑k : Int) ∧ (↑k : Int) < (↑L.length : Int), Dec (decide ((↑k : Int) < (↑L.length : Int))) true], by kernel_rfl, ⟨(dN d7), ?_, (dN d6), d5, d4, (dN d3), (dN d2), ?_, d1⟩, rfl⟩⟩)))))
           (fun d3 => ⟨[true, true, true], .inr ⟨[Dec ((L.getD k Con.zero).sign != (-1 : Int)) true, Dec ((L.getD k Con.zero).sign != (1 : Int)) true, (0 : Int) ≤ (↑k : Int) ∧ (↑k : Int) < (↑L.length : Int), Dec (decide ((↑k : Int) < (↑L.length : Int))) true], by kernel_rfl, ⟨(dN d3), (dN d2), ?_, d1⟩, rfl⟩⟩)))
           (fun d1 => CtG.no ?_)
      all_goals first | (refine MuG.mk ?_; (simp only [decide_eq_true_eq] at *; show L.length - (k + 1) < L.length - k; omega)) | (refine InG.mk ?_; (simp only [decide_eq_true_eq, decide_eq_false_iff_not, Int.toNat_natCast, beq_iff_eq, beq_eq_false_iff_ne, ne_eq, gt_iff_lt] at *; rw [all_drop (by omega)] at hs; rw [show fusB (at_ L k) = true from fusB_iff.2 (by simp only [at_]; refine ⟨?_, ?_, ?_⟩ <;> first | omega | (intro ho; simp_all; done) | (simp_all; done))] at hs; exact ⟨by omega, hs⟩)) | (refine CtG.mk ?_; (simp only [decide_eq_true_eq, decide_eq_false_iff_not, Int.toNat_natCast, beq_iff_eq, beq_eq_false_iff_ne, ne_eq, gt_iff_lt] at *; first | (rw [List.drop_eq_nil_of_le (by omega)] at hs; cases hs; done) | (rw [all_drop (by omega)] at hs; rw [show fusB (at_ L k) = false from fusB_no (by simp only [at_]; first | (intro hq; omega) | (rintro ⟨q1, q2, q3⟩; have q4 := q3 (by assumption); first | omega | (simp_all; done)))] at hs; cases hs; done))) | (first | (with_reducible rfl) | exact ⟨rfl, rfl⟩ | decide | ((try simp only [ek, Int.toNat_natCast, decide_eq_true_eq, decide_eq_false_iff_not] at *) <;> omega))
    · -- d = true
      obtain ⟨hk, hs⟩ := hI
      have ek : IntKind.i64.wrap ((k : Int) + 1) = ((k + 1 : Nat) : Int) := by rw [w64 (by omega) (by omega)]; omega
      refine Or.elim (Bool.eq_false_or_eq_true (decide ((↑k : Int) < (↑L.length : Int)))) (fun d1 => Or.elim (Bool.eq_false_or_eq_true ((L.getD k Con.zero).sign == (1 : Int))) (fun d2 => Or.elim (Bool.eq_false_or_eq_true (decide ((L.getD k Con.zero).oddity < (0 : Int)))) (fun d3 => CtG.no ?_)
           (fun d3 => Or.elim (Bool.eq_false_or_eq_true (decide ((L.getD k Con.zero).oddity > (7 : Int)))) (fun d4 => CtG.no ?_)
           (fun d4 => Or.elim (Bool.eq_false_or_eq_true ((L.getD k Con.zero).odd)) (fun d5 => ⟨[true, false, false, false, false], .inl ⟨(k + 1), [L.length = L.length ∧ (fun i => (L.getD i Con.zero).rvs) = fun i => (L.getD i Con.zero).rvs, (↑L.length : Int) = (↑L.length : Int), IntKind.i64.wrap ((↑k : Int) + (1 : Int)) = (↑(k + (1 : Nat)) : Int), p = p, L.length = L.length ∧ (fun i => (L.getD i Con.zero).rvs) = fun i => (L.getD i Con.zero).rvs, Dec (!(L.getD k Con.zero).odd) false, Dec (decide ((L.getD k Con.zero).oddity > (7 : Int))) false, Dec (decide ((L.getD k Con.zero).oddity < (0 : Int))) false, Dec ((L.getD k Con.zero).sign != (1 : Int)) false, (0 : Int) ≤ (↑k : Int) ∧ (↑k : Int) < (↑L.length : Int), Dec (decide ((↑k : Int) < (↑L.length : Int))) true], by kernel_rfl, ⟨?_, ?_, ?_, ?_, ?_, (dN d5), d4, d3, (dN d2), ?_, d1⟩, MuG.out ?_, InG.out ?_⟩⟩)
           (fun d5 => Or.elim (Bool.eq_false_or_eq_true ((L.getD k Con.zero).dim.tmod (2 : Int) == (0 : Int))) (fun d6 => Or.elim (Bool.eq_false_or_eq_true ((L.getD k Con.zero).oddity == (0 : Int))) (fun d7 => ⟨[true, false, false, false, true, false, false], .inl ⟨(k + 1), [L.length = L.length ∧ (fun i => (L.getD i Con.zero).rvs) = fun i => (L.getD i Con.zero).rvs, (↑L.length : Int) = (↑L.length : Int), IntKind.i64.wrap ((↑k : Int) + (1 : Int)) = (↑(k + (1 : Nat)) : Int), p = p, L.length = L.length ∧ (fun i => (L.getD i Con.zero).rvs) = fun i => (L.getD i Con.zero).rvs, Dec ((L.getD k Con.zero).oddity != (0 : Int)) false, Dec ((L.getD k Con.zero).dim.tmod (2 : Int) != (0 : Int)) false, (2 : Int) ≠ (0 : Int), Dec (!(L.getD k Con.zero).odd) true, Dec (decide ((L.getD k Con.zero).oddity > (7 : Int))) false, Dec (decide ((L.getD k Con.zero).oddity < (0 : Int))) false, Dec ((L.getD k Con.zero).sign != (1 : Int)) false, (0 : Int) ≤ (↑k : Int) ∧ (↑k : Int) < (↑L.length : Int), Dec (decide ((↑k : Int) < (↑L.length : Int))) true], by kernel_rfl, ⟨?_, ?_, ?_, ?_, ?_, (dN d7), (dN d6), ?_, (dN d5), d4, d3, (dN d2), ?_, d1⟩, MuG.out ?_, InG.out ?_⟩⟩)
           (fun d7 => CtG.no ?_))
           (fun d6 => CtG.no ?_)))))
           (fun d2 => Or.elim (Bool.eq_false_or_eq_true ((L.getD k Con.zero).sign == (-1 : Int))) (fun d3 => Or.elim (Bool.eq_false_or_eq_true (decide ((L.getD k Con.zero).oddity < (0 : Int)))) (fun d4 => CtG.no ?_)
           (fun d4 => Or.elim (Bool.eq_false_or_eq_true (decide ((L.getD k Con.zero).oddity > (7 : Int)))) (fun d5 => CtG.no ?_)
           (fun d5 => Or.elim (Bool.eq_false_or_eq_true ((L.getD k Con.zero).odd)) (fun d6 => ⟨[true, true, false, false, false, false], .inl ⟨(k + 1), [L.length = L.length ∧ (fun i => (L.getD i Con.zero).rvs) = fun i => (L.getD i Con.zero).rvs, (↑L.length : Int) = (↑L.length : Int), IntKind.i64.wrap ((↑k : Int) + (1 : Int)) = (↑(k + (1 : Nat)) : Int), p = p, L.length = L.length ∧ (fun i => (L.getD i Con.zero).rvs) = fun i => (L.getD i Con.zero).rvs, Dec (!(L.getD k Con.zero).odd) false, Dec (decide ((L.getD k Con.zero).oddity > (7 : Int))) false, Dec (decide ((L.getD k Con.zero).oddity < (0 : Int))) false, Dec ((L.getD k Con.zero).sign != (-1 : Int)) false, Dec ((L.getD k Con.zero).sign != (1 : Int)) true, (0 : Int) ≤ (↑k : Int) ∧ (↑k : Int) < (↑L.length : Int), Dec (decide ((↑k : Int) < (↑L.length : Int))) true], by kernel_rfl, ⟨?_, ?_, ?_, ?_, ?_, (dN d6), d5, d4, (dN d3), (dN d2), ?_, d1⟩, MuG.out ?_, InG.out ?_⟩⟩)
           (fun d6 => Or.elim (Bool.eq_false_or_eq_true ((L.getD k Con.zero).dim.tmod (2 : Int) == (0 : Int))) (fun d7 => Or.elim (Bool.eq_false_or_eq_true ((L.getD k Con.zero).oddity == (0 : Int))) (fun d8 => ⟨[true, true, false, false, false, true, false, false], .inl ⟨(k + 1), [L.length = L.length ∧ (fun i => (L.getD i Con.zero).rvs) = fun i => (L.getD i Con.zero).rvs, (↑L.length : Int) = (↑L.length : Int), IntKind.i64.wrap ((↑k : Int) + (1 : Int)) = (↑(k + (1 : Nat)) : Int), p = p, L.length = L.length ∧ (fun i => (L.getD i Con.zero).rvs) = fun i => (L.getD i Con.zero).rvs, Dec ((L.getD k Con.zero).oddity != (0 : Int)) false, Dec ((L.getD k Con.zero).dim.tmod (2 : Int) != (0 : Int)) false, (2 : Int) ≠ (0 : Int), Dec (!(L.getD k Con.zero).odd) true, Dec (decide ((L.getD k Con.zero).oddity > (7 : Int))) false, Dec (decide ((L.getD k Con.zero).oddity < (0 : Int))) false, Dec ((L.getD k Con.zero).sign != (-1 : Int)) false, Dec ((L.getD k Con.zero).sign != (1 : Int)) true, (0 : Int) ≤ (↑k : Int) ∧ (↑k : Int) < (↑L.length : Int), Dec (decide ((↑k : Int) < (↑L.length : Int))) true], by kernel_rfl, ⟨?_, ?_, ?_, ?_, ?_, (dN d8), (dN d7), ?_, (dN d6), d5, d4, (dN d3), (dN d2), ?_, d1⟩, MuG.out ?_, InG.out ?_⟩⟩)
           (fun d8 => CtG.no ?_))
           (fun d7 => CtG.no ?_)))))
           (fun d3 => CtG.no ?_)))
           (fun d1 => ⟨[false], .inr ⟨[p = p, L.length = L.length ∧ (fun i => (L.getD i Con.zero).rvs) = fun i => (L.getD i Con.zero).rvs, Dec (decide ((↑k : Int) < (↑L.length : Int))) false], by kernel_rfl, ⟨?_, ?_, d1⟩, rfl⟩⟩)
      all_goals first | (refine MuG.mk ?_; (simp only [decide_eq_true_eq] at *; show L.length - (k + 1) < L.length - k; omega)) | (refine InG.mk ?_; (simp only [decide_eq_true_eq, decide_eq_false_iff_not, Int.toNat_natCast, beq_iff_eq, beq_eq_false_iff_ne, ne_eq, gt_iff_lt] at *; rw [all_drop (by omega)] at hs; rw [show fusB (at_ L k) = true from fusB_iff.2 (by simp only [at_]; refine ⟨?_, ?_, ?_⟩ <;> first | omega | (intro ho; simp_all; done) | (simp_all; done))] at hs; exact ⟨by omega, hs⟩)) | (refine CtG.mk ?_; (simp only [decide_eq_true_eq, decide_eq_false_iff_not, Int.toNat_natCast, beq_iff_eq, beq_eq_false_iff_ne, ne_eq, gt_iff_lt] at *; first | (rw [List.drop_eq_nil_of_le (by omega)] at hs; cases hs; done) | (rw [all_drop (by omega)] at hs; rw [show fusB (at_ L k) = false from fusB_no (by simp only [at_]; first | (intro hq; omega) | (rintro ⟨q1, q2, q3⟩; have q4 := q3 (by assumption); first | omega | (simp_all; done)))] at hs; cases hs; done))) | (first | (with_reducible rfl) | exact ⟨rfl, rfl⟩ | decide | ((try simp only [ek, Int.toNat_natCast, decide_eq_true_eq, decide_eq_false_iff_not] at *) <;> omega))

theorem dimR_b {L : List Con} (hL : okL L) : ∀ {l : List Int}, inR L.length l → 0 ≤ dimR L l ∧ dimR L l ≤ 1000 * l.length
  | [], _ => by simp [dimR]
  | i :: l, h => by
    have h1 := h i (by simp)
    have h2 := (hL.at (k := i.toNat) (by omega)).2.1
    have ih := dimR_b hL (l := l) (fun x hx => h x (by simp [hx]))
    simp only [dimR, List.length_cons]
    omega
theorem dimR_app (L : List Con) (a b : List Int) : dimR L (a ++ b) = dimR L a + dimR L b := by
  induction a with
  | nil => simp [dimR]
  | cons c a ih => simp only [List.cons_append, dimR, ih]; omega
theorem dimR_take {L : List Con} {l : List Int} {t : Nat} (ht : t < l.length) : dimR L (l.take (t + 1)) = dimR L (l.take t) + (at_ L (l.getD t 0).toNat).dim := by
  rw [take_int ht, dimR_app]; simp [dimR]
theorem dim_b {L : List Con} {l : List Int} {t : Nat} (hL : okL L) (hl : inR L.length l) (ht : t < l.length) : 0 ≤ (at_ L (l.getD t 0).toNat).dim ∧ (at_ L (l.getD t 0).toNat).dim ≤ 1000 := by
  have h1 := hl.at ht
  have := (hL.at (k := (l.getD t 0).toNat) (by omega)).2.1
  omega
/- whether the oddities behind the first vanish, from t on -/
def zerD (L : List Con) (l : List Int) (t : Nat) : Bool := (l.drop (Nat.max t 1)).all fun i => (at_ L i.toNat).oddity == 0
theorem zerD_0 {L : List Con} {l : List Int} : zerD L l 0 = zerR L l := by unfold zerD zerR; rw [show Nat.max 0 1 = 1 from rfl, List.drop_one]
theorem zerD_1 {L : List Con} {l : List Int} {t : Nat} (h : ¬ 0 < t) : zerD L l (t + 1) = zerD L l t := by
  have : t = 0 := by omega
  subst this; rfl
theorem zerD_s {L : List Con} {l : List Int} {t : Nat} (h : 0 < t) (ht : t < l.length) : zerD L l t = ((at_ L (l.getD t 0).toNat).oddity == 0 && zerD L l (t + 1)) := by
  unfold zerD
  rw [show Nat.max t 1 = t by simp only [Nat.max_def]; split <;> omega, show Nat.max (t + 1) 1 = t + 1 by simp only [Nat.max_def]; split <;> omega, drop_int ht]; rfl
theorem zerD_e {L : List Con} {l : List Int} {t : Nat} (ht : l.length ≤ t) : zerD L l t = true := by
  unfold zerD
  rw [List.drop_eq_nil_of_le (by simp only [Nat.max_def]; split <;> omega)]; rfl
noncomputable def f3T (P : List (List Int)) (j : Nat) : List (Nat × AV) := [(1, .ptr 1000 0), (54, (roR .i64 P).av), (55, .vint .i64 P.length), (56, .vint .i64 (j : Int)), (6, (rI .i64 (rowAt P j)).av)]
noncomputable def f3Ann (p : Int) (L : List Con) (P : List (List Int)) (j : Nat) : Ann := ⟨⟨f3T P j ++ [(7, .int .i64 0), (60, (rI .i64 (rowAt P j)).av), (61, .vint .i64 (rowAt P j).length), (62, .int .i64 0)], loH p L, 1010⟩, some (zerR L (rowAt P j)), fun d => match d with
  | true => (.exit 4, ⟨f3T P j ++ [(7, .vint .i64 (dimR L (rowAt P j)))], loH p L, 1010⟩)
  | false => (.ret, ⟨[(2, .bool false)], [], 1010⟩)⟩
set_option maxRecDepth 100000 in
theorem f3_loop (p : Int) (L : List Con) (P : List (List Int)) (j : Nat) (hL : okL L) (hr : inR L.length (rowAt P j)) (hn : (rowAt P j).length ≤ 1000) : AnnOk Tryz.prog EV.ng (Nat.max 1 Tryz.f35.ntmps) (bodyAt Tryz.f35 [0, 1, 0, 1, 1, 0, 0, 1, 1, 0, 0, 1, 0, 1, 1, 1]) (f3Ann p L P j) := by
  refine ann_of evOk (callF_ok evOk (noOrc_ok _ _) 8) none_ann (by kernel_rfl) (by kernel_rfl) (fun i : Nat × Int => (fun (t : Nat) (n : Int) => (⟨f3T P j ++ [(7, .vint .i64 n), (60, (rI .i64 (rowAt P j)).av), (61, .vint .i64 (rowAt P j).length), (62, .vint .i64 (t : Int))], loH p L, 1010⟩ : St)) i.1 i.2) (fun i : Nat × Int => (fun (t : Nat) (n : Int) => ((rowAt P j).length - t : Nat)) i.1 i.2) (fun (d : Bool) (i : Nat × Int) => (fun (t : Nat) (n : Int) => (t ≤ (rowAt P j).length ∧ n = dimR L ((rowAt P j).take t) ∧ zerD L (rowAt P j) t = d : Prop)) i.1 i.2) ?_ ?_
  · intro d hd
    exact ⟨(0, 0), [P.length = P.length ∧ (fun i => [rI IntKind.i64 (P.getD i [])]) = fun i => [rI IntKind.i64 (P.getD i [])], (↑P.length : Int) = (↑P.length : Int), (↑j : Int) = (↑j : Int), (rowAt P j).length = (rowAt P j).length ∧ (fun j_1 => [RV.int IntKind.i64 ((rowAt P j).getD j_1 (0 : Int))]) = fun j_1 => [RV.int IntKind.i64 ((rowAt P j).getD j_1 (0 : Int))], (0 : Int) = (0 : Int), (rowAt P j).length = (rowAt P j).length ∧ (fun j_1 => [RV.int IntKind.i64 ((rowAt P j).getD j_1 (0 : Int))]) = fun j_1 => [RV.int IntKind.i64 ((rowAt P j).getD j_1 (0 : Int))], (↑(rowAt P j).length : Int) = (↑(rowAt P j).length : Int), (0 : Int) = (↑(0 : Nat) : Int), p = p, L.length = L.length ∧ (fun i => (L.getD i Con.zero).rvs) = fun i => (L.getD i Con.zero).rvs], by kernel_rfl, (by refine ⟨?_, ?_, ?_, ?_, ?_, ?_, ?_, ?_, ?_, (?_ : L.length = L.length ∧ (fun i => (L.getD i Con.zero).rvs) = fun i => (L.getD i Con.zero).rvs)⟩ <;> (first | rfl | assumption | omega | simp_all)), (by exact ⟨Nat.zero_le _, rfl, zerD_0.trans hd⟩)⟩
  · rintro d hd ⟨t, n⟩ hI
    cases d
    · -- d = false
      obtain ⟨ht, hs, hz⟩ := hI
      have ht : t ≤ (rowAt P j).length := ht
      have hs : n = dimR L ((rowAt P j).take t) := hs
      have ek : IntKind.i64.wrap ((t : Int) + 1) = ((t + 1 : Nat) : Int) := by rw [w64 (by omega) (by omega)]; omega
      have hb := dimR_b hL (l := (rowAt P j).take t) (fun x hx => hr x (List.mem_of_mem_take hx))
      have hb2 : (((rowAt P j).take t).length : Int) ≤ 1000 := by simp only [List.length_take]; omega
      refine Or.elim (Bool.eq_false_or_eq_true (decide ((↑t : Int) < (↑(rowAt P j).length : Int)))) (fun d1 => Or.elim (Bool.eq_false_or_eq_true (decide ((↑t : Int) > (0 : Int)))) (fun d2 => Or.elim (Bool.eq_false_or_eq_true ((L.getD ((rowAt P j).getD t (0 : Int)).toNat Con.zero).oddity == (0 : Int))) (fun d3 => ⟨[true, true, false], .inl ⟨(t + 1, n + (at_ L ((rowAt P j).getD t 0).toNat).dim), [P.length = P.length ∧ (fun i => [rI IntKind.i64 (P.getD i [])]) = fun i => [rI IntKind.i64 (P.getD i [])], (↑P.length : Int) = (↑P.length : Int), (↑j : Int) = (↑j : Int), (rowAt P j).length = (rowAt P j).length ∧ (fun j_1 => [RV.int IntKind.i64 ((rowAt P j).getD j_1 (0 : Int))]) = fun j_1 => [RV.int IntKind.i64 ((rowAt P j).getD j_1 (0 : Int))], IntKind.i64.wrap (n + (L.getD ((rowAt P j).getD t (0 : Int)).toNat Con.zero).dim) = n + (at_ L ((rowAt P j).getD t (0 : Int)).toNat).dim, (rowAt P j).length = (rowAt P j).length ∧ (fun j_1 => [RV.int IntKind.i64 ((rowAt P j).getD j_1 (0 : Int))]) = fun j_1 => [RV.int IntKind.i64 ((rowAt P j).getD j_1 (0 : Int))], (↑(rowAt P j).length : Int) = (↑(rowAt P j).length : Int), IntKind.i64.wrap ((↑t : Int) + (1 : Int)) = (↑(t + (1 : Nat)) : Int), p = p, L.length = L.length ∧ (fun i => (L.getD i Con.zero).rvs) = fun i => (L.getD i Con.zero).rvs, Dec ((L.getD ((rowAt P j).getD t (0 : Int)).toNat Con.zero).oddity != (0 : Int)) false, (0 : Int) ≤ (rowAt P j).getD t (0 : Int) ∧ (rowAt P j).getD t (0 : Int) < (↑L.length : Int), Dec (decide ((↑t : Int) > (0 : Int))) true, (0 : Int) ≤ (rowAt P j).getD t (0 : Int) ∧ (rowAt P j).getD t (0 : Int) < (↑L.length : Int), (0 : Int) ≤ (↑t : Int) ∧ (↑t : Int) < (↑(rowAt P j).length : Int), Dec (decide ((↑t : Int) < (↑(rowAt P j).length : Int))) true], by kernel_rfl, ⟨?_, ?_, ?_, ?_, ?_, ?_, ?_, ?_, ?_, ?_, (dN d3), ?_, d2, ?_, ?_, d1⟩, MuG.out ?_, InG.out ?_⟩⟩)
           (fun d3 => ⟨[true, true, true], .inr ⟨[Dec ((L.getD ((rowAt P j).getD t (0 : Int)).toNat Con.zero).oddity != (0 : Int)) true, (0 : Int) ≤ (rowAt P j).getD t (0 : Int) ∧ (rowAt P j).getD t (0 : Int) < (↑L.length : Int), Dec (decide ((↑t : Int) > (0 : Int))) true, (0 : Int) ≤ (rowAt P j).getD t (0 : Int) ∧ (rowAt P j).getD t (0 : Int) < (↑L.length : Int), (0 : Int) ≤ (↑t : Int) ∧ (↑t : Int) < (↑(rowAt P j).length : Int), Dec (decide ((↑t : Int) < (↑(rowAt P j).length : Int))) true], by kernel_rfl, ⟨(dN d3), ?_, d2, ?_, ?_, d1⟩, rfl⟩⟩))
           (fun d2 => ⟨[true, false], .inl ⟨(t + 1, n + (at_ L ((rowAt P j).getD t 0).toNat).dim), [P.length = P.length ∧ (fun i => [rI IntKind.i64 (P.getD i [])]) = fun i => [rI IntKind.i64 (P.getD i [])], (↑P.length : Int) = (↑P.length : Int), (↑j : Int) = (↑j : Int), (rowAt P j).length = (rowAt P j).length ∧ (fun j_1 => [RV.int IntKind.i64 ((rowAt P j).getD j_1 (0 : Int))]) = fun j_1 => [RV.int IntKind.i64 ((rowAt P j).getD j_1 (0 : Int))], IntKind.i64.wrap (n + (L.getD ((rowAt P j).getD t (0 : Int)).toNat Con.zero).dim) = n + (at_ L ((rowAt P j).getD t (0 : Int)).toNat).dim, (rowAt P j).length = (rowAt P j).length ∧ (fun j_1 => [RV.int IntKind.i64 ((rowAt P j).getD j_1 (0 : Int))]) = fun j_1 => [RV.int IntKind.i64 ((rowAt P j).getD j_1 (0 : Int))], (↑(rowAt P j).length : Int) = (↑(rowAt P j).length : Int), IntKind.i64.wrap ((↑t : Int) + (1 : Int)) = (↑(t + (1 : Nat)) : Int), p = p, L.length = L.length ∧ (fun i => (L.getD i Con.zero).rvs) = fun i => (L.getD i Con.zero).rvs, Dec (decide ((↑t : Int) > (0 : Int))) false, (0 : Int) ≤ (rowAt P j).getD t (0 : Int) ∧ (rowAt P j).getD t (0 : Int) < (↑L.length : Int), (0 : Int) ≤ (↑t : Int) ∧ (↑t : Int) < (↑(rowAt P j).length : Int), Dec (decide ((↑t : Int) < (↑(rowAt P j).length : Int))) true], by kernel_rfl, ⟨?_, ?_, ?_, ?_, ?_, ?_, ?_, ?_, ?_, ?_, d2, ?_, ?_, d1⟩, MuG.out ?_, InG.out ?_⟩⟩))
           (fun d1 => CtG.no ?_)
      all_goals first | (refine MuG.mk ?_; (simp only [decide_eq_true_eq] at *; show (rowAt P j).length - (t + 1) < (rowAt P j).length - t; omega)) | (refine InG.mk ?_; (simp only [decide_eq_true_eq, decide_eq_false_iff_not, Int.toNat_natCast, gt_iff_lt] at *; refine ⟨by omega, by rw [dimR_take (by omega), hs], ?_⟩; first | (show zerD L (rowAt P j) (t + 1) = _; rw [zerD_1 (by omega)]; exact hz) | (rw [zerD_s (by omega) (by omega), show ((at_ L ((rowAt P j).getD t 0).toNat).oddity == 0) = true from d3] at hz; exact hz))) | (refine CtG.mk ?_; (simp only [decide_eq_true_eq, decide_eq_false_iff_not, Int.toNat_natCast, gt_iff_lt] at *; first | (rw [zerD_e (by omega)] at hz; cases hz; done) | (rw [zerD_s (by omega) (by omega), show ((at_ L ((rowAt P j).getD t 0).toNat).oddity == 0) = false from d3] at hz; cases hz; done))) | (first | (with_reducible rfl) | exact ⟨rfl, rfl⟩ | ((try simp only [ek, Int.toNat_natCast, decide_eq_true_eq, decide_eq_false_iff_not, gt_iff_lt] at *) <;> first | omega | (have h1 := hr.at (t := t) (by omega); omega) | (have h2 := dim_b (t := t) hL hr (by omega); simp only [at_] at h2 ⊢; exact w64 (by omega) (by omega)) | (rw [hs, List.take_of_length_le (by omega)]; done)))
    · -- d = true
      obtain ⟨ht, hs, hz⟩ := hI
      have ht : t ≤ (rowAt P j).length := ht
      have hs : n = dimR L ((rowAt P j).take t) := hs
      have ek : IntKind.i64.wrap ((t : Int) + 1) = ((t + 1 : Nat) : Int) := by rw [w64 (by omega) (by omega)]; omega
      have hb := dimR_b hL (l := (rowAt P j).take t) (fun x hx => hr x (List.mem_of_mem_take hx))
      have hb2 : (((rowAt P j).take t).length : Int) ≤ 1000 := by simp only [List.length_take]; omega
      refine Or.elim (Bool.eq_false_or_eq_true (decide ((↑t : Int) < (↑(rowAt P j).length : Int)))) (fun d1 => Or.elim (Bool.eq_false_or_eq_true (decide ((↑t : Int) > (0 : Int)))) (fun d2 => Or.elim (Bool.eq_false_or_eq_true ((L.getD ((rowAt P j).getD t (0 : Int)).toNat Con.zero).oddity == (0 : Int))) (fun d3 => ⟨[true, true, false], .inl ⟨(t + 1, n + (at_ L ((rowAt P j).getD t 0).toNat).dim), [P.length = P.length ∧ (fun i => [rI IntKind.i64 (P.getD i [])]) = fun i => [rI IntKind.i64 (P.getD i [])], (↑P.length : Int) = (↑P.length : Int), (↑j : Int) = (↑j : Int), (rowAt P j).length = (rowAt P j).length ∧ (fun j_1 => [RV.int IntKind.i64 ((rowAt P j).getD j_1 (0 : Int))]) = fun j_1 => [RV.int IntKind.i64 ((rowAt P j).getD j_1 (0 : Int))], IntKind.i64.wrap (n + (L.getD ((rowAt P j).getD t (0 : Int)).toNat Con.zero).dim) = n + (at_ L ((rowAt P j).getD t (0 : Int)).toNat).dim, (rowAt P j).length = (rowAt P j).length ∧ (fun j_1 => [RV.int IntKind.i64 ((rowAt P j).getD j_1 (0 : Int))]) = fun j_1 => [RV.int IntKind.i64 ((rowAt P j).getD j_1 (0 : Int))], (↑(rowAt P j).length : Int) = (↑(rowAt P j).length : Int), IntKind.i64.wrap ((↑t : Int) + (1 : Int)) = (↑(t + (1 : Nat)) : Int), p = p, L.length = L.length ∧ (fun i => (L.getD i Con.zero).rvs) = fun i => (L.getD i Con.zero).rvs, Dec ((L.getD ((rowAt P j).getD t (0 : Int)).toNat Con.zero).oddity != (0 : Int)) false, (0 : Int) ≤ (rowAt P j).getD t (0 : Int) ∧ (rowAt P j).getD t (0 : Int) < (↑L.length : Int), Dec (decide ((↑t : Int) > (0 : Int))) true, (0 : Int) ≤ (rowAt P j).getD t (0 : Int) ∧ (rowAt P j).getD t (0 : Int) < (↑L.length : Int), (0 : Int) ≤ (↑t : Int) ∧ (↑t : Int) < (↑(rowAt P j).length : Int), Dec (decide ((↑t : Int) < (↑(rowAt P j).length : Int))) true], by kernel_rfl, ⟨?_, ?_, ?_, ?_, ?_, ?_, ?_, ?_, ?_, ?_, (dN d3), ?_, d2, ?_, ?_, d1⟩, MuG.out ?_, InG.out ?_⟩⟩)
           (fun d3 => CtG.no ?_))
           (fun d2 => ⟨[true, false], .inl ⟨(t + 1, n + (at_ L ((rowAt P j).getD t 0).toNat).dim), [P.length = P.length ∧ (fun i => [rI IntKind.i64 (P.getD i [])]) = fun i => [rI IntKind.i64 (P.getD i [])], (↑P.length : Int) = (↑P.length : Int), (↑j : Int) = (↑j : Int), (rowAt P j).length = (rowAt P j).length ∧ (fun j_1 => [RV.int IntKind.i64 ((rowAt P j).getD j_1 (0 : Int))]) = fun j_1 => [RV.int IntKind.i64 ((rowAt P j).getD j_1 (0 : Int))], IntKind.i64.wrap (n + (L.getD ((rowAt P j).getD t (0 : Int)).toNat Con.zero).dim) = n + (at_ L ((rowAt P j).getD t (0 : Int)).toNat).dim, (rowAt P j).length = (rowAt P j).length ∧ (fun j_1 => [RV.int IntKind.i64 ((rowAt P j).getD j_1 (0 : Int))]) = fun j_1 => [RV.int IntKind.i64 ((rowAt P j).getD j_1 (0 : Int))], (↑(rowAt P j).length : Int) = (↑(rowAt P j).length : Int), IntKind.i64.wrap ((↑t : Int) + (1 : Int)) = (↑(t + (1 : Nat)) : Int), p = p, L.length = L.length ∧ (fun i => (L.getD i Con.zero).rvs) = fun i => (L.getD i Con.zero).rvs, Dec (decide ((↑t : Int) > (0 : Int))) false, (0 : Int) ≤ (rowAt P j).getD t (0 : Int) ∧ (rowAt P j).getD t (0 : Int) < (↑L.length : Int), (0 : Int) ≤ (↑t : Int) ∧ (↑t : Int) < (↑(rowAt P j).length : Int), Dec (decide ((↑t : Int) < (↑(rowAt P j).length : Int))) true], by kernel_rfl, ⟨?_, ?_, ?_, ?_, ?_, ?_, ?_, ?_, ?_, ?_, d2, ?_, ?_, d1⟩, MuG.out ?_, InG.out ?_⟩⟩))
           (fun d1 => ⟨[false], .inr ⟨[P.length = P.length ∧ (fun i => [rI IntKind.i64 (P.getD i [])]) = fun i => [rI IntKind.i64 (P.getD i [])], (↑P.length : Int) = (↑P.length : Int), (↑j : Int) = (↑j : Int), (rowAt P j).length = (rowAt P j).length ∧ (fun j_1 => [RV.int IntKind.i64 ((rowAt P j).getD j_1 (0 : Int))]) = fun j_1 => [RV.int IntKind.i64 ((rowAt P j).getD j_1 (0 : Int))], n = dimR L (rowAt P j), p = p, L.length = L.length ∧ (fun i => (L.getD i Con.zero).rvs) = fun i => (L.getD i Con.zero).rvs, Dec (decide ((↑t : Int) < (↑(rowAt P j).length : Int))) false], by kernel_rfl, ⟨?_, ?_, ?_, ?_, ?_, ?_, ?_, d1⟩, rfl⟩⟩)
      all_goals first | (refine MuG.mk ?_; (simp only [decide_eq_true_eq] at *; show (rowAt P j).length - (t + 1) < (rowAt P j).length - t; omega)) | (refine InG.mk ?_; (simp only [decide_eq_true_eq, decide_eq_false_iff_not, Int.toNat_natCast, gt_iff_lt] at *; refine ⟨by omega, by rw [dimR_take (by omega), hs], ?_⟩; first | (show zerD L (rowAt P j) (t + 1) = _; rw [zerD_1 (by omega)]; exact hz) | (rw [zerD_s (by omega) (by omega), show ((at_ L ((rowAt P j).getD t 0).toNat).oddity == 0) = true from d3] at hz; exact hz))) | (refine CtG.mk ?_; (simp only [decide_eq_true_eq, decide_eq_false_iff_not, Int.toNat_natCast, gt_iff_lt] at *; first | (rw [zerD_e (by omega)] at hz; cases hz; done) | (rw [zerD_s (by omega) (by omega), show ((at_ L ((rowAt P j).getD t 0).toNat).oddity == 0) = false from d3] at hz; cases hz; done))) | (first | (with_reducible rfl) | exact ⟨rfl, rfl⟩ | ((try simp only [ek, Int.toNat_natCast, decide_eq_true_eq, decide_eq_false_iff_not, gt_iff_lt] at *) <;> first | omega | (have h1 := hr.at (t := t) (by omega); omega) | (have h2 := dim_b (t := t) hL hr (by omega); simp only [at_] at h2 ⊢; exact w64 (by omega) (by omega)) | (rw [hs, List.take_of_length_le (by omega)]; done)))
def fusR (L : List Con) (l : List Int) : Bool := zerR L l && parR L l
theorem allP_drop {P : List (List Int)} {j : Nat} (hj : j < P.length) (q : List Int → Bool) : (P.drop j).all q = (q (rowAt P j) && (P.drop (j + 1)).all q) := by
  rw [drop_row hj]; rfl
theorem par_w {L : List Con} (hL : okL L) {l : List Int} (hne : l ≠ []) (hl : inR L.length l) (hn : l.length ≤ 1000) : ((IntKind.i64.wrap ((at_ L (l.getD 0 0).toNat).oddity - dimR L l)).tmod 2 == 0) = parR L l := by
  have hb := dimR_b hL hl
  have ho := odd_b (t := 0) hL hl (List.length_pos_iff.2 hne)
  rw [w64 (by omega) (by omega)]
  unfold parR
  rw [Bool.eq_iff_iff, beq_iff_eq, decide_eq_true_eq]
  exact tmod2 _
noncomputable def f2Ann (p : Int) (L : List Con) (P : List (List Int)) : Ann := ⟨⟨[(1, .ptr 1000 0), (54, (roR .i64 P).av), (55, .vint .i64 P.length), (56, .int .i64 0)], loH p L, 1010⟩, some (P.all (fusR L)), fun d => match d with
  | true => (.exit 2, ⟨[], [], 1010⟩)
  | false => (.ret, ⟨[(2, .bool false)], [], 1010⟩)⟩
set_option maxRecDepth 100000 in
theorem f2_loop (p : Int) (L : List Con) (P : List (List Int)) (hL : okL L) (hP : ∀ l ∈ P, l ≠ [] ∧ inR L.length l ∧ l.length ≤ L.length) (hm : P.length ≤ 1000) : AnnOk Tryz.prog EV.ng (Nat.max 1 Tryz.f35.ntmps) (bodyAt Tryz.f35 [0, 1, 0, 1, 1, 1]) (f2Ann p L P) := by
  refine ann_ofI evOk (callF_ok evOk (noOrc_ok _ _) 8) (by kernel_rfl) (by kernel_rfl) (fun i : Nat => (fun (j : Nat) => (⟨[(1, .ptr 1000 0), (54, (roR .i64 P).av), (55, .vint .i64 P.length), (56, .vint .i64 (j : Int))], loH p L, 1010⟩ : St)) i) (fun i : Nat => (fun (j : Nat) => (P.length - j : Nat)) i) (fun (d : Bool) (i : Nat) => (fun (j : Nat) => (j ≤ P.length ∧ (P.drop j).all (fusR L) = d : Prop)) i) (fun i : Nat => (fun (j : Nat) => ([([0, 1, 0, 1, 1, 0, 0, 1, 1, 0, 0, 1, 0, 1, 1, 1], f3Ann p L P j)] : List (List Nat × Ann))) i) ?_ ?_ ?_
  · rintro d hd j hI
    exact one_ann (f3_loop p L P j hL (by rcases Nat.lt_or_ge j P.length with h | h; exact (hP _ (rowAt_mem h)).2.1; intro x hx; simp [rowAt, h] at hx) (by have := hL.1; rcases Nat.lt_or_ge j P.length with h | h; have := (hP _ (rowAt_mem h)).2.2; omega; simp [rowAt, h]))
  · intro d hd
    exact ⟨(0), [P.length = P.length ∧ (fun i => [rI IntKind.i64 (P.getD i [])]) = fun i => [rI IntKind.i64 (P.getD i [])], (↑P.length : Int) = (↑P.length : Int), (0 : Int) = (↑(0 : Nat) : Int), p = p, L.length = L.length ∧ (fun i => (L.getD i Con.zero).rvs) = fun i => (L.getD i Con.zero).rvs], by kernel_rfl, (by refine ⟨?_, ?_, ?_, ?_, (?_ : L.length = L.length ∧ (fun i => (L.getD i Con.zero).rvs) = fun i => (L.getD i Con.zero).rvs)⟩ <;> (first | rfl | assumption | omega | simp_all)), (by exact ⟨Nat.zero_le _, hd⟩)⟩
  · rintro d hd j hI
    cases d
    · -- d = false
      obtain ⟨ht, hs⟩ := hI
      have ht : j ≤ P.length := ht
      have hl1 := hL.1
      have ek : IntKind.i64.wrap ((j : Int) + 1) = ((j + 1 : Nat) : Int) := by rw [w64 (by omega) (by omega)]; omega
      refine Or.elim (Bool.eq_false_or_eq_true (decide ((↑j : Int) < (↑P.length : Int)))) (fun d1 => Or.elim (Bool.eq_false_or_eq_true (zerR L (rowAt P j))) (fun d2 => Or.elim (Bool.eq_false_or_eq_true ((IntKind.i64.wrap ((L.getD ((rowAt P j).getD (Int.toNat (0 : Int)) (0 : Int)).toNat Con.zero).oddity - dimR L (rowAt P j))).tmod (2 : Int) == (0 : Int))) (fun d3 => ⟨[true, true, false], .inl ⟨(j + 1), [P.length = P.length ∧ (fun i => [rI IntKind.i64 (P.getD i [])]) = fun i => [rI IntKind.i64 (P.getD i [])], (↑P.length : Int) = (↑P.length : Int), IntKind.i64.wrap ((↑j : Int) + (1 : Int)) = (↑(j + (1 : Nat)) : Int), p = p, L.length = L.length ∧ (fun i => (L.getD i Con.zero).rvs) = fun i => (L.getD i Con.zero).rvs, Dec ((IntKind.i64.wrap ((L.getD ((rowAt P j).getD (Int.toNat (0 : Int)) (0 : Int)).toNat Con.zero).oddity - dimR L (rowAt P j))).tmod (2 : Int) != (0 : Int)) false, (2 : Int) ≠ (0 : Int), (0 : Int) ≤ (rowAt P j).getD (Int.toNat (0 : Int)) (0 : Int) ∧ (rowAt P j).getD (Int.toNat (0 : Int)) (0 : Int) < (↑L.length : Int), (0 : Int) ≤ (0 : Int) ∧ (0 : Int) < (↑(rowAt P j).length : Int), P.length = P.length ∧ (fun i => [rI IntKind.i64 (P.getD i [])]) = fun i => [rI IntKind.i64 (P.getD i [])], (↑P.length : Int) = (↑P.length : Int), (↑j : Int) = (↑j : Int), (P.getD j []).length = (rowAt P j).length ∧ (fun j_1 => [RV.int IntKind.i64 ((P.getD j []).getD j_1 (0 : Int))]) = fun j_1 => [RV.int IntKind.i64 ((rowAt P j).getD j_1 (0 : Int))], (P.getD j []).length = (rowAt P j).length ∧ (fun j_1 => [RV.int IntKind.i64 ((P.getD j []).getD j_1 (0 : Int))]) = fun j_1 => [RV.int IntKind.i64 ((rowAt P j).getD j_1 (0 : Int))], (↑(P.getD j []).length : Int) = (↑(rowAt P j).length : Int), p = p, L.length = L.length ∧ (fun i => (L.getD i Con.zero).rvs) = fun i => (L.getD i Con.zero).rvs, Dec (zerR L (rowAt P j)) true, (0 : Int) ≤ (↑j : Int) ∧ (↑j : Int) < (↑P.length : Int), Dec (decide ((↑j : Int) < (↑P.length : Int))) true], by kernel_rfl, ⟨?_, ?_, ?_, ?_, ?_, (dN d3), ?_, ?_, ?_, ?_, ?_, ?_, ?_, ?_, ?_, ?_, ?_, d2, ?_, d1⟩, MuG.out ?_, InG.out ?_⟩⟩)
           (fun d3 => ⟨[true, true, true], .inr ⟨[Dec ((IntKind.i64.wrap ((L.getD ((rowAt P j).getD (Int.toNat (0 : Int)) (0 : Int)).toNat Con.zero).oddity - dimR L (rowAt P j))).tmod (2 : Int) != (0 : Int)) true, (2 : Int) ≠ (0 : Int), (0 : Int) ≤ (rowAt P j).getD (Int.toNat (0 : Int)) (0 : Int) ∧ (rowAt P j).getD (Int.toNat (0 : Int)) (0 : Int) < (↑L.length : Int), (0 : Int) ≤ (0 : Int) ∧ (0 : Int) < (↑(rowAt P j).length : Int), P.length = P.length ∧ (fun i => [rI IntKind.i64 (P.getD i [])]) = fun i => [rI IntKind.i64 (P.getD i [])], (↑P.length : Int) = (↑P.length : Int), (↑j : Int) = (↑j : Int), (P.getD j []).length = (rowAt P j).length ∧ (fun j_1 => [RV.int IntKind.i64 ((P.getD j []).getD j_1 (0 : Int))]) = fun j_1 => [RV.int IntKind.i64 ((rowAt P j).getD j_1 (0 : Int))], (P.getD j []).length = (rowAt P j).length ∧ (fun j_1 => [RV.int IntKind.i64 ((P.getD j []).getD j_1 (0 : Int))]) = fun j_1 => [RV.int IntKind.i64 ((rowAt P j).getD j_1 (0 : Int))], (↑(P.getD j []).length : Int) = (↑(rowAt P j).length : Int), p = p, L.length = L.length ∧ (fun i => (L.getD i Con.zero).rvs) = fun i => (L.getD i Con.zero).rvs, Dec (zerR L (rowAt P j)) true, (0 : Int) ≤ (↑j : Int) ∧ (↑j : Int) < (↑P.length : Int), Dec (decide ((↑j : Int) < (↑P.length : Int))) true], by kernel_rfl, ⟨(dN d3), ?_, ?_, ?_, ?_, ?_, ?_, ?_, ?_, ?_, ?_, ?_, d2, ?_, d1⟩, rfl⟩⟩))
           (fun d2 => ⟨[true, false], .inr ⟨[P.length = P.length ∧ (fun i => [rI IntKind.i64 (P.getD i [])]) = fun i => [rI IntKind.i64 (P.getD i [])], (↑P.length : Int) = (↑P.length : Int), (↑j : Int) = (↑j : Int), (P.getD j []).length = (rowAt P j).length ∧ (fun j_1 => [RV.int IntKind.i64 ((P.getD j []).getD j_1 (0 : Int))]) = fun j_1 => [RV.int IntKind.i64 ((rowAt P j).getD j_1 (0 : Int))], (P.getD j []).length = (rowAt P j).length ∧ (fun j_1 => [RV.int IntKind.i64 ((P.getD j []).getD j_1 (0 : Int))]) = fun j_1 => [RV.int IntKind.i64 ((rowAt P j).getD j_1 (0 : Int))], (↑(P.getD j []).length : Int) = (↑(rowAt P j).length : Int), p = p, L.length = L.length ∧ (fun i => (L.getD i Con.zero).rvs) = fun i => (L.getD i Con.zero).rvs, Dec (zerR L (rowAt P j)) false, (0 : Int) ≤ (↑j : Int) ∧ (↑j : Int) < (↑P.length : Int), Dec (decide ((↑j : Int) < (↑P.length : Int))) true], by kernel_rfl, ⟨?_, ?_, ?_, ?_, ?_, ?_, ?_, ?_, d2, ?_, d1⟩, rfl⟩⟩))
           (fun d1 => CtG.no ?_)
      all_goals first | (refine MuG.mk ?_; (simp only [decide_eq_true_eq] at *; show P.length - (j + 1) < P.length - j; omega)) | (refine InG.mk ?_; (simp only [decide_eq_true_eq, Int.toNat_natCast, Int.toNat_zero] at *; have h0 := hP _ (rowAt_mem (P := P) (t := j) (by omega)); rw [allP_drop (by omega), fusR, d2, ← par_w hL h0.1 h0.2.1 (by omega)] at hs; refine ⟨by omega, ?_⟩; simp only [at_] at hs; first | (rw [d3] at hs; exact hs) | (simp only [Bool.not_eq_eq_eq_not, bne] at d3 hs; rw [d3] at hs; exact hs))) | (refine CtG.mk ?_; (simp only [decide_eq_true_eq, decide_eq_false_iff_not, Int.toNat_natCast, Int.toNat_zero] at *; first | (rw [List.drop_eq_nil_of_le (by omega)] at hs; cases hs; done) | (rw [allP_drop (by omega), fusR, d2] at hs; cases hs; done) | (have h0 := hP _ (rowAt_mem (P := P) (t := j) (by omega)); rw [allP_drop (by omega), fusR, d2, ← par_w hL h0.1 h0.2.1 (by omega)] at hs; simp only [at_] at hs; rw [d3] at hs; cases hs; done))) | (first | (with_reducible rfl) | exact ⟨rfl, rfl⟩ | decide | ((try simp only [ek, Int.toNat_natCast, Int.toNat_zero, decide_eq_true_eq, decide_eq_false_iff_not] at *) <;> first | omega | (have h0 := hP _ (rowAt_mem (P := P) (t := j) (by omega)); have h1 : 0 < (rowAt P j).length := List.length_pos_iff.2 h0.1; first | omega | (have h2 := h0.2.1.at (t := 0) h1; omega))))
    · -- d = true
      obtain ⟨ht, hs⟩ := hI
      have ht : j ≤ P.length := ht
      have hl1 := hL.1
      have ek : IntKind.i64.wrap ((j : Int) + 1) = ((j + 1 : Nat) : Int) := by rw [w64 (by omega) (by omega)]; omega
      refine Or.elim (Bool.eq_false_or_eq_true (decide ((↑j : Int) < (↑P.length : Int)))) (fun d1 => Or.elim (Bool.eq_false_or_eq_true (zerR L (rowAt P j))) (fun d2 => Or.elim (Bool.eq_false_or_eq_true ((IntKind.i64.wrap ((L.getD ((rowAt P j).getD (Int.toNat (0 : Int)) (0 : Int)).toNat Con.zero).oddity - dimR L (rowAt P j))).tmod (2 : Int) == (0 : Int))) (fun d3 => ⟨[true, true, false], .inl ⟨(j + 1), [P.length = P.length ∧ (fun i => [rI IntKind.i64 (P.getD i [])]) = fun i => [rI IntKind.i64 (P.getD i [])], (↑P.length : Int) = (↑P.length : Int), IntKind.i64.wrap ((↑j : Int) + (1 : Int)) = (↑(j + (1 : Nat)) : Int), p = p, L.length = L.length ∧ (fun i => (L.getD i Con.zero).rvs) = fun i => (L.getD i Con.zero).rvs, Dec ((IntKind.i64.wrap ((L.getD ((rowAt P j).getD (Int.toNat (0 : Int)) (0 : Int)).toNat Con.zero).oddity - dimR L (rowAt P j))).tmod (2 : Int) != (0 : Int)) false, (2 : Int) ≠ (0 : Int), (0 : Int) ≤ (rowAt P j).getD (Int.toNat (0 : Int)) (0 : Int) ∧ (rowAt P j).getD (Int.toNat (0 : Int)) (0 : Int) < (↑L.length : Int), (0 : Int) ≤ (0 : Int) ∧ (0 : Int) < (↑(rowAt P j).length : Int), P.length = P.length ∧ (fun i => [rI IntKind.i64 (P.getD i [])]) = fun i => [rI IntKind.i64 (P.getD i [])], (↑P.length : Int) = (↑P.length : Int), (↑j : Int) = (↑j : Int), (P.getD j []).length = (rowAt P j).length ∧ (fun j_1 => [RV.int IntKind.i64 ((P.getD j []).getD j_1 (0 : Int))]) = fun j_1 => [RV.int IntKind.i64 ((rowAt P j).getD j_1 (0 : Int))], (P.getD j []).length = (rowAt P j).length ∧ (fun j_1 => [RV.int IntKind.i64 ((P.getD j []).getD j_1 (0 : Int))]) = fun j_1 => [RV.int IntKind.i64 ((rowAt P j).getD j_1 (0 : Int))], (↑(P.getD j []).length : Int) = (↑(rowAt P j).length : Int), p = p, L.length = L.length ∧ (fun i => (L.getD i Con.zero).rvs) = fun i => (L.getD i Con.zero).rvs, Dec (zerR L (rowAt P j)) true, (0 : Int) ≤ (↑j : Int) ∧ (↑j : Int) < (↑P.length : Int), Dec (decide ((↑j : Int) < (↑P.length : Int))) true], by kernel_rfl, ⟨?_, ?_, ?_, ?_, ?_, (dN d3), ?_, ?_, ?_, ?_, ?_, ?_, ?_, ?_, ?_, ?_, ?_, d2, ?_, d1⟩, MuG.out ?_, InG.out ?_⟩⟩)
           (fun d3 => CtG.no ?_))
           (fun d2 => CtG.no ?_))
           (fun d1 => ⟨[false], .inr ⟨[Dec (decide ((↑j : Int) < (↑P.length : Int))) false], by kernel_rfl, d1, rfl⟩⟩)
      all_goals first | (refine MuG.mk ?_; (simp only [decide_eq_true_eq] at *; show P.length - (j + 1) < P.length - j; omega)) | (refine InG.mk ?_; (simp only [decide_eq_true_eq, Int.toNat_natCast, Int.toNat_zero] at *; have h0 := hP _ (rowAt_mem (P := P) (t := j) (by omega)); rw [allP_drop (by omega), fusR, d2, ← par_w hL h0.1 h0.2.1 (by omega)] at hs; refine ⟨by omega, ?_⟩; simp only [at_] at hs; first | (rw [d3] at hs; exact hs) | (simp only [Bool.not_eq_eq_eq_not, bne] at d3 hs; rw [d3] at hs; exact hs))) | (refine CtG.mk ?_; (simp only [decide_eq_true_eq, decide_eq_false_iff_not, Int.toNat_natCast, Int.toNat_zero] at *; first | (rw [List.drop_eq_nil_of_le (by omega)] at hs; cases hs; done) | (rw [allP_drop (by omega), fusR, d2] at hs; cases hs; done) | (have h0 := hP _ (rowAt_mem (P := P) (t := j) (by omega)); rw [allP_drop (by omega), fusR, d2, ← par_w hL h0.1 h0.2.1 (by omega)] at hs; simp only [at_] at hs; rw [d3] at hs; cases hs; done))) | (first | (with_reducible rfl) | exact ⟨rfl, rfl⟩ | decide | ((try simp only [ek, Int.toNat_natCast, Int.toNat_zero, decide_eq_true_eq, decide_eq_false_iff_not] at *) <;> first | omega | (have h0 := hP _ (rowAt_mem (P := P) (t := j) (by omega)); have h1 : 0 < (rowAt P j).length := List.length_pos_iff.2 h0.1; first | omega | (have h2 := h0.2.1.at (t := 0) h1; omega))))
theorem okL_sh {p : Int} {L : List Con} (h1 : shapeM p L = true) (h2 : L.all fusB = true) : okL L := by
  simp only [shapeM, Bool.and_eq_true] at h1
  obtain ⟨i1, i2, i3⟩ := sh_at (by decide) (by decide) h1.2.2
  have hne : L ≠ [] := by intro e; rw [e] at h1; cases h1.2.1
  have hd : dimS L ≤ 8 := by rcases i2 with i2 | i2; omega; exact absurd i2 hne
  refine ⟨by omega, fun c hc => ?_⟩
  have h4 := i1 c hc
  have h5 := fusB_iff.1 (List.all_eq_true.1 h2 c hc)
  exact ⟨⟨h4.1, by omega⟩, ⟨h4.2.2.1, by omega⟩, h5.1, h5.2.1⟩
noncomputable def entsVF : List OEnt := entsVC ++ entsVS
theorem entsVF_ok : ∀ e ∈ entsVF, EntOk Tryz.prog e := by
  intro e he
  rcases List.mem_append.1 he with he | he
  · exact entsVC_ok e he
  · exact entsVS_ok e he
theorem fusT_eq (p : Int) (L : List Con) : fusT p L = (shapeM p L && (L.all fusB && (partsM L).all (fusR L))) := rfl
set_option maxRecDepth 100000 in
theorem fused_1 (p : Int) (L : List Con) (hn : L.length ≤ 1000) (h1 : shapeM p L = false) : PureC Tryz.prog [] 35 [.agg [.int .i64 p, roC L]] (.bool (fusT p L)) := by
  have k1 : shapeM p (consR L.length fun i => (L.getD i Con.zero).rvs) = false := (by rw [consR_ro]; exact h1)
  have rr := fun (tp : List Bool) (ms : List Prop) h hm => pure_run evOk (callF_ok evOk (orcOf_ok entsVF_ok) 8) Tryz.func35 (A := [.agg [.int .i64 p, roC L]]) rfl none_ann rfl rfl evNg (tabs := []) (R := .bool (fusT p L)) (tp := tp) (ms := ms) h hm
  refine rr [true] [false = fusT p L, Dec (!shapeM p (consR L.length fun i => (L.getD i Con.zero).rvs)) true, (∀ (i : Nat), i < L.length → (fun i => (L.getD i Con.zero).rvs) i = (Con.ofR ((fun i => (L.getD i Con.zero).rvs) i)).rvs) ∧ L.length ≤ (1000 : Nat)] (by kernel_rfl) ⟨?_, (dN k1), (?_ : (∀ (i : Nat), i < L.length → (fun i => (L.getD i Con.zero).rvs) i = (Con.ofR ((fun i => (L.getD i Con.zero).rvs) i)).rvs) ∧ L.length ≤ (1000 : Nat))⟩
  all_goals first | (first | (with_reducible rfl) | exact ⟨rfl, rfl⟩ | exact ⟨fun _ _ => rfl, hn⟩ | (rw [fusT_eq, h1]; rfl))
set_option maxRecDepth 100000 in
theorem fused_2 (p : Int) (L : List Con) (hn : L.length ≤ 1000) (h1 : shapeM p L = true) (h2 : L.all fusB = false) : PureC Tryz.prog [] 35 [.agg [.int .i64 p, roC L]] (.bool (fusT p L)) := by
  have k1 : shapeM p (consR L.length fun i => (L.getD i Con.zero).rvs) = true := (by rw [consR_ro]; exact h1)
  have rr := fun (tp : List Bool) (ms : List Prop) h hm => pure_run evOk (callF_ok evOk (orcOf_ok entsVF_ok) 8) Tryz.func35 (A := [.agg [.int .i64 p, roC L]]) (N := Nat.max 1 Tryz.f35.ntmps) rfl (one_ann (f1_loop p L hn)) rfl rfl evNg (tabs := []) (R := .bool (fusT p L)) (tp := tp) (ms := ms) h hm
  refine rr [false, false] [false = fusT p L, L.length = L.length ∧ (fun i => (L.getD i Con.zero).rvs) = fun i => (L.getD i Con.zero).rvs, (↑L.length : Int) = (↑L.length : Int), p = p, L.length = L.length ∧ (fun i => (L.getD i Con.zero).rvs) = fun i => (L.getD i Con.zero).rvs, Dec (L.all fusB) false, Dec (!shapeM p (consR L.length fun i => (L.getD i Con.zero).rvs)) false, (∀ (i : Nat), i < L.length → (fun i => (L.getD i Con.zero).rvs) i = (Con.ofR ((fun i => (L.getD i Con.zero).rvs) i)).rvs) ∧ L.length ≤ (1000 : Nat)] (by kernel_rfl) ⟨?_, ?_, ?_, ?_, ?_, h2, (dN k1), (?_ : (∀ (i : Nat), i < L.length → (fun i => (L.getD i Con.zero).rvs) i = (Con.ofR ((fun i => (L.getD i Con.zero).rvs) i)).rvs) ∧ L.length ≤ (1000 : Nat))⟩
  all_goals first | (first | (with_reducible rfl) | exact ⟨rfl, rfl⟩ | exact ⟨fun _ _ => rfl, hn⟩ | (rw [fusT_eq, h1, h2]; rfl))
set_option maxRecDepth 100000 in
theorem fused_3 (p : Int) (L : List Con) (hn : L.length ≤ 1000) (hL : okL L) (h1 : shapeM p L = true) (h2 : L.all fusB = true) : PureC Tryz.prog [] 35 [.agg [.int .i64 p, roC L]] (.bool (fusT p L)) := by
  have k1 : shapeM p (consR L.length fun i => (L.getD i Con.zero).rvs) = true := (by rw [consR_ro]; exact h1)
  have rr := fun (tp : List Bool) (ms : List Prop) h hm => pure_run evOk (callF_ok evOk (orcOf_ok entsVF_ok) 8) Tryz.func35 (A := [.agg [.int .i64 p, roC L]]) (N := Nat.max 1 Tryz.f35.ntmps) rfl (cons_ann (f1_loop p L hn) (one_ann (f2_loop p L (partsM L) hL parts_rows (Nat.le_trans parts_len hn)))) rfl rfl evNg (tabs := []) (R := .bool (fusT p L)) (tp := tp) (ms := ms) h hm
  refine Or.elim (Bool.eq_false_or_eq_true ((partsM L).all (fusR L))) (fun d1 => rr [false, true, true] [true = fusT p L, (partsM (consR L.length fun i => (L.getD i Con.zero).rvs)).length = (partsM L).length ∧ (fun i => [rI IntKind.i64 ((partsM (consR L.length fun i => (L.getD i Con.zero).rvs)).getD i [])]) = fun i => [rI IntKind.i64 ((partsM L).getD i [])], (↑(partsM (consR L.length fun i => (L.getD i Con.zero).rvs)).length : Int) = (↑(partsM L).length : Int), p = p, L.length = L.length ∧ (fun i => (L.getD i Con.zero).rvs) = fun i => (L.getD i Con.zero).rvs, Dec ((partsM L).all (fusR L)) true, (∀ (i : Nat), i < L.length → (fun i => (L.getD i Con.zero).rvs) i = (Con.ofR ((fun i => (L.getD i Con.zero).rvs) i)).rvs) ∧ okE (consR L.length fun i => (L.getD i Con.zero).rvs), L.length = L.length ∧ (fun i => (L.getD i Con.zero).rvs) = fun i => (L.getD i Con.zero).rvs, (↑L.length : Int) = (↑L.length : Int), p = p, L.length = L.length ∧ (fun i => (L.getD i Con.zero).rvs) = fun i => (L.getD i Con.zero).rvs, Dec (L.all fusB) true, Dec (!shapeM p (consR L.length fun i => (L.getD i Con.zero).rvs)) false, (∀ (i : Nat), i < L.length → (fun i => (L.getD i Con.zero).rvs) i = (Con.ofR ((fun i => (L.getD i Con.zero).rvs) i)).rvs) ∧ L.length ≤ (1000 : Nat)] (by kernel_rfl) ⟨?_, ?_, ?_, ?_, ?_, d1, ?_, ?_, ?_, ?_, ?_, h2, (dN k1), (?_ : (∀ (i : Nat), i < L.length → (fun i => (L.getD i Con.zero).rvs) i = (Con.ofR ((fun i => (L.getD i Con.zero).rvs) i)).rvs) ∧ L.length ≤ (1000 : Nat))⟩)
           (fun d1 => rr [false, true, false] [false = fusT p L, (partsM (consR L.length fun i => (L.getD i Con.zero).rvs)).length = (partsM L).length ∧ (fun i => [rI IntKind.i64 ((partsM (consR L.length fun i => (L.getD i Con.zero).rvs)).getD i [])]) = fun i => [rI IntKind.i64 ((partsM L).getD i [])], (↑(partsM (consR L.length fun i => (L.getD i Con.zero).rvs)).length : Int) = (↑(partsM L).length : Int), p = p, L.length = L.length ∧ (fun i => (L.getD i Con.zero).rvs) = fun i => (L.getD i Con.zero).rvs, Dec ((partsM L).all (fusR L)) false, (∀ (i : Nat), i < L.length → (fun i => (L.getD i Con.zero).rvs) i = (Con.ofR ((fun i => (L.getD i Con.zero).rvs) i)).rvs) ∧ okE (consR L.length fun i => (L.getD i Con.zero).rvs), L.length = L.length ∧ (fun i => (L.getD i Con.zero).rvs) = fun i => (L.getD i Con.zero).rvs, (↑L.length : Int) = (↑L.length : Int), p = p, L.length = L.length ∧ (fun i => (L.getD i Con.zero).rvs) = fun i => (L.getD i Con.zero).rvs, Dec (L.all fusB) true, Dec (!shapeM p (consR L.length fun i => (L.getD i Con.zero).rvs)) false, (∀ (i : Nat), i < L.length → (fun i => (L.getD i Con.zero).rvs) i = (Con.ofR ((fun i => (L.getD i Con.zero).rvs) i)).rvs) ∧ L.length ≤ (1000 : Nat)] (by kernel_rfl) ⟨?_, ?_, ?_, ?_, ?_, d1, ?_, ?_, ?_, ?_, ?_, h2, (dN k1), (?_ : (∀ (i : Nat), i < L.length → (fun i => (L.getD i Con.zero).rvs) i = (Con.ofR ((fun i => (L.getD i Con.zero).rvs) i)).rvs) ∧ L.length ≤ (1000 : Nat))⟩)
  all_goals first | (first | (with_reducible rfl) | exact ⟨rfl, rfl⟩ | exact ⟨fun _ _ => rfl, hn⟩ | exact ⟨fun _ _ => rfl, by rw [consR_ro]; exact hL.e⟩ | (rw [consR_ro]; first | done | rfl | exact ⟨rfl, rfl⟩) | (rw [fusT_eq, h1, h2, d1]; rfl))
theorem tfused_pure (p : Int) (L : List Con) (hn : L.length ≤ 1000) : PureC Tryz.prog [] 35 [.agg [.int .i64 p, roC L]] (.bool (fusM p L)) := by
  rw [← fus_eq]
  cases h1 : shapeM p L with
  | false => exact fused_1 p L hn h1
  | true =>
    cases h2 : L.all fusB with
    | false => exact fused_2 p L hn h1 h2
    | true => exact fused_3 p L hn (okL_sh h1 h2) h1 h2
end Go.Proofs.YtcfdaddablojlaaGreatDoor.S

/- quadformref26.Fused. -/
set_option linter.unusedSimpArgs false
set_option linter.unusedVariables false
namespace Go.Proofs.YtcfdaddablojlaaGreatDoor.S
open Go.QfSy Go.RowKit

end Go.Proofs.YtcfdaddablojlaaGreatDoor.S

/- Plain: a raw symbol has the prime 2. -/
set_option linter.unusedSimpArgs false
set_option linter.unusedVariables false
namespace Go.Proofs.YtcfdaddablojlaaGreatDoor.S
open Go.QfSy Go.RowKit

end Go.Proofs.YtcfdaddablojlaaGreatDoor.S

/- Raw or fused; Valid, Fused and linked, of package train and of the reference, together. -/
set_option linter.unusedSimpArgs false
set_option linter.unusedVariables false
namespace Go.Proofs.YtcfdaddablojlaaGreatDoor.S
open Go.QfSy Go.RowKit

noncomputable def entsT3 : List OEnt := [
  ⟨38, [], fun A => match A with
    | [.agg [.int .i64 p, .sl n 5 row]] => some (.bool (val2M p (consR n row)), [(∀ i, i < n → row i = (Con.ofR (row i)).rvs) ∧ n ≤ 1000])
    | _ => none⟩,
  ⟨35, [], fun A => match A with
    | [.agg [.int .i64 p, .sl n 5 row]] => some (.bool (fusM p (consR n row)), [(∀ i, i < n → row i = (Con.ofR (row i)).rvs) ∧ n ≤ 1000])
    | _ => none⟩,
  ⟨53, [], fun A => match A with
    | [.agg [.int .i64 p, .sl n 5 row], .int .i64 a] => some (.bool (linkM (consR n row) a.toNat), [(∀ i, i < n → row i = (Con.ofR (row i)).rvs) ∧ okL (consR n row) ∧ 1 ≤ a ∧ a < (n : Int)])
    | _ => none⟩]
theorem entsT3_ok : ∀ e ∈ entsT3, EntOk Tryz.prog e := by
  intro e he
  simp only [entsT3, List.mem_cons, List.not_mem_nil, or_false] at he
  rcases he with rfl | rfl | rfl
  all_goals
    intro A R ms h hm
    simp only at h
    split at h
    all_goals first | (cases h; done) | cases h
  · obtain ⟨h1, h2⟩ := all_one hm
    exact PureC.imp (tvalid_pure _ _ (by rw [consR_len]; exact h2)) (.cons (.agg (.cons .same (.cons (.con h1) .nil))) .nil)
  · obtain ⟨h1, h2⟩ := all_one hm
    exact PureC.imp (tfused_pure _ _ (by rw [consR_len]; exact h2)) (.cons (.agg (.cons .same (.cons (.con h1) .nil))) .nil)
  · obtain ⟨h1, h3, h4, h5⟩ := all_one hm
    rename_i p _ _ a
    have e : ((a.toNat : Nat) : Int) = a := by omega
    have := tlinked_pure p _ a.toNat h3 (by omega) (by rw [consR_len]; omega)
    rw [e] at this
    exact PureC.imp this (.cons (.agg (.cons .same (.cons (.con h1) .nil))) (.cons .same .nil))
end Go.Proofs.YtcfdaddablojlaaGreatDoor.S

/- The tables that the rows list; a world that the rows speak of holds them. -/
namespace Go.Proofs.YtcfdaddablojlaaGreatDoor.S
open Go.ChangeShapes Go.WideShapes Go.ChangeAt Go.RowKit Go.QfSy

theorem own : ownKnob Tryz.prog.godebug = none := by kernel_rfl
theorem laidOut : laidOutB Tryz.prog = true := by kernel_rfl
def tabs : List Tb := [
  ⟨2, .u8, [0, 1, 28, 2, 29, 14, 24, 3, 30, 22, 20, 15, 25, 17, 4, 8, 31, 27, 13, 23, 21, 19, 16, 7, 26, 12, 18, 6, 11, 5, 10, 9], 197⟩,
  ⟨3, .u8, [0, 1, 56, 2, 57, 49, 28, 3, 61, 58, 42, 50, 38, 29, 17, 4, 62, 47, 59, 36, 45, 43, 51, 22, 53, 39, 33, 30, 24, 18, 12, 5, 63, 55, 48, 27, 60, 41, 37, 16, 46, 35, 44, 21, 52, 32, 23, 11, 54, 26, 40, 15, 34, 20, 31, 10, 25, 14, 19, 9, 13, 8, 7, 6], 198⟩,
  ⟨0, .u64, [1, 10, 100, 1000, 10000, 100000, 1000000, 10000000, 100000000, 1000000000, 10000000000, 100000000000, 1000000000000, 10000000000000, 100000000000000, 1000000000000000, 10000000000000000, 100000000000000000, 1000000000000000000, 10000000000000000000], 176⟩,
  ⟨1, .i64, [7, 11, 13, 17, 19, 23, 29, 31], 182⟩]
theorem gn0 : Tryz.prog.globalNamed "math/bits.deBruijn32tab" = some 2 := by kernel_rfl
theorem gt0 : (Tryz.prog.globals[2]?).map (·.type) = some 197 := by kernel_rfl
theorem gs0 : 2 < Tryz.prog.globals.size := by show Nat.lt _ _; exact Nat.le_of_ble_eq_true (by kernel_rfl)
theorem gc0 : Tryz.prog.cellsOf 197 = 32 := by kernel_rfl
theorem ge0 : Tryz.prog.cellsOf 5 = 1 := by kernel_rfl
theorem gr0 : (((begin Tryz.prog (fun _ _ => 0) default).world.heap[2]?).bind Obj.row?).map (·.2) = some 197 := by kernel_rfl
theorem gn1 : Tryz.prog.globalNamed "math/bits.deBruijn64tab" = some 3 := by kernel_rfl
theorem gt1 : (Tryz.prog.globals[3]?).map (·.type) = some 198 := by kernel_rfl
theorem gs1 : 3 < Tryz.prog.globals.size := by show Nat.lt _ _; exact Nat.le_of_ble_eq_true (by kernel_rfl)
theorem gc1 : Tryz.prog.cellsOf 198 = 64 := by kernel_rfl
theorem ge1 : Tryz.prog.cellsOf 5 = 1 := by kernel_rfl
theorem gr1 : (((begin Tryz.prog (fun _ _ => 0) default).world.heap[3]?).bind Obj.row?).map (·.2) = some 198 := by kernel_rfl
theorem gn2 : Tryz.prog.globalNamed "internal/strconv.uint64pow10" = some 0 := by kernel_rfl
theorem gt2 : (Tryz.prog.globals[0]?).map (·.type) = some 176 := by kernel_rfl
theorem gs2 : 0 < Tryz.prog.globals.size := by show Nat.lt _ _; exact Nat.le_of_ble_eq_true (by kernel_rfl)
theorem gc2 : Tryz.prog.cellsOf 176 = 20 := by kernel_rfl
theorem ge2 : Tryz.prog.cellsOf 148 = 1 := by kernel_rfl
theorem gr2 : (((begin Tryz.prog (fun _ _ => 0) default).world.heap[0]?).bind Obj.row?).map (·.2) = some 176 := by kernel_rfl
theorem gn3 : Tryz.prog.globalNamed "quadform/prime.offsets" = some 1 := by kernel_rfl
theorem gt3 : (Tryz.prog.globals[1]?).map (·.type) = some 182 := by kernel_rfl
theorem gs3 : 1 < Tryz.prog.globals.size := by show Nat.lt _ _; exact Nat.le_of_ble_eq_true (by kernel_rfl)
theorem gc3 : Tryz.prog.cellsOf 182 = 8 := by kernel_rfl
theorem ge3 : Tryz.prog.cellsOf 2 = 1 := by kernel_rfl
theorem gr3 : (((begin Tryz.prog (fun _ _ => 0) default).world.heap[1]?).bind Obj.row?).map (·.2) = some 182 := by kernel_rfl
theorem gl0 {W : World} {rest : List (String × DataW Unit)} (h : laidMet Tryz.prog (("math/bits.deBruijn32tab", Rows.laid_math_bits_deBruijn32tab) :: rest) W) (hS : W.ShapedOpen Tryz.prog) : W.heap[2]? = some (.cells (([0, 1, 28, 2, 29, 14, 24, 3, 30, 22, 20, 15, 25, 17, 4, 8, 31, 27, 13, 23, 21, 19, 16, 7, 26, 12, 18, 6, 11, 5, 10, 9] : List Int).map (Value.int .u8)).toArray 197 (0, 0)) := by
  have ht : Lib.TabIs Tryz.prog W "math/bits.deBruijn32tab" .u8 [0, 1, 28, 2, 29, 14, 24, 3, 30, 22, 20, 15, 25, 17, 4, 8, 31, 27, 13, 23, 21, 19, 16, 7, 26, 12, 18, 6, 11, 5, 10, 9] :=
    Lib.tabIs_of_head gn0 gt0 Tryz.underlying197 Tryz.underlying5 ge0 gc0 h
  obtain ⟨cs, t, h1, h2⟩ := row_of gs0 gr0 hS
  subst h2
  exact tab_block gn0 ht h1
theorem gl1 {W : World} {rest : List (String × DataW Unit)} (h : laidMet Tryz.prog (("math/bits.deBruijn64tab", Rows.laid_math_bits_deBruijn64tab) :: rest) W) (hS : W.ShapedOpen Tryz.prog) : W.heap[3]? = some (.cells (([0, 1, 56, 2, 57, 49, 28, 3, 61, 58, 42, 50, 38, 29, 17, 4, 62, 47, 59, 36, 45, 43, 51, 22, 53, 39, 33, 30, 24, 18, 12, 5, 63, 55, 48, 27, 60, 41, 37, 16, 46, 35, 44, 21, 52, 32, 23, 11, 54, 26, 40, 15, 34, 20, 31, 10, 25, 14, 19, 9, 13, 8, 7, 6] : List Int).map (Value.int .u8)).toArray 198 (0, 0)) := by
  have ht : Lib.TabIs Tryz.prog W "math/bits.deBruijn64tab" .u8 [0, 1, 56, 2, 57, 49, 28, 3, 61, 58, 42, 50, 38, 29, 17, 4, 62, 47, 59, 36, 45, 43, 51, 22, 53, 39, 33, 30, 24, 18, 12, 5, 63, 55, 48, 27, 60, 41, 37, 16, 46, 35, 44, 21, 52, 32, 23, 11, 54, 26, 40, 15, 34, 20, 31, 10, 25, 14, 19, 9, 13, 8, 7, 6] :=
    Lib.tabIs_of_head gn1 gt1 Tryz.underlying198 Tryz.underlying5 ge1 gc1 h
  obtain ⟨cs, t, h1, h2⟩ := row_of gs1 gr1 hS
  subst h2
  exact tab_block gn1 ht h1
theorem gl2 {W : World} {rest : List (String × DataW Unit)} (h : laidMet Tryz.prog (("internal/strconv.uint64pow10", Rows.laid_internal_strconv_uint64pow10) :: rest) W) (hS : W.ShapedOpen Tryz.prog) : W.heap[0]? = some (.cells (([1, 10, 100, 1000, 10000, 100000, 1000000, 10000000, 100000000, 1000000000, 10000000000, 100000000000, 1000000000000, 10000000000000, 100000000000000, 1000000000000000, 10000000000000000, 100000000000000000, 1000000000000000000, 10000000000000000000] : List Int).map (Value.int .u64)).toArray 176 (0, 0)) := by
  have ht : Lib.TabIs Tryz.prog W "internal/strconv.uint64pow10" .u64 [1, 10, 100, 1000, 10000, 100000, 1000000, 10000000, 100000000, 1000000000, 10000000000, 100000000000, 1000000000000, 10000000000000, 100000000000000, 1000000000000000, 10000000000000000, 100000000000000000, 1000000000000000000, 10000000000000000000] :=
    Lib.tabIs_of_head gn2 gt2 Tryz.underlying176 Tryz.underlying148 ge2 gc2 h
  obtain ⟨cs, t, h1, h2⟩ := row_of gs2 gr2 hS
  subst h2
  exact tab_block gn2 ht h1
theorem gl3 {W : World} {rest : List (String × DataW Unit)} (h : laidMet Tryz.prog (("quadform/prime.offsets", Rows.laid_quadform_prime_offsets) :: rest) W) (hS : W.ShapedOpen Tryz.prog) : W.heap[1]? = some (.cells (([7, 11, 13, 17, 19, 23, 29, 31] : List Int).map (Value.int .i64)).toArray 182 (0, 0)) := by
  have ht : Lib.TabIs Tryz.prog W "quadform/prime.offsets" .i64 [7, 11, 13, 17, 19, 23, 29, 31] :=
    Lib.tabIs_of_head gn3 gt3 Tryz.underlying182 Tryz.underlying2 ge3 gc3 h
  obtain ⟨cs, t, h1, h2⟩ := row_of gs3 gr3 hS
  subst h2
  exact tab_block gn3 ht h1
theorem tabs_of {W : World} (h : laidMet Tryz.prog [("math/bits.deBruijn32tab", Rows.laid_math_bits_deBruijn32tab), ("math/bits.deBruijn64tab", Rows.laid_math_bits_deBruijn64tab), ("internal/strconv.uint64pow10", Rows.laid_internal_strconv_uint64pow10), ("quadform/prime.offsets", Rows.laid_quadform_prime_offsets)] W) (hS : W.ShapedOpen Tryz.prog) : TabW tabs W := by
  intro t ht
  simp only [tabs, List.mem_cons, List.not_mem_nil, or_false] at ht
  rcases ht with rfl | rfl | rfl | rfl
  · exact gl0 h hS
  · exact gl1 (laidMet.tail h) hS
  · exact gl2 (laidMet.tail (laidMet.tail h)) hS
  · exact gl3 (laidMet.tail (laidMet.tail (laidMet.tail h))) hS
noncomputable def laidWorld (os : Os) : World := (layAt 1 Rows.laid_quadform_prime_offsets (layAt 0 Rows.laid_internal_strconv_uint64pow10 (layAt 3 Rows.laid_math_bits_deBruijn64tab (layAt 2 Rows.laid_math_bits_deBruijn32tab (World.holding Tryz.prog os ⟨#[], #[], []⟩)))))
end Go.Proofs.YtcfdaddablojlaaGreatDoor.S

/- awake of quadformlaw27 returns true. -/
namespace Go.Proofs.YtcfdaddablojlaaGreatDoor.S
open Go.QfSy Go.RowKit

set_option maxRecDepth 1000000 in
theorem awake_run : isT0 (bodyF EC (callF EC noOrc 60) noLo 17 (RV.avl []) ⟨trOf (tabList tabs), 1000, [], []⟩) = true := by kernel_rfl
theorem awake_pure : PureC Tryz.prog tabs 17 [] (.bool true) :=
  pure_true ecOk (callF_ok ecOk (noOrc_ok _ _) 60) rfl rfl ecNg awake_run
end Go.Proofs.YtcfdaddablojlaaGreatDoor.S

/- Lists of constituents in memory; quadformref24.SameList, quadformref26.Same of equal lists; OddPrime. -/
namespace Go.Proofs.YtcfdaddablojlaaGreatDoor.Q
open Go.RowKit

theorem below_drewN {B : Nat} {a w : World} (h : Below B a w) (n : Nat) : Below B a (w.drewN n) := ⟨h.os, h.tape, h.output, h.size, h.block⟩
structure Con where
  exp : Int
  dim : Int
  sign : Int
  odd : Bool
  oddity : Int
deriving DecidableEq

/-- Each number fits an int. -/
def I64 (n : Int) : Prop := -9223372036854775808 ≤ n ∧ n ≤ 9223372036854775807
def Con.agg (c : Con) : Value := .agg #[.int .i64 c.exp, .int .i64 c.dim, .int .i64 c.sign, .bool c.odd, .int .i64 c.oddity]

/-- Five cells from o of block b hold c. -/
structure ConAt (w : World) (b o : Nat) (c : Con) : Prop where
  c0 : w.cell? ⟨b, o, none⟩ = some (.int .i64 c.exp)
  c1 : w.cell? ⟨b, o + 1, none⟩ = some (.int .i64 c.dim)
  c2 : w.cell? ⟨b, o + 2, none⟩ = some (.int .i64 c.sign)
  c3 : w.cell? ⟨b, o + 3, none⟩ = some (.bool c.odd)
  c4 : w.cell? ⟨b, o + 4, none⟩ = some (.int .i64 c.oddity)

theorem ConAt.below {w w' : World} {b o n : Nat} {c : Con} (h : ConAt w b o c) (hb : Below n w w') (hl : b < n) : ConAt w' b o c :=
  ⟨(hb.cell (p := ⟨b, _, none⟩) hl).trans h.c0, (hb.cell (p := ⟨b, _, none⟩) hl).trans h.c1, (hb.cell (p := ⟨b, _, none⟩) hl).trans h.c2, (hb.cell (p := ⟨b, _, none⟩) hl).trans h.c3, (hb.cell (p := ⟨b, _, none⟩) hl).trans h.c4⟩

/-- The slice value v holds the list l. -/
def Lst (w : World) (v : Value) (l : List Con) : Prop :=
  (l = [] ∧ ∃ a c, v = .slice a 0 c) ∨
  (l ≠ [] ∧ ∃ b o cap, v = .slice (some ⟨b, o, none⟩) l.length cap ∧ b < w.heap.size ∧ l.length ≤ cap ∧ (∀ i c, l[i]? = some c → ConAt w b (o + i * 5) c))

theorem Lst.below {w w' : World} {v : Value} {l : List Con} {n : Nat} (h : Lst w v l) (hb : Below n w w') (hn : w.heap.size ≤ n) : Lst w' v l := by
  rcases h with ⟨h1, h2⟩ | ⟨h1, b, o, cap, h2, h3, hcp, h4⟩
  · exact .inl ⟨h1, h2⟩
  · refine .inr ⟨h1, b, o, cap, h2, ?_, hcp, fun i c hi => (h4 i c hi).below hb (by omega)⟩
    have := hb.size; omega

theorem con_eql (c : Con) (w : World) : (binOp .neq 49 c.agg c.agg).run Tryz.prog w = .ok (.bool false) w := by
  have u3 := Tryz.underlying3
  have a3 := Tryz.isAgg3
  have z3 := Tryz.sizeOf3
  have u4 := Tryz.underlying4
  have a4 := Tryz.isAgg4
  have z4 := Tryz.sizeOf4
  have hS : Tryz.prog.underlying 49 = some (.struct (Tryz.prog.fieldsOf 49)) := by kernel_rfl
  have hp : Tryz.prog.stoodInHeld 49 = false := by kernel_rfl
  simp only [Con.agg]
  rw [run_neq_struct, show (10000 : Nat) = 9999 + 1 from rfl, run_equalIn_agg w 9999 49 _ _ hS hp]
  simp only [Program.fieldsOf, Tryz.underlying49]
  go_simp

set_option maxHeartbeats 4000000 in
theorem sameList_cons (l : List Con) (n b o cap b' o' cap' : Nat) (w : World) (hn : Hid (l.length = n)) (hn0 : 0 < n) (hn1 : n ≤ 1000) (hb : b < w.heap.size) (hb' : b' < w.heap.size)
    (hc : Hid (∀ i c, l[i]? = some c → ConAt w b (o + i * 5) c)) (hc' : Hid (∀ i c, l[i]? = some c → ConAt w b' (o' + i * 5) c)) :
    Calls Tryz.prog 52 #[.slice (some ⟨b, o, none⟩) n cap, .slice (some ⟨b', o', none⟩) n cap'] w fun e w' => e = .returned (.bool true) ∧ Below w.heap.size w w' := by
  go_enter Tryz.func52, Tryz.ntmps52
  go_wp2
  go_loopw [13] (fun i wr => ∃ (k : Nat), k ≤ n ∧ i = .int .i64 k ∧ Below w.heap.size w wr) (fun i _ => (n - (intOf i).toNat))
  case atStart => exact ⟨0, by omega, rfl, Below.refl _ _⟩
  case round =>
    obtain ⟨k, hk, rfl, hbe⟩ := hrel
    by_cases hlt : k < n
    · obtain ⟨c, hkc⟩ : ∃ c, l[k]? = some c := ⟨l[k]'(by rw [hn.out]; exact hlt), List.getElem?_eq_getElem _⟩
      obtain ⟨g0, g1, g2, g3, g4⟩ := (hc.out k c hkc).below hbe hb
      obtain ⟨f0, f1, f2, f3, f4⟩ := (hc'.out k c hkc).below hbe hb'
      have hix : (0 : Int) ≤ (k : Int) := by omega
      have hix' : (k : Int) < (n : Int) := by omega
      clear hkc
      have hneq := con_eql c
      unfold Con.agg at hneq
      go_wp2
      go_hide hQ
      go_quiet (fail)
      subst hQ
      go_wp2
      go_roundw
      case rel => exact ⟨k + 1, by omega, by go_num, below_drewN hbe _⟩
      case measure => simp [intOf]; omega
    · go_wp2
      go_ret
      exact ⟨rfl, hbe⟩
theorem sameList_nil (a a' : Option Addr) (cap cap' : Nat) (w : World) :
    Calls Tryz.prog 52 #[.slice a 0 cap, .slice a' 0 cap'] w fun e w' => e = .returned (.bool true) ∧ Below w.heap.size w w' := by
  go_enter Tryz.func52, Tryz.ntmps52
  go_wp2
  go_loopw [13] (fun i wr => i = .int .i64 0 ∧ wr = w) (fun _ _ => 0)
  case atStart => exact ⟨rfl, rfl⟩
  case round =>
    obtain ⟨rfl, rfl⟩ := hrel
    go_wp2
    go_ret
    exact ⟨rfl, Below.refl _ _⟩

theorem sameList_calls (l : List Con) (v v' : Value) (w : World) (h : Lst w v l) (h' : Lst w v' l) (hn : l.length ≤ 1000) :
    Calls Tryz.prog 52 #[v, v'] w fun e w' => e = .returned (.bool true) ∧ Below w.heap.size w w' := by
  rcases h with ⟨rfl, a, c, rfl⟩ | ⟨hne, b, o, cap, rfl, hb, hcp, hc⟩
  · rcases h' with ⟨_, a', c', rfl⟩ | ⟨hne, _⟩
    · exact sameList_nil a a' c c' w
    · exact absurd rfl hne
  · rcases h' with ⟨rfl, _⟩ | ⟨_, b', o', cap', rfl, hb', hcp', hc'⟩
    · exact absurd rfl hne
    · have hpos : 0 < l.length := by cases l; exact absurd rfl hne; simp
      exact sameList_cons l l.length b o cap b' o' cap' w rfl hpos hn hb hb' hc hc'

set_option maxRecDepth 100000 in
set_option maxHeartbeats 1000000 in
theorem same_calls (p : Int) (l : List Con) (a a' : Option Addr) (n n' c c' : Nat) (w : World) (h : Hid (Lst w (.slice a n c) l)) (h' : Hid (Lst w (.slice a' n' c') l)) (hn : Hid (l.length ≤ 1000)) :
    Calls Tryz.prog 21 #[.agg #[.int .i64 p, .slice a n c], .agg #[.int .i64 p, .slice a' n' c']] w fun e w' => e = .returned (.bool true) ∧ Below w.heap.size w w' := by
  have hcall := Lib.hid (fun (W : World) (hW : Below w.heap.size w W) => sameList_calls l (.slice a n c) (.slice a' n' c') W (h.out.below hW (Nat.le_refl _)) (h'.out.below hW (Nat.le_refl _)) hn.out)
  clear h h'
  go_enter Tryz.func21, Tryz.ntmps21
  go_wp2_with (go_at_call 52; refine (hcall.out _ ?_).mono ?_; (exact ((Below.refl _ _).alloc (Nat.le_refl _) _).alloc (by simp) _); rintro e w1 ⟨rfl, hb1⟩)
  go_ret
  exact ⟨rfl, (((Below.refl _ _).alloc (Nat.le_refl _) _).alloc (by simp) _).trans (hb1.mono (by simp; omega))⟩
end Go.Proofs.YtcfdaddablojlaaGreatDoor.Q

/- Same of equal lists and OddPrime as pure calls. -/
set_option linter.unusedSimpArgs false
set_option linter.unusedVariables false
namespace Go.Proofs.YtcfdaddablojlaaGreatDoor.S
open Go.QfSy Go.RowKit

def toQ (c : Con) : Q.Con := ⟨c.exp, c.dim, c.sign, c.odd, c.oddity⟩

theorem cell_of {F : Fz} {w : World} (hF : Vld F w) {B o : Nat} {v : Value} (h : FzAt F B o v) : w.cell? ⟨B, o, none⟩ = some v ∧ B < w.heap.size := by
  obtain ⟨cs, el, fr, h1, h2⟩ := h
  have h3 := hF _ _ h1
  refine ⟨?_, (Array.getElem?_eq_some_iff.1 h3).1⟩
  simp [World.cell?, h3, h2]

theorem rs5 {F : Fz} {c : Con} {Vs : List Value} (h : RsRel F c.rvs Vs) : Vs = [.int .i64 c.exp, .int .i64 c.dim, .int .i64 c.sign, .bool c.odd, .int .i64 c.oddity] := by
  unfold Con.rvs at h
  cases h with | cons h0 h => cases h with | cons h1 h => cases h with | cons h2 h => cases h with | cons h3 h => cases h with | cons h4 h =>
  cases h; cases h0; cases h1; cases h2; cases h3; cases h4
  rfl

theorem lst_of {F : Fz} {w : World} (hF : Vld F w) {L : List Con} {V : Value} (h : RRel F (roC L) V) : Q.Lst w V (L.map toQ) ∧ ∃ a n c, V = .slice a n c := by
  unfold roC at h
  cases h with
  | sl0 sz row a c hn =>
    have : L = [] := List.eq_nil_of_length_eq_zero hn
    subst this
    exact ⟨.inl ⟨rfl, a, c, rfl⟩, _, _, _, rfl⟩
  | @sl _ _ B o c _ cs hc hl hf h =>
    refine ⟨?_, _, _, _, rfl⟩
    cases L with
    | nil => exact .inl ⟨rfl, _, _, rfl⟩
    | cons c0 l =>
      have key : ∀ i, i < (c0 :: l).length → ∀ j v, ([.int .i64 ((c0 :: l).getD i Con.zero).exp, .int .i64 ((c0 :: l).getD i Con.zero).dim, .int .i64 ((c0 :: l).getD i Con.zero).sign, .bool ((c0 :: l).getD i Con.zero).odd, .int .i64 ((c0 :: l).getD i Con.zero).oddity] : List Value)[j]? = some v → w.cell? ⟨B, o + i * 5 + j, none⟩ = some v ∧ B < w.heap.size := by
        intro i hi j v hv
        have := rs5 (h i hi)
        exact cell_of hF (hf i j v hi (by rw [this]; exact hv))
      refine .inr ⟨by simp, B, o, c, by simp, (key 0 (by simp) 0 _ rfl).2, by simpa using hc, ?_⟩
      intro i q hq
      rw [List.getElem?_map] at hq
      cases hi : (c0 :: l)[i]? with
      | none => rw [hi] at hq; cases hq
      | some x =>
        rw [hi] at hq
        cases hq
        have hlt := (List.getElem?_eq_some_iff.1 hi).1
        have hx : (c0 :: l).getD i Con.zero = x := by rw [List.getD_eq_getElem?_getD, hi]; rfl
        have k := key i hlt
        rw [hx] at k
        exact ⟨(k 0 _ rfl).1, (k 1 _ rfl).1, (k 2 _ rfl).1, (k 3 _ rfl).1, (k 4 _ rfl).1⟩

/-- A result without slices makes a pure call. -/
theorem flat_pure {tabs : List Tb} {f : Nat} {A : List RV} {R : RV} {V : Value} (hR : ∀ F, RRel F R V) (hfn : ∃ fn, Tryz.prog.funcs[f]? = some fn ∧ fn.body.isSome = true)
    (h : ∀ (w : World) (F : Fz) (Args : List Value), TabW tabs w → Vld F w → RsRel F A Args → Calls Tryz.prog f Args.toArray w fun e w' => e = .returned V ∧ Below w.heap.size w w') : PureC Tryz.prog tabs f A R := by
  refine ⟨hfn, ?_⟩
  intro w F Args ht hF hr
  refine (h w F Args ht hF hr).mono ?_
  rintro e w' ⟨rfl, hb⟩
  exact ⟨V, F, rfl, fun _ _ h => h, hF.below hb, fun _ _ h => .inl h, hR F, hb⟩

theorem same_pure (p : Int) (L : List Con) (hn : L.length ≤ 1000) : PureC Tryz.prog [] 21 [.agg [.int .i64 p, roC L], .agg [.int .i64 p, roC L]] (.bool true) := by
  refine flat_pure (fun _ => .bool _) ⟨_, Tryz.func21, rfl⟩ ?_
  intro w F Args ht hF hr
  cases hr with | cons h0 hr => cases hr with | cons k0 hr => cases hr; cases h0 with | agg h0 => cases h0 with | cons h1 h0 => cases h1; cases h0 with | cons h2 h0 => cases h0; cases k0 with | agg k0 => cases k0 with | cons k1 k0 => cases k1; cases k0 with | cons k2 k0 =>
  cases k0
  obtain ⟨l1, a, n, c, rfl⟩ := lst_of hF h2
  obtain ⟨l2, a', n', c', rfl⟩ := lst_of hF k2
  exact Q.same_calls p _ a a' n n' c c' w (Lib.hid l1) (Lib.hid l2) (Lib.hid (by simpa using hn))

end Go.Proofs.YtcfdaddablojlaaGreatDoor.S

