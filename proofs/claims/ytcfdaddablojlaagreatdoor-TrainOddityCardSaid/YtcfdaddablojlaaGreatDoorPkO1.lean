/- A part of the proof of TiedTrainOddity: VG, VH, LO, CardTrainOddity, TiedTrainOddity. -/
import Derived.Test.YtcfdaddablojlaaGreatDoorPkB3
import Derived.Test.YtcfdaddablojlaaGreatDoorPkB4
set_option linter.unusedSimpArgs false
set_option linter.unusedVariables false
/- quadformref26.Fused. -/
set_option linter.unusedSimpArgs false
set_option linter.unusedVariables false
namespace Go.Proofs.YtcfdaddablojlaaGreatDoor.S
open Go.QfSy Go.RowKit

noncomputable def entsRF : List OEnt := entsP ++ (entsQ ++ entsL)
theorem entsRF_ok : ∀ e ∈ entsRF, EntOk Tryz.prog e := by
  intro e he
  rcases List.mem_append.1 he with he | he
  · exact entsP_ok e he
  · rcases List.mem_append.1 he with he | he
    · exact entsQ_ok e he
    · exact entsL_ok e he
theorem rng_drop {n k : Nat} (h : k < n) : (List.range n).drop k = k :: (List.range n).drop (k + 1) := by
  rw [List.drop_eq_getElem_cons (by simpa using h)]; simp
theorem rngA_drop {n k : Nat} (h : k < n) (q : Nat → Bool) : ((List.range n).drop k).all q = (q k && ((List.range n).drop (k + 1)).all q) := by
  rw [rng_drop h]; rfl
theorem rngA_end {n k : Nat} (h : n ≤ k) (q : Nat → Bool) : ((List.range n).drop k).all q = true := by
  rw [List.drop_eq_nil_of_le (by simpa using h)]; rfl
theorem fusI_iff {L : List Con} {i : Nat} : fusI L i = true ↔ (0 ≤ (at_ L i).oddity ∧ (at_ L i).oddity ≤ 7) ∧ ((at_ L i).odd = false → (at_ L i).dim.tmod 2 = 0 ∧ (at_ L i).oddity = 0) ∧ ((at_ L i).odd = true → (partM L i).getD 0 0 = (i : Int) ∨ (at_ L i).oddity = 0) := by
  simp only [fusI, fusC, oddB, tmod2]
  cases (at_ L i).odd <;> simp
theorem fusI_no {L : List Con} {i : Nat} (h : ¬ ((0 ≤ (at_ L i).oddity ∧ (at_ L i).oddity ≤ 7) ∧ ((at_ L i).odd = false → (at_ L i).dim.tmod 2 = 0 ∧ (at_ L i).oddity = 0) ∧ ((at_ L i).odd = true → (partM L i).getD 0 0 = (i : Int) ∨ (at_ L i).oddity = 0))) : fusI L i = false := by
  cases hf : fusI L i with
  | false => rfl
  | true => exact absurd (fusI_iff.1 hf) h
theorem part_pos {L : List Con} {i : Nat} (h : i < L.length) (ho : (L.getD i Con.zero).odd = true) : 0 < (partM L (i : Int)).length := by
  have := (partM_odd h (show oddB L i = true from ho)).2
  exact List.length_pos_iff.2 (fun e => by rw [e] at this; simp at this)
noncomputable def r1Ann (p : Int) (L : List Con) : Ann := ⟨⟨[(1, .ptr 1000 0), (20, (roC L).av), (21, .vint .i64 L.length), (22, .int .i64 0)], loH p L, 1020⟩, some ((List.range L.length).all (fusI L)), fun d => match d with
  | true => (.exit 0, ⟨[(1, .ptr 1000 0)], loH p L, 1020⟩)
  | false => (.ret, ⟨[(2, .bool false)], [], 1020⟩)⟩
set_option maxHeartbeats 2000000 in
set_option maxRecDepth 100000 in
theorem r1_loop (p : Int) (L : List Con) (hL : okE L) : AnnOk Tryz.prog EV.ng (Nat.max 1 Tryz.f40.ntmps) (bodyAt Tryz.f40 [0, 1, 0, 1, 1]) (r1Ann p L) := by
  refine ann_of evOk (callF_ok evOk (orcOf_ok entsRF_ok) 8) none_ann (by kernel_rfl) (by kernel_rfl) (fun i : Nat => (fun (k : Nat) => (⟨[(1, .ptr 1000 0), (20, (roC L).av), (21, .vint .i64 L.length), (22, .vint .i64 (k : Int))], loH p L, 1020⟩ : St)) i) (fun i : Nat => (fun (k : Nat) => (L.length - k : Nat)) i) (fun (d : Bool) (i : Nat) => (fun (k : Nat) => (k ≤ L.length ∧ ((List.range L.length).drop k).all (fusI L) = d : Prop)) i) ?_ ?_
  · intro d hd
    exact ⟨(0), [L.length = L.length ∧ (fun i => (L.getD i Con.zero).rvs) = fun i => (L.getD i Con.zero).rvs, (↑L.length : Int) = (↑L.length : Int), (0 : Int) = (↑(0 : Nat) : Int), p = p, L.length = L.length ∧ (fun i => (L.getD i Con.zero).rvs) = fun i => (L.getD i Con.zero).rvs], by kernel_rfl, (by refine ⟨?_, ?_, ?_, ?_, (?_ : L.length = L.length ∧ (fun i => (L.getD i Con.zero).rvs) = fun i => (L.getD i Con.zero).rvs)⟩ <;> (first | rfl | assumption | omega | simp_all)), (by exact ⟨Nat.zero_le _, hd⟩)⟩
  · rintro d hd k hI
    cases d
    · -- d = false
      obtain ⟨hk, hs⟩ := hI
      have hk : k ≤ L.length := hk
      have hl := hL.1
      have ek : IntKind.i64.wrap ((k : Int) + 1) = ((k + 1 : Nat) : Int) := by rw [w64 (by omega) (by omega)]; omega
      refine Or.elim (Bool.eq_false_or_eq_true (decide ((↑k : Int) < (↑L.length : Int)))) (fun d1 => Or.elim (Bool.eq_false_or_eq_true (decide ((L.getD k Con.zero).oddity < (0 : Int)))) (fun d2 => ⟨[true, true], .inr ⟨[Dec (decide ((L.getD k Con.zero).oddity < (0 : Int))) true, (0 : Int) ≤ (↑k : Int) ∧ (↑k : Int) < (↑L.length : Int), Dec (decide ((↑k : Int) < (↑L.length : Int))) true], by kernel_rfl, ⟨d2, ?_, d1⟩, rfl⟩⟩)
           (fun d2 => Or.elim (Bool.eq_false_or_eq_true (decide ((L.getD k Con.zero).oddity > (7 : Int)))) (fun d3 => ⟨[true, false, true], .inr ⟨[Dec (decide ((L.getD k Con.zero).oddity > (7 : Int))) true, Dec (decide ((L.getD k Con.zero).oddity < (0 : Int))) false, (0 : Int) ≤ (↑k : Int) ∧ (↑k : Int) < (↑L.length : Int), Dec (decide ((↑k : Int) < (↑L.length : Int))) true], by kernel_rfl, ⟨d3, d2, ?_, d1⟩, rfl⟩⟩)
           (fun d3 => Or.elim (Bool.eq_false_or_eq_true ((L.getD k Con.zero).odd)) (fun d4 => Or.elim (Bool.eq_false_or_eq_true ((partM (consR L.length fun i => (L.getD i Con.zero).rvs) (↑k : Int)).getD (Int.toNat (0 : Int)) (0 : Int) == (↑k : Int))) (fun d5 => ⟨[true, false, false, false, true, false], .inl ⟨(k + 1), [L.length = L.length ∧ (fun i => (L.getD i Con.zero).rvs) = fun i => (L.getD i Con.zero).rvs, (↑L.length : Int) = (↑L.length : Int), IntKind.i64.wrap ((↑k : Int) + (1 : Int)) = (↑(k + (1 : Nat)) : Int), p = p, L.length = L.length ∧ (fun i => (L.getD i Con.zero).rvs) = fun i => (L.getD i Con.zero).rvs, Dec ((partM (consR L.length fun i => (L.getD i Con.zero).rvs) (↑k : Int)).getD (Int.toNat (0 : Int)) (0 : Int) != (↑k : Int)) false, (0 : Int) ≤ (0 : Int) ∧ (0 : Int) < (↑(partM (consR L.length fun i => (L.getD i Con.zero).rvs) (↑k : Int)).length : Int), (∀ (i : Nat), i < L.length → (fun i => (L.getD i Con.zero).rvs) i = (Con.ofR ((fun i => (L.getD i Con.zero).rvs) i)).rvs) ∧ okE (consR L.length fun i => (L.getD i Con.zero).rvs), Dec (L.getD k Con.zero).odd true, Dec (!(L.getD k Con.zero).odd) false, Dec (decide ((L.getD k Con.zero).oddity > (7 : Int))) false, Dec (decide ((L.getD k Con.zero).oddity < (0 : Int))) false, (0 : Int) ≤ (↑k : Int) ∧ (↑k : Int) < (↑L.length : Int), Dec (decide ((↑k : Int) < (↑L.length : Int))) true], by kernel_rfl, ⟨?_, ?_, ?_, ?_, ?_, (dN d5), ?_, ?_, d4, (dN d4), d3, d2, ?_, d1⟩, MuG.out ?_, InG.out ?_⟩⟩)
           (fun d5 => Or.elim (Bool.eq_false_or_eq_true ((L.getD k Con.zero).oddity == (0 : Int))) (fun d6 => ⟨[true, false, false, false, true, true, false], .inl ⟨(k + 1), [L.length = L.length ∧ (fun i => (L.getD i Con.zero).rvs) = fun i => (L.getD i Con.zero).rvs, (↑L.length : Int) = (↑L.length : Int), IntKind.i64.wrap ((↑k : Int) + (1 : Int)) = (↑(k + (1 : Nat)) : Int), p = p, L.length = L.length ∧ (fun i => (L.getD i Con.zero).rvs) = fun i => (L.getD i Con.zero).rvs, Dec ((L.getD k Con.zero).oddity != (0 : Int)) false, Dec ((partM (consR L.length fun i => (L.getD i Con.zero).rvs) (↑k : Int)).getD (Int.toNat (0 : Int)) (0 : Int) != (↑k : Int)) true, (0 : Int) ≤ (0 : Int) ∧ (0 : Int) < (↑(partM (consR L.length fun i => (L.getD i Con.zero).rvs) (↑k : Int)).length : Int), (∀ (i : Nat), i < L.length → (fun i => (L.getD i Con.zero).rvs) i = (Con.ofR ((fun i => (L.getD i Con.zero).rvs) i)).rvs) ∧ okE (consR L.length fun i => (L.getD i Con.zero).rvs), Dec (L.getD k Con.zero).odd true, Dec (!(L.getD k Con.zero).odd) false, Dec (decide ((L.getD k Con.zero).oddity > (7 : Int))) false, Dec (decide ((L.getD k Con.zero).oddity < (0 : Int))) false, (0 : Int) ≤ (↑k : Int) ∧ (↑k : Int) < (↑L.length : Int), Dec (decide ((↑k : Int) < (↑L.length : Int))) true], by kernel_rfl, ⟨?_, ?_, ?_, ?_, ?_, (dN d6), (dN d5), ?_, ?_, d4, (dN d4), d3, d2, ?_, d1⟩, MuG.out ?_, InG.out ?_⟩⟩)
           (fun d6 => ⟨[true, false, false, false, true, true, true], .inr ⟨[Dec ((L.getD k Con.zero).oddity != (0 : Int)) true, Dec ((partM (consR L.length fun i => (L.getD i Con.zero).rvs) (↑k : Int)).getD (Int.toNat (0 : Int)) (0 : Int) != (↑k : Int)) true, (0 : Int) ≤ (0 : Int) ∧ (0 : Int) < (↑(partM (consR L.length fun i => (L.getD i Con.zero).rvs) (↑k : Int)).length : Int), (∀ (i : Nat), i < L.length → (fun i => (L.getD i Con.zero).rvs) i = (Con.ofR ((fun i => (L.getD i Con.zero).rvs) i)).rvs) ∧ okE (consR L.length fun i => (L.getD i Con.zero).rvs), Dec (L.getD k Con.zero).odd true, Dec (!(L.getD k Con.zero).odd) false, Dec (decide ((L.getD k Con.zero).oddity > (7 : Int))) false, Dec (decide ((L.getD k Con.zero).oddity < (0 : Int))) false, (0 : Int) ≤ (↑k : Int) ∧ (↑k : Int) < (↑L.length : Int), Dec (decide ((↑k : Int) < (↑L.length : Int))) true], by kernel_rfl, ⟨(dN d6), (dN d5), ?_, ?_, d4, (dN d4), d3, d2, ?_, d1⟩, rfl⟩⟩)))
           (fun d4 => Or.elim (Bool.eq_false_or_eq_true ((L.getD k Con.zero).dim.tmod (2 : Int) == (0 : Int))) (fun d5 => Or.elim (Bool.eq_false_or_eq_true ((L.getD k Con.zero).oddity == (0 : Int))) (fun d6 => ⟨[true, false, false, true, false, false, false], .inl ⟨(k + 1), [L.length = L.length ∧ (fun i => (L.getD i Con.zero).rvs) = fun i => (L.getD i Con.zero).rvs, (↑L.length : Int) = (↑L.length : Int), IntKind.i64.wrap ((↑k : Int) + (1 : Int)) = (↑(k + (1 : Nat)) : Int), p = p, L.length = L.length ∧ (fun i => (L.getD i Con.zero).rvs) = fun i => (L.getD i Con.zero).rvs, Dec (L.getD k Con.zero).odd false, Dec ((L.getD k Con.zero).oddity != (0 : Int)) false, Dec ((L.getD k Con.zero).dim.tmod (2 : Int) != (0 : Int)) false, (2 : Int) ≠ (0 : Int), Dec (!(L.getD k Con.zero).odd) true, Dec (decide ((L.getD k Con.zero).oddity > (7 : Int))) false, Dec (decide ((L.getD k Con.zero).oddity < (0 : Int))) false, (0 : Int) ≤ (↑k : Int) ∧ (↑k : Int) < (↑L.length : Int), Dec (decide ((↑k : Int) < (↑L.length : Int))) true], by kernel_rfl, ⟨?_, ?_, ?_, ?_, ?_, d4, (dN d6), (dN d5), ?_, (dN d4), d3, d2, ?_, d1⟩, MuG.out ?_, InG.out ?_⟩⟩)
           (fun d6 => ⟨[true, false, false, true, false, true], .inr ⟨[Dec ((L.getD k Con.zero).oddity != (0 : Int)) true, Dec ((L.getD k Con.zero).dim.tmod (2 : Int) != (0 : Int)) false, (2 : Int) ≠ (0 : Int), Dec (!(L.getD k Con.zero).odd) true, Dec (decide ((L.getD k Con.zero).oddity > (7 : Int))) false, Dec (decide ((L.getD k Con.zero).oddity < (0 : Int))) false, (0 : Int) ≤ (↑k : Int) ∧ (↑k : Int) < (↑L.length : Int), Dec (decide ((↑k : Int) < (↑L.length : Int))) true], by kernel_rfl, ⟨(dN d6), (dN d5), ?_, (dN d4), d3, d2, ?_, d1⟩, rfl⟩⟩))
           (fun d5 => ⟨[true, false, false, true, true], .inr ⟨[Dec ((L.getD k Con.zero).dim.tmod (2 : Int) != (0 : Int)) true, (2 : Int) ≠ (0 : Int), Dec (!(L.getD k Con.zero).odd) true, Dec (decide ((L.getD k Con.zero).oddity > (7 : Int))) false, Dec (decide ((L.getD k Con.zero).oddity < (0 : Int))) false, (0 : Int) ≤ (↑k : Int) ∧ (↑k : Int) < (↑L.length : Int), Dec (decide ((↑k : Int) < (↑L.length : Int))) true], by kernel_rfl, ⟨(dN d5), ?_, (dN d4), d3, d2, ?_, d1⟩, rfl⟩⟩)))))
           (fun d1 => CtG.no ?_)
      all_goals first | (refine MuG.mk ?_; (simp only [decide_eq_true_eq] at *; show L.length - (k + 1) < L.length - k; omega)) | (refine InG.mk ?_; (simp only [decide_eq_true_eq, decide_eq_false_iff_not, consR_ro, Int.toNat_natCast, Int.toNat_zero, beq_iff_eq, beq_eq_false_iff_ne, ne_eq, gt_iff_lt] at *; rw [rngA_drop (by omega)] at hs; rw [show fusI L k = true from fusI_iff.2 (by simp only [at_]; refine ⟨?_, ?_, ?_⟩ <;> first | omega | (intro ho; simp_all; done) | (simp_all; done))] at hs; exact ⟨by omega, hs⟩)) | (refine CtG.mk ?_; (simp only [decide_eq_true_eq, decide_eq_false_iff_not, consR_ro, Int.toNat_natCast, Int.toNat_zero, beq_iff_eq, beq_eq_false_iff_ne, ne_eq, gt_iff_lt] at *; first | (rw [rngA_end (by omega)] at hs; cases hs; done) | (rw [rngA_drop (by omega)] at hs; rw [show fusI L k = false from fusI_no (by simp only [at_]; first | (rintro ⟨q1, q2, q3⟩; omega) | (rintro ⟨q1, q2, q3⟩; simp_all; done))] at hs; cases hs; done))) | (first | (with_reducible rfl) | exact ⟨rfl, rfl⟩ | (exact (by decide : (2 : Int) ≠ 0)) | exact ⟨fun _ _ => rfl, by rw [consR_ro]; exact hL⟩ | ((try simp only [ek, consR_ro, Int.toNat_natCast, Int.toNat_zero, decide_eq_true_eq, decide_eq_false_iff_not] at *) <;> first | omega | (have h0 := part_pos (L := L) (i := k) (by omega) (by assumption); omega)))
    · -- d = true
      obtain ⟨hk, hs⟩ := hI
      have hk : k ≤ L.length := hk
      have hl := hL.1
      have ek : IntKind.i64.wrap ((k : Int) + 1) = ((k + 1 : Nat) : Int) := by rw [w64 (by omega) (by omega)]; omega
      refine Or.elim (Bool.eq_false_or_eq_true (decide ((↑k : Int) < (↑L.length : Int)))) (fun d1 => Or.elim (Bool.eq_false_or_eq_true (decide ((L.getD k Con.zero).oddity < (0 : Int)))) (fun d2 => CtG.no ?_)
           (fun d2 => Or.elim (Bool.eq_false_or_eq_true (decide ((L.getD k Con.zero).oddity > (7 : Int)))) (fun d3 => CtG.no ?_)
           (fun d3 => Or.elim (Bool.eq_false_or_eq_true ((L.getD k Con.zero).odd)) (fun d4 => Or.elim (Bool.eq_false_or_eq_true ((partM (consR L.length fun i => (L.getD i Con.zero).rvs) (↑k : Int)).getD (Int.toNat (0 : Int)) (0 : Int) == (↑k : Int))) (fun d5 => ⟨[true, false, false, false, true, false], .inl ⟨(k + 1), [L.length = L.length ∧ (fun i => (L.getD i Con.zero).rvs) = fun i => (L.getD i Con.zero).rvs, (↑L.length : Int) = (↑L.length : Int), IntKind.i64.wrap ((↑k : Int) + (1 : Int)) = (↑(k + (1 : Nat)) : Int), p = p, L.length = L.length ∧ (fun i => (L.getD i Con.zero).rvs) = fun i => (L.getD i Con.zero).rvs, Dec ((partM (consR L.length fun i => (L.getD i Con.zero).rvs) (↑k : Int)).getD (Int.toNat (0 : Int)) (0 : Int) != (↑k : Int)) false, (0 : Int) ≤ (0 : Int) ∧ (0 : Int) < (↑(partM (consR L.length fun i => (L.getD i Con.zero).rvs) (↑k : Int)).length : Int), (∀ (i : Nat), i < L.length → (fun i => (L.getD i Con.zero).rvs) i = (Con.ofR ((fun i => (L.getD i Con.zero).rvs) i)).rvs) ∧ okE (consR L.length fun i => (L.getD i Con.zero).rvs), Dec (L.getD k Con.zero).odd true, Dec (!(L.getD k Con.zero).odd) false, Dec (decide ((L.getD k Con.zero).oddity > (7 : Int))) false, Dec (decide ((L.getD k Con.zero).oddity < (0 : Int))) false, (0 : Int) ≤ (↑k : Int) ∧ (↑k : Int) < (↑L.length : Int), Dec (decide ((↑k : Int) < (↑L.length : Int))) true], by kernel_rfl, ⟨?_, ?_, ?_, ?_, ?_, (dN d5), ?_, ?_, d4, (dN d4), d3, d2, ?_, d1⟩, MuG.out ?_, InG.out ?_⟩⟩)
           (fun d5 => Or.elim (Bool.eq_false_or_eq_true ((L.getD k Con.zero).oddity == (0 : Int))) (fun d6 => ⟨[true, false, false, false, true, true, false], .inl ⟨(k + 1), [L.length = L.length ∧ (fun i => (L.getD i Con.zero).rvs) = fun i => (L.getD i Con.zero).rvs, (↑L.length : Int) = (↑L.length : Int), IntKind.i64.wrap ((↑k : Int) + (1 : Int)) = (↑(k + (1 : Nat)) : Int), p = p, L.length = L.length ∧ (fun i => (L.getD i Con.zero).rvs) = fun i => (L.getD i Con.zero).rvs, Dec ((L.getD k Con.zero).oddity != (0 : Int)) false, Dec ((partM (consR L.length fun i => (L.getD i Con.zero).rvs) (↑k : Int)).getD (Int.toNat (0 : Int)) (0 : Int) != (↑k : Int)) true, (0 : Int) ≤ (0 : Int) ∧ (0 : Int) < (↑(partM (consR L.length fun i => (L.getD i Con.zero).rvs) (↑k : Int)).length : Int), (∀ (i : Nat), i < L.length → (fun i => (L.getD i Con.zero).rvs) i = (Con.ofR ((fun i => (L.getD i Con.zero).rvs) i)).rvs) ∧ okE (consR L.length fun i => (L.getD i Con.zero).rvs), Dec (L.getD k Con.zero).odd true, Dec (!(L.getD k Con.zero).odd) false, Dec (decide ((L.getD k Con.zero).oddity > (7 : Int))) false, Dec (decide ((L.getD k Con.zero).oddity < (0 : Int))) false, (0 : Int) ≤ (↑k : Int) ∧ (↑k : Int) < (↑L.length : Int), Dec (decide ((↑k : Int) < (↑L.length : Int))) true], by kernel_rfl, ⟨?_, ?_, ?_, ?_, ?_, (dN d6), (dN d5), ?_, ?_, d4, (dN d4), d3, d2, ?_, d1⟩, MuG.out ?_, InG.out ?_⟩⟩)
           (fun d6 => CtG.no ?_)))
           (fun d4 => Or.elim (Bool.eq_false_or_eq_true ((L.getD k Con.zero).dim.tmod (2 : Int) == (0 : Int))) (fun d5 => Or.elim (Bool.eq_false_or_eq_true ((L.getD k Con.zero).oddity == (0 : Int))) (fun d6 => ⟨[true, false, false, true, false, false, false], .inl ⟨(k + 1), [L.length = L.length ∧ (fun i => (L.getD i Con.zero).rvs) = fun i => (L.getD i Con.zero).rvs, (↑L.length : Int) = (↑L.length : Int), IntKind.i64.wrap ((↑k : Int) + (1 : Int)) = (↑(k + (1 : Nat)) : Int), p = p, L.length = L.length ∧ (fun i => (L.getD i Con.zero).rvs) = fun i => (L.getD i Con.zero).rvs, Dec (L.getD k Con.zero).odd false, Dec ((L.getD k Con.zero).oddity != (0 : Int)) false, Dec ((L.getD k Con.zero).dim.tmod (2 : Int) != (0 : Int)) false, (2 : Int) ≠ (0 : Int), Dec (!(L.getD k Con.zero).odd) true, Dec (decide ((L.getD k Con.zero).oddity > (7 : Int))) false, Dec (decide ((L.getD k Con.zero).oddity < (0 : Int))) false, (0 : Int) ≤ (↑k : Int) ∧ (↑k : Int) < (↑L.length : Int), Dec (decide ((↑k : Int) < (↑L.length : Int))) true], by kernel_rfl, ⟨?_, ?_, ?_, ?_, ?_, d4, (dN d6), (dN d5), ?_, (dN d4), d3, d2, ?_, d1⟩, MuG.out ?_, InG.out ?_⟩⟩)
           (fun d6 => CtG.no ?_))
           (fun d5 => CtG.no ?_)))))
           (fun d1 => ⟨[false], .inr ⟨[p = p, L.length = L.length ∧ (fun i => (L.getD i Con.zero).rvs) = fun i => (L.getD i Con.zero).rvs, Dec (decide ((↑k : Int) < (↑L.length : Int))) false], by kernel_rfl, ⟨?_, ?_, d1⟩, rfl⟩⟩)
      all_goals first | (refine MuG.mk ?_; (simp only [decide_eq_true_eq] at *; show L.length - (k + 1) < L.length - k; omega)) | (refine InG.mk ?_; (simp only [decide_eq_true_eq, decide_eq_false_iff_not, consR_ro, Int.toNat_natCast, Int.toNat_zero, beq_iff_eq, beq_eq_false_iff_ne, ne_eq, gt_iff_lt] at *; rw [rngA_drop (by omega)] at hs; rw [show fusI L k = true from fusI_iff.2 (by simp only [at_]; refine ⟨?_, ?_, ?_⟩ <;> first | omega | (intro ho; simp_all; done) | (simp_all; done))] at hs; exact ⟨by omega, hs⟩)) | (refine CtG.mk ?_; (simp only [decide_eq_true_eq, decide_eq_false_iff_not, consR_ro, Int.toNat_natCast, Int.toNat_zero, beq_iff_eq, beq_eq_false_iff_ne, ne_eq, gt_iff_lt] at *; first | (rw [rngA_end (by omega)] at hs; cases hs; done) | (rw [rngA_drop (by omega)] at hs; rw [show fusI L k = false from fusI_no (by simp only [at_]; first | (rintro ⟨q1, q2, q3⟩; omega) | (rintro ⟨q1, q2, q3⟩; simp_all; done))] at hs; cases hs; done))) | (first | (with_reducible rfl) | exact ⟨rfl, rfl⟩ | (exact (by decide : (2 : Int) ≠ 0)) | exact ⟨fun _ _ => rfl, by rw [consR_ro]; exact hL⟩ | ((try simp only [ek, consR_ro, Int.toNat_natCast, Int.toNat_zero, decide_eq_true_eq, decide_eq_false_iff_not] at *) <;> first | omega | (have h0 := part_pos (L := L) (i := k) (by omega) (by assumption); omega)))
noncomputable def r3T (P : List (List Int)) (j : Nat) : List (Nat × AV) := [(1, .ptr 1000 0), (71, (roR .i64 P).av), (72, .vint .i64 P.length), (73, .vint .i64 (j : Int)), (6, (rI .i64 (rowAt P j)).av)]
noncomputable def r3Ann (p : Int) (L : List Con) (P : List (List Int)) (j : Nat) : Ann := ⟨⟨r3T P j ++ [(7, .int .i64 0), (77, (rI .i64 (rowAt P j)).av), (78, .vint .i64 (rowAt P j).length), (79, .int .i64 0)], loH p L, 1020⟩, none, fun _ =>
  (.exit 4, ⟨r3T P j ++ [(7, .vint .i64 (dimR L (rowAt P j)))], loH p L, 1020⟩)⟩
set_option maxRecDepth 100000 in
theorem r3_loop (p : Int) (L : List Con) (P : List (List Int)) (j : Nat) (hL : okL L) (hr : inR L.length (rowAt P j)) (hn : (rowAt P j).length ≤ 1000) : AnnOk Tryz.prog EV.ng (Nat.max 1 Tryz.f40.ntmps) (bodyAt Tryz.f40 [0, 1, 0, 1, 1, 0, 0, 1, 1, 0, 0, 1, 0, 1, 1, 1]) (r3Ann p L P j) := by
  refine ann_of evOk (callF_ok evOk (noOrc_ok _ _) 8) none_ann (by kernel_rfl) (by kernel_rfl) (fun i : Nat × Int => (fun (t : Nat) (n : Int) => (⟨r3T P j ++ [(7, .vint .i64 n), (77, (rI .i64 (rowAt P j)).av), (78, .vint .i64 (rowAt P j).length), (79, .vint .i64 (t : Int))], loH p L, 1020⟩ : St)) i.1 i.2) (fun i : Nat × Int => (fun (t : Nat) (n : Int) => ((rowAt P j).length - t : Nat)) i.1 i.2) (fun (d : Bool) (i : Nat × Int) => (fun (t : Nat) (n : Int) => (t ≤ (rowAt P j).length ∧ n = dimR L ((rowAt P j).take t) : Prop)) i.1 i.2) ?_ ?_
  · intro d hd
    exact ⟨(0, 0), [P.length = P.length ∧ (fun i => [rI IntKind.i64 (P.getD i [])]) = fun i => [rI IntKind.i64 (P.getD i [])], (↑P.length : Int) = (↑P.length : Int), (↑j : Int) = (↑j : Int), (rowAt P j).length = (rowAt P j).length ∧ (fun j_1 => [RV.int IntKind.i64 ((rowAt P j).getD j_1 (0 : Int))]) = fun j_1 => [RV.int IntKind.i64 ((rowAt P j).getD j_1 (0 : Int))], (0 : Int) = (0 : Int), (rowAt P j).length = (rowAt P j).length ∧ (fun j_1 => [RV.int IntKind.i64 ((rowAt P j).getD j_1 (0 : Int))]) = fun j_1 => [RV.int IntKind.i64 ((rowAt P j).getD j_1 (0 : Int))], (↑(rowAt P j).length : Int) = (↑(rowAt P j).length : Int), (0 : Int) = (↑(0 : Nat) : Int), p = p, L.length = L.length ∧ (fun i => (L.getD i Con.zero).rvs) = fun i => (L.getD i Con.zero).rvs], by kernel_rfl, (by refine ⟨?_, ?_, ?_, ?_, ?_, ?_, ?_, ?_, ?_, (?_ : L.length = L.length ∧ (fun i => (L.getD i Con.zero).rvs) = fun i => (L.getD i Con.zero).rvs)⟩ <;> (first | rfl | assumption | omega | simp_all)), (by exact ⟨Nat.zero_le _, rfl⟩)⟩
  · rintro d hd ⟨t, n⟩ hI
    cases d
    · -- d = false
      exact Bool.noConfusion (show false = true from hd)
    · -- d = true
      obtain ⟨ht, hs⟩ := hI
      have ht : t ≤ (rowAt P j).length := ht
      have hs : n = dimR L ((rowAt P j).take t) := hs
      have ek : IntKind.i64.wrap ((t : Int) + 1) = ((t + 1 : Nat) : Int) := by rw [w64 (by omega) (by omega)]; omega
      have hb := dimR_b hL (l := (rowAt P j).take t) (fun x hx => hr x (List.mem_of_mem_take hx))
      have hb2 : (((rowAt P j).take t).length : Int) ≤ 1000 := by simp only [List.length_take]; omega
      refine Or.elim (Bool.eq_false_or_eq_true (decide ((↑t : Int) < (↑(rowAt P j).length : Int)))) (fun d1 => ⟨[true], .inl ⟨(t + 1, n + (at_ L ((rowAt P j).getD t 0).toNat).dim), [P.length = P.length ∧ (fun i => [rI IntKind.i64 (P.getD i [])]) = fun i => [rI IntKind.i64 (P.getD i [])], (↑P.length : Int) = (↑P.length : Int), (↑j : Int) = (↑j : Int), (rowAt P j).length = (rowAt P j).length ∧ (fun j_1 => [RV.int IntKind.i64 ((rowAt P j).getD j_1 (0 : Int))]) = fun j_1 => [RV.int IntKind.i64 ((rowAt P j).getD j_1 (0 : Int))], IntKind.i64.wrap (n + (L.getD ((rowAt P j).getD t (0 : Int)).toNat Con.zero).dim) = n + (at_ L ((rowAt P j).getD t (0 : Int)).toNat).dim, (rowAt P j).length = (rowAt P j).length ∧ (fun j_1 => [RV.int IntKind.i64 ((rowAt P j).getD j_1 (0 : Int))]) = fun j_1 => [RV.int IntKind.i64 ((rowAt P j).getD j_1 (0 : Int))], (↑(rowAt P j).length : Int) = (↑(rowAt P j).length : Int), IntKind.i64.wrap ((↑t : Int) + (1 : Int)) = (↑(t + (1 : Nat)) : Int), p = p, L.length = L.length ∧ (fun i => (L.getD i Con.zero).rvs) = fun i => (L.getD i Con.zero).rvs, (0 : Int) ≤ (rowAt P j).getD t (0 : Int) ∧ (rowAt P j).getD t (0 : Int) < (↑L.length : Int), (0 : Int) ≤ (↑t : Int) ∧ (↑t : Int) < (↑(rowAt P j).length : Int), Dec (decide ((↑t : Int) < (↑(rowAt P j).length : Int))) true], by kernel_rfl, ⟨?_, ?_, ?_, ?_, ?_, ?_, ?_, ?_, ?_, ?_, ?_, ?_, d1⟩, MuG.out ?_, InG.out ?_⟩⟩)
           (fun d1 => ⟨[false], .inr ⟨[P.length = P.length ∧ (fun i => [rI IntKind.i64 (P.getD i [])]) = fun i => [rI IntKind.i64 (P.getD i [])], (↑P.length : Int) = (↑P.length : Int), (↑j : Int) = (↑j : Int), (rowAt P j).length = (rowAt P j).length ∧ (fun j_1 => [RV.int IntKind.i64 ((rowAt P j).getD j_1 (0 : Int))]) = fun j_1 => [RV.int IntKind.i64 ((rowAt P j).getD j_1 (0 : Int))], n = dimR L (rowAt P j), p = p, L.length = L.length ∧ (fun i => (L.getD i Con.zero).rvs) = fun i => (L.getD i Con.zero).rvs, Dec (decide ((↑t : Int) < (↑(rowAt P j).length : Int))) false], by kernel_rfl, ⟨?_, ?_, ?_, ?_, ?_, ?_, ?_, d1⟩, rfl⟩⟩)
      all_goals first | (refine MuG.mk ?_; (simp only [decide_eq_true_eq] at *; show (rowAt P j).length - (t + 1) < (rowAt P j).length - t; omega)) | (refine InG.mk ?_; (simp only [decide_eq_true_eq, decide_eq_false_iff_not, Int.toNat_natCast, gt_iff_lt] at *; exact ⟨by omega, by rw [dimR_take (by omega), hs]⟩)) | (refine CtG.mk ?_; (simp_all)) | (first | (with_reducible rfl) | exact ⟨rfl, rfl⟩ | ((try simp only [ek, Int.toNat_natCast, decide_eq_true_eq, decide_eq_false_iff_not, gt_iff_lt] at *) <;> first | omega | (have h1 := hr.at (t := t) (by omega); omega) | (have h2 := dim_b (t := t) hL hr (by omega); simp only [at_] at h2 ⊢; exact w64 (by omega) (by omega)) | (rw [hs, List.take_of_length_le (by omega)]; done)))
noncomputable def r2Ann (p : Int) (L : List Con) (P : List (List Int)) : Ann := ⟨⟨[(1, .ptr 1000 0), (71, (roR .i64 P).av), (72, .vint .i64 P.length), (73, .int .i64 0)], loH p L, 1020⟩, some (P.all (parR L)), fun d => match d with
  | true => (.exit 2, ⟨[], [], 1020⟩)
  | false => (.ret, ⟨[(2, .bool false)], [], 1020⟩)⟩
set_option maxRecDepth 100000 in
theorem r2_loop (p : Int) (L : List Con) (P : List (List Int)) (hL : okL L) (hP : ∀ l ∈ P, l ≠ [] ∧ inR L.length l ∧ l.length ≤ L.length) (hm : P.length ≤ 1000) : AnnOk Tryz.prog EV.ng (Nat.max 1 Tryz.f40.ntmps) (bodyAt Tryz.f40 [0, 1, 0, 1, 1, 1]) (r2Ann p L P) := by
  refine ann_ofI evOk (callF_ok evOk (noOrc_ok _ _) 8) (by kernel_rfl) (by kernel_rfl) (fun i : Nat => (fun (j : Nat) => (⟨[(1, .ptr 1000 0), (71, (roR .i64 P).av), (72, .vint .i64 P.length), (73, .vint .i64 (j : Int))], loH p L, 1020⟩ : St)) i) (fun i : Nat => (fun (j : Nat) => (P.length - j : Nat)) i) (fun (d : Bool) (i : Nat) => (fun (j : Nat) => (j ≤ P.length ∧ (P.drop j).all (parR L) = d : Prop)) i) (fun i : Nat => (fun (j : Nat) => ([([0, 1, 0, 1, 1, 0, 0, 1, 1, 0, 0, 1, 0, 1, 1, 1], r3Ann p L P j)] : List (List Nat × Ann))) i) ?_ ?_ ?_
  · rintro d hd j hI
    exact one_ann (r3_loop p L P j hL (by rcases Nat.lt_or_ge j P.length with h | h; exact (hP _ (rowAt_mem h)).2.1; intro x hx; simp [rowAt, h] at hx) (by have := hL.1; rcases Nat.lt_or_ge j P.length with h | h; have := (hP _ (rowAt_mem h)).2.2; omega; simp [rowAt, h]))
  · intro d hd
    exact ⟨(0), [P.length = P.length ∧ (fun i => [rI IntKind.i64 (P.getD i [])]) = fun i => [rI IntKind.i64 (P.getD i [])], (↑P.length : Int) = (↑P.length : Int), (0 : Int) = (↑(0 : Nat) : Int), p = p, L.length = L.length ∧ (fun i => (L.getD i Con.zero).rvs) = fun i => (L.getD i Con.zero).rvs], by kernel_rfl, (by refine ⟨?_, ?_, ?_, ?_, (?_ : L.length = L.length ∧ (fun i => (L.getD i Con.zero).rvs) = fun i => (L.getD i Con.zero).rvs)⟩ <;> (first | rfl | assumption | omega | simp_all)), (by exact ⟨Nat.zero_le _, hd⟩)⟩
  · rintro d hd j hI
    cases d
    · -- d = false
      obtain ⟨ht, hs⟩ := hI
      have ht : j ≤ P.length := ht
      have hl1 := hL.1
      have ek : IntKind.i64.wrap ((j : Int) + 1) = ((j + 1 : Nat) : Int) := by rw [w64 (by omega) (by omega)]; omega
      refine Or.elim (Bool.eq_false_or_eq_true (decide ((↑j : Int) < (↑P.length : Int)))) (fun d1 => Or.elim (Bool.eq_false_or_eq_true ((IntKind.i64.wrap ((L.getD ((rowAt P j).getD (Int.toNat (0 : Int)) (0 : Int)).toNat Con.zero).oddity - dimR L (rowAt P j))).tmod (2 : Int) == (0 : Int))) (fun d2 => ⟨[true, false], .inl ⟨(j + 1), [P.length = P.length ∧ (fun i => [rI IntKind.i64 (P.getD i [])]) = fun i => [rI IntKind.i64 (P.getD i [])], (↑P.length : Int) = (↑P.length : Int), IntKind.i64.wrap ((↑j : Int) + (1 : Int)) = (↑(j + (1 : Nat)) : Int), p = p, L.length = L.length ∧ (fun i => (L.getD i Con.zero).rvs) = fun i => (L.getD i Con.zero).rvs, Dec ((IntKind.i64.wrap ((L.getD ((rowAt P j).getD (Int.toNat (0 : Int)) (0 : Int)).toNat Con.zero).oddity - dimR L (rowAt P j))).tmod (2 : Int) != (0 : Int)) false, (2 : Int) ≠ (0 : Int), (0 : Int) ≤ (rowAt P j).getD (Int.toNat (0 : Int)) (0 : Int) ∧ (rowAt P j).getD (Int.toNat (0 : Int)) (0 : Int) < (↑L.length : Int), (0 : Int) ≤ (0 : Int) ∧ (0 : Int) < (↑(rowAt P j).length : Int), P.length = P.length ∧ (fun i => [rI IntKind.i64 (P.getD i [])]) = fun i => [rI IntKind.i64 (P.getD i [])], (↑P.length : Int) = (↑P.length : Int), (↑j : Int) = (↑j : Int), (P.getD j []).length = (rowAt P j).length ∧ (fun j_1 => [RV.int IntKind.i64 ((P.getD j []).getD j_1 (0 : Int))]) = fun j_1 => [RV.int IntKind.i64 ((rowAt P j).getD j_1 (0 : Int))], (P.getD j []).length = (rowAt P j).length ∧ (fun j_1 => [RV.int IntKind.i64 ((P.getD j []).getD j_1 (0 : Int))]) = fun j_1 => [RV.int IntKind.i64 ((rowAt P j).getD j_1 (0 : Int))], (↑(P.getD j []).length : Int) = (↑(rowAt P j).length : Int), p = p, L.length = L.length ∧ (fun i => (L.getD i Con.zero).rvs) = fun i => (L.getD i Con.zero).rvs, (0 : Int) ≤ (↑j : Int) ∧ (↑j : Int) < (↑P.length : Int), Dec (decide ((↑j : Int) < (↑P.length : Int))) true], by kernel_rfl, ⟨?_, ?_, ?_, ?_, ?_, (dN d2), ?_, ?_, ?_, ?_, ?_, ?_, ?_, ?_, ?_, ?_, ?_, ?_, d1⟩, MuG.out ?_, InG.out ?_⟩⟩)
           (fun d2 => ⟨[true, true], .inr ⟨[Dec ((IntKind.i64.wrap ((L.getD ((rowAt P j).getD (Int.toNat (0 : Int)) (0 : Int)).toNat Con.zero).oddity - dimR L (rowAt P j))).tmod (2 : Int) != (0 : Int)) true, (2 : Int) ≠ (0 : Int), (0 : Int) ≤ (rowAt P j).getD (Int.toNat (0 : Int)) (0 : Int) ∧ (rowAt P j).getD (Int.toNat (0 : Int)) (0 : Int) < (↑L.length : Int), (0 : Int) ≤ (0 : Int) ∧ (0 : Int) < (↑(rowAt P j).length : Int), P.length = P.length ∧ (fun i => [rI IntKind.i64 (P.getD i [])]) = fun i => [rI IntKind.i64 (P.getD i [])], (↑P.length : Int) = (↑P.length : Int), (↑j : Int) = (↑j : Int), (P.getD j []).length = (rowAt P j).length ∧ (fun j_1 => [RV.int IntKind.i64 ((P.getD j []).getD j_1 (0 : Int))]) = fun j_1 => [RV.int IntKind.i64 ((rowAt P j).getD j_1 (0 : Int))], (P.getD j []).length = (rowAt P j).length ∧ (fun j_1 => [RV.int IntKind.i64 ((P.getD j []).getD j_1 (0 : Int))]) = fun j_1 => [RV.int IntKind.i64 ((rowAt P j).getD j_1 (0 : Int))], (↑(P.getD j []).length : Int) = (↑(rowAt P j).length : Int), p = p, L.length = L.length ∧ (fun i => (L.getD i Con.zero).rvs) = fun i => (L.getD i Con.zero).rvs, (0 : Int) ≤ (↑j : Int) ∧ (↑j : Int) < (↑P.length : Int), Dec (decide ((↑j : Int) < (↑P.length : Int))) true], by kernel_rfl, ⟨(dN d2), ?_, ?_, ?_, ?_, ?_, ?_, ?_, ?_, ?_, ?_, ?_, ?_, d1⟩, rfl⟩⟩))
           (fun d1 => CtG.no ?_)
      all_goals first | (refine MuG.mk ?_; (simp only [decide_eq_true_eq] at *; show P.length - (j + 1) < P.length - j; omega)) | (refine InG.mk ?_; (simp only [decide_eq_true_eq, Int.toNat_natCast, Int.toNat_zero] at *; have h0 := hP _ (rowAt_mem (P := P) (t := j) (by omega)); rw [allP_drop (by omega), ← par_w hL h0.1 h0.2.1 (by omega)] at hs; refine ⟨by omega, ?_⟩; simp only [at_] at hs; rw [d2] at hs; exact hs)) | (refine CtG.mk ?_; (simp only [decide_eq_true_eq, decide_eq_false_iff_not, Int.toNat_natCast, Int.toNat_zero] at *; first | (rw [List.drop_eq_nil_of_le (by omega)] at hs; cases hs; done) | (have h0 := hP _ (rowAt_mem (P := P) (t := j) (by omega)); rw [allP_drop (by omega), ← par_w hL h0.1 h0.2.1 (by omega)] at hs; simp only [at_] at hs; rw [d2] at hs; cases hs; done))) | (first | (with_reducible rfl) | exact ⟨rfl, rfl⟩ | (exact (by decide : (2 : Int) ≠ 0)) | ((try simp only [ek, Int.toNat_natCast, Int.toNat_zero, decide_eq_true_eq, decide_eq_false_iff_not] at *) <;> first | omega | (have h0 := hP _ (rowAt_mem (P := P) (t := j) (by omega)); have h1 : 0 < (P.getD j []).length := List.length_pos_iff.2 h0.1; have h2 : 0 ≤ (P.getD j []).getD 0 0 ∧ (P.getD j []).getD 0 0 < (L.length : Int) := h0.2.1.at (t := 0) h1; have h3 : 0 < (rowAt P j).length := h1; have h4 : 0 ≤ (rowAt P j).getD 0 0 ∧ (rowAt P j).getD 0 0 < (L.length : Int) := h2; omega)))
    · -- d = true
      obtain ⟨ht, hs⟩ := hI
      have ht : j ≤ P.length := ht
      have hl1 := hL.1
      have ek : IntKind.i64.wrap ((j : Int) + 1) = ((j + 1 : Nat) : Int) := by rw [w64 (by omega) (by omega)]; omega
      refine Or.elim (Bool.eq_false_or_eq_true (decide ((↑j : Int) < (↑P.length : Int)))) (fun d1 => Or.elim (Bool.eq_false_or_eq_true ((IntKind.i64.wrap ((L.getD ((rowAt P j).getD (Int.toNat (0 : Int)) (0 : Int)).toNat Con.zero).oddity - dimR L (rowAt P j))).tmod (2 : Int) == (0 : Int))) (fun d2 => ⟨[true, false], .inl ⟨(j + 1), [P.length = P.length ∧ (fun i => [rI IntKind.i64 (P.getD i [])]) = fun i => [rI IntKind.i64 (P.getD i [])], (↑P.length : Int) = (↑P.length : Int), IntKind.i64.wrap ((↑j : Int) + (1 : Int)) = (↑(j + (1 : Nat)) : Int), p = p, L.length = L.length ∧ (fun i => (L.getD i Con.zero).rvs) = fun i => (L.getD i Con.zero).rvs, Dec ((IntKind.i64.wrap ((L.getD ((rowAt P j).getD (Int.toNat (0 : Int)) (0 : Int)).toNat Con.zero).oddity - dimR L (rowAt P j))).tmod (2 : Int) != (0 : Int)) false, (2 : Int) ≠ (0 : Int), (0 : Int) ≤ (rowAt P j).getD (Int.toNat (0 : Int)) (0 : Int) ∧ (rowAt P j).getD (Int.toNat (0 : Int)) (0 : Int) < (↑L.length : Int), (0 : Int) ≤ (0 : Int) ∧ (0 : Int) < (↑(rowAt P j).length : Int), P.length = P.length ∧ (fun i => [rI IntKind.i64 (P.getD i [])]) = fun i => [rI IntKind.i64 (P.getD i [])], (↑P.length : Int) = (↑P.length : Int), (↑j : Int) = (↑j : Int), (P.getD j []).length = (rowAt P j).length ∧ (fun j_1 => [RV.int IntKind.i64 ((P.getD j []).getD j_1 (0 : Int))]) = fun j_1 => [RV.int IntKind.i64 ((rowAt P j).getD j_1 (0 : Int))], (P.getD j []).length = (rowAt P j).length ∧ (fun j_1 => [RV.int IntKind.i64 ((P.getD j []).getD j_1 (0 : Int))]) = fun j_1 => [RV.int IntKind.i64 ((rowAt P j).getD j_1 (0 : Int))], (↑(P.getD j []).length : Int) = (↑(rowAt P j).length : Int), p = p, L.length = L.length ∧ (fun i => (L.getD i Con.zero).rvs) = fun i => (L.getD i Con.zero).rvs, (0 : Int) ≤ (↑j : Int) ∧ (↑j : Int) < (↑P.length : Int), Dec (decide ((↑j : Int) < (↑P.length : Int))) true], by kernel_rfl, ⟨?_, ?_, ?_, ?_, ?_, (dN d2), ?_, ?_, ?_, ?_, ?_, ?_, ?_, ?_, ?_, ?_, ?_, ?_, d1⟩, MuG.out ?_, InG.out ?_⟩⟩)
           (fun d2 => CtG.no ?_))
           (fun d1 => ⟨[false], .inr ⟨[Dec (decide ((↑j : Int) < (↑P.length : Int))) false], by kernel_rfl, d1, rfl⟩⟩)
      all_goals first | (refine MuG.mk ?_; (simp only [decide_eq_true_eq] at *; show P.length - (j + 1) < P.length - j; omega)) | (refine InG.mk ?_; (simp only [decide_eq_true_eq, Int.toNat_natCast, Int.toNat_zero] at *; have h0 := hP _ (rowAt_mem (P := P) (t := j) (by omega)); rw [allP_drop (by omega), ← par_w hL h0.1 h0.2.1 (by omega)] at hs; refine ⟨by omega, ?_⟩; simp only [at_] at hs; rw [d2] at hs; exact hs)) | (refine CtG.mk ?_; (simp only [decide_eq_true_eq, decide_eq_false_iff_not, Int.toNat_natCast, Int.toNat_zero] at *; first | (rw [List.drop_eq_nil_of_le (by omega)] at hs; cases hs; done) | (have h0 := hP _ (rowAt_mem (P := P) (t := j) (by omega)); rw [allP_drop (by omega), ← par_w hL h0.1 h0.2.1 (by omega)] at hs; simp only [at_] at hs; rw [d2] at hs; cases hs; done))) | (first | (with_reducible rfl) | exact ⟨rfl, rfl⟩ | (exact (by decide : (2 : Int) ≠ 0)) | ((try simp only [ek, Int.toNat_natCast, Int.toNat_zero, decide_eq_true_eq, decide_eq_false_iff_not] at *) <;> first | omega | (have h0 := hP _ (rowAt_mem (P := P) (t := j) (by omega)); have h1 : 0 < (P.getD j []).length := List.length_pos_iff.2 h0.1; have h2 : 0 ≤ (P.getD j []).getD 0 0 ∧ (P.getD j []).getD 0 0 < (L.length : Int) := h0.2.1.at (t := 0) h1; have h3 : 0 < (rowAt P j).length := h1; have h4 : 0 ≤ (rowAt P j).getD 0 0 ∧ (rowAt P j).getD 0 0 < (L.length : Int) := h2; omega)))
theorem ord_at {L : List Con} (h : orderV L = true) : L.length ≤ 8 ∧ ∀ c ∈ L, (0 ≤ c.exp ∧ c.exp ≤ 60) ∧ (1 ≤ c.dim ∧ c.dim ≤ 8) ∧ (c.sign = 1 ∨ c.sign = -1) := by
  rw [order_sh] at h
  simp only [Bool.and_eq_true] at h
  obtain ⟨⟨h1, h2⟩, h3⟩ := h
  obtain ⟨i1, i2, i3⟩ := sh_at (by decide) (by decide) h2
  have hne : L ≠ [] := by intro e; rw [e] at h1; cases h1
  have hd : dimS L ≤ 8 := by rcases i2 with i2 | i2; omega; exact absurd i2 hne
  refine ⟨by omega, fun c hc => ?_⟩
  have h4 := i1 c hc
  exact ⟨⟨h4.1, h4.2.1⟩, h4.2.2, of_decide_eq_true (List.all_eq_true.1 h3 c hc)⟩
theorem okE_ord {L : List Con} (h : orderV L = true) : okE L := by
  obtain ⟨h1, h2⟩ := ord_at h
  exact ⟨by omega, fun c hc => ⟨(h2 c hc).1.1, by have := (h2 c hc).1.2; omega⟩⟩
theorem okL_ord {L : List Con} (h : orderV L = true) (hf : (List.range L.length).all (fusI L) = true) : okL L := by
  obtain ⟨h1, h2⟩ := ord_at h
  refine ⟨by omega, fun c hc => ?_⟩
  obtain ⟨k, hk, rfl⟩ := List.getElem_of_mem hc
  have h3 := fusI_iff.1 (List.all_eq_true.1 hf k (by simpa using hk))
  rw [show at_ L k = L[k] by simp [at_, hk]] at h3
  have := h2 _ hc
  exact ⟨⟨this.1.1, by omega⟩, ⟨this.2.1.1, by omega⟩, this.2.2, h3.1⟩
set_option maxRecDepth 100000 in
theorem rfused_0 (p : Int) (L : List Con) (hn : L.length ≤ 1000) (h1 : orderV L = false) : PureC Tryz.prog [] 40 [.agg [.int .i64 p, roC L]] (.bool (fusM p L)) := by
  have k1 : orderV (consR L.length fun i => (L.getD i Con.zero).rvs) = false := (by rw [consR_ro]; exact h1)
  have rr := fun (tp : List Bool) (ms : List Prop) h hm => pure_run evOk (callF_ok evOk (orcOf_ok entsRF_ok) 8) Tryz.func40 (A := [.agg [.int .i64 p, roC L]]) rfl none_ann rfl rfl evNg (tabs := []) (R := .bool (fusM p L)) (tp := tp) (ms := ms) h hm
  refine Or.elim (Bool.eq_false_or_eq_true (p == (2 : Int))) (fun d1 => rr [false, true] [false = fusM p L, Dec (!orderV (consR L.length fun i => (L.getD i Con.zero).rvs)) true, (∀ (i : Nat), i < L.length → (fun i => (L.getD i Con.zero).rvs) i = (Con.ofR ((fun i => (L.getD i Con.zero).rvs) i)).rvs) ∧ L.length ≤ (1000 : Nat), Dec (p != (2 : Int)) false] (by kernel_rfl) ⟨?_, (dN k1), ?_, (dN d1)⟩)
           (fun d1 => rr [true] [false = fusM p L, Dec (p != (2 : Int)) true] (by kernel_rfl) ⟨?_, (dN d1)⟩)
  all_goals first | (first | (with_reducible rfl) | exact ⟨rfl, rfl⟩ | exact ⟨fun _ _ => rfl, hn⟩ | (unfold fusM; rw [h1]; simp; done))
set_option maxRecDepth 100000 in
theorem rfused_1 (p : Int) (L : List Con) (hn : L.length ≤ 1000) (h1 : orderV L = true) (h2 : (List.range L.length).all (fusI L) = false) : PureC Tryz.prog [] 40 [.agg [.int .i64 p, roC L]] (.bool (fusM p L)) := by
  have k1 : orderV (consR L.length fun i => (L.getD i Con.zero).rvs) = true := (by rw [consR_ro]; exact h1)
  have rr := fun (tp : List Bool) (ms : List Prop) h hm => pure_run evOk (callF_ok evOk (orcOf_ok entsRF_ok) 8) Tryz.func40 (A := [.agg [.int .i64 p, roC L]]) (N := Nat.max 1 Tryz.f40.ntmps) rfl (one_ann (r1_loop p L (okE_ord h1))) rfl rfl evNg (tabs := []) (R := .bool (fusM p L)) (tp := tp) (ms := ms) h hm
  refine Or.elim (Bool.eq_false_or_eq_true (p == (2 : Int))) (fun d1 => rr [false, false, false] [false = fusM p L, L.length = L.length ∧ (fun i => (L.getD i Con.zero).rvs) = fun i => (L.getD i Con.zero).rvs, (↑L.length : Int) = (↑L.length : Int), p = p, L.length = L.length ∧ (fun i => (L.getD i Con.zero).rvs) = fun i => (L.getD i Con.zero).rvs, Dec ((List.range L.length).all (fusI L)) false, Dec (!orderV (consR L.length fun i => (L.getD i Con.zero).rvs)) false, (∀ (i : Nat), i < L.length → (fun i => (L.getD i Con.zero).rvs) i = (Con.ofR ((fun i => (L.getD i Con.zero).rvs) i)).rvs) ∧ L.length ≤ (1000 : Nat), Dec (p != (2 : Int)) false] (by kernel_rfl) ⟨?_, ?_, ?_, ?_, ?_, h2, (dN k1), ?_, (dN d1)⟩)
           (fun d1 => rr [true] [false = fusM p L, Dec (p != (2 : Int)) true] (by kernel_rfl) ⟨?_, (dN d1)⟩)
  all_goals first | (first | (with_reducible rfl) | exact ⟨rfl, rfl⟩ | exact ⟨fun _ _ => rfl, hn⟩ | (unfold fusM; rw [h2]; simp; done))
set_option maxRecDepth 100000 in
theorem rfused_2 (p : Int) (L : List Con) (hn : L.length ≤ 1000) (h1 : orderV L = true) (h2 : (List.range L.length).all (fusI L) = true) : PureC Tryz.prog [] 40 [.agg [.int .i64 p, roC L]] (.bool (fusM p L)) := by
  have k1 : orderV (consR L.length fun i => (L.getD i Con.zero).rvs) = true := (by rw [consR_ro]; exact h1)
  have rr := fun (tp : List Bool) (ms : List Prop) h hm => pure_run evOk (callF_ok evOk (orcOf_ok entsRF_ok) 8) Tryz.func40 (A := [.agg [.int .i64 p, roC L]]) (N := Nat.max 1 Tryz.f40.ntmps) rfl (cons_ann (r1_loop p L (okE_ord h1)) (one_ann (r2_loop p L (partsM L) (okL_ord h1 h2) parts_rows (Nat.le_trans parts_len hn)))) rfl rfl evNg (tabs := []) (R := .bool (fusM p L)) (tp := tp) (ms := ms) h hm
  refine Or.elim (Bool.eq_false_or_eq_true (p == (2 : Int))) (fun d1 => Or.elim (Bool.eq_false_or_eq_true ((partsM L).all (parR L))) (fun d2 => rr [false, false, true, true] [true = fusM p L, (partsM (consR L.length fun i => (L.getD i Con.zero).rvs)).length = (partsM L).length ∧ (fun i => [rI IntKind.i64 ((partsM (consR L.length fun i => (L.getD i Con.zero).rvs)).getD i [])]) = fun i => [rI IntKind.i64 ((partsM L).getD i [])], (↑(partsM (consR L.length fun i => (L.getD i Con.zero).rvs)).length : Int) = (↑(partsM L).length : Int), p = p, L.length = L.length ∧ (fun i => (L.getD i Con.zero).rvs) = fun i => (L.getD i Con.zero).rvs, Dec ((partsM L).all (parR L)) true, (∀ (i : Nat), i < L.length → (fun i => (L.getD i Con.zero).rvs) i = (Con.ofR ((fun i => (L.getD i Con.zero).rvs) i)).rvs) ∧ okE (consR L.length fun i => (L.getD i Con.zero).rvs), L.length = L.length ∧ (fun i => (L.getD i Con.zero).rvs) = fun i => (L.getD i Con.zero).rvs, (↑L.length : Int) = (↑L.length : Int), p = p, L.length = L.length ∧ (fun i => (L.getD i Con.zero).rvs) = fun i => (L.getD i Con.zero).rvs, Dec ((List.range L.length).all (fusI L)) true, Dec (!orderV (consR L.length fun i => (L.getD i Con.zero).rvs)) false, (∀ (i : Nat), i < L.length → (fun i => (L.getD i Con.zero).rvs) i = (Con.ofR ((fun i => (L.getD i Con.zero).rvs) i)).rvs) ∧ L.length ≤ (1000 : Nat), Dec (p != (2 : Int)) false] (by kernel_rfl) ⟨?_, ?_, ?_, ?_, ?_, d2, ?_, ?_, ?_, ?_, ?_, h2, (dN k1), ?_, (dN d1)⟩)
           (fun d2 => rr [false, false, true, false] [false = fusM p L, (partsM (consR L.length fun i => (L.getD i Con.zero).rvs)).length = (partsM L).length ∧ (fun i => [rI IntKind.i64 ((partsM (consR L.length fun i => (L.getD i Con.zero).rvs)).getD i [])]) = fun i => [rI IntKind.i64 ((partsM L).getD i [])], (↑(partsM (consR L.length fun i => (L.getD i Con.zero).rvs)).length : Int) = (↑(partsM L).length : Int), p = p, L.length = L.length ∧ (fun i => (L.getD i Con.zero).rvs) = fun i => (L.getD i Con.zero).rvs, Dec ((partsM L).all (parR L)) false, (∀ (i : Nat), i < L.length → (fun i => (L.getD i Con.zero).rvs) i = (Con.ofR ((fun i => (L.getD i Con.zero).rvs) i)).rvs) ∧ okE (consR L.length fun i => (L.getD i Con.zero).rvs), L.length = L.length ∧ (fun i => (L.getD i Con.zero).rvs) = fun i => (L.getD i Con.zero).rvs, (↑L.length : Int) = (↑L.length : Int), p = p, L.length = L.length ∧ (fun i => (L.getD i Con.zero).rvs) = fun i => (L.getD i Con.zero).rvs, Dec ((List.range L.length).all (fusI L)) true, Dec (!orderV (consR L.length fun i => (L.getD i Con.zero).rvs)) false, (∀ (i : Nat), i < L.length → (fun i => (L.getD i Con.zero).rvs) i = (Con.ofR ((fun i => (L.getD i Con.zero).rvs) i)).rvs) ∧ L.length ≤ (1000 : Nat), Dec (p != (2 : Int)) false] (by kernel_rfl) ⟨?_, ?_, ?_, ?_, ?_, d2, ?_, ?_, ?_, ?_, ?_, h2, (dN k1), ?_, (dN d1)⟩))
           (fun d1 => rr [true] [false = fusM p L, Dec (p != (2 : Int)) true] (by kernel_rfl) ⟨?_, (dN d1)⟩)
  all_goals first | (first | (with_reducible rfl) | exact ⟨rfl, rfl⟩ | exact ⟨fun _ _ => rfl, hn⟩ | exact ⟨fun _ _ => rfl, by rw [consR_ro]; exact okE_ord h1⟩ | (rw [consR_ro]; first | done | rfl | exact ⟨rfl, rfl⟩) | (unfold fusM; rw [h1, h2]; simp_all; done))
theorem rfused_pure (p : Int) (L : List Con) (hn : L.length ≤ 1000) : PureC Tryz.prog [] 40 [.agg [.int .i64 p, roC L]] (.bool (fusM p L)) := by
  cases h1 : orderV L with
  | false => exact rfused_0 p L hn h1
  | true =>
    cases h2 : (List.range L.length).all (fusI L) with
    | false => exact rfused_1 p L hn h1 h2
    | true => exact rfused_2 p L hn h1 h2
end Go.Proofs.YtcfdaddablojlaaGreatDoor.S

/- Oddity and Walk, of package train and of the reference. -/
set_option linter.unusedSimpArgs false
set_option linter.unusedVariables false
namespace Go.Proofs.YtcfdaddablojlaaGreatDoor.S
open Go.QfSy Go.RowKit

noncomputable def shV (p : Int) (L : List Con) : Bool := val2M p L || fusM p L
def bO (v : Bool) (L : List Con) : Int := bif v then oddVM L else 0
theorem fus_p {p : Int} {L : List Con} (h : fusM p L = true) : p = 2 := by
  unfold fusM at h
  simp only [Bool.and_eq_true, beq_iff_eq] at h
  exact h.1
theorem shV_ok {p : Int} {L : List Con} (h : shV p L = true) : okL L := by
  unfold shV at h
  rcases Bool.or_eq_true _ _ ▸ h with h | h
  · have := val2_p h
    subst this
    exact (val2_ok h).1
  · have := fus_p h
    subst this
    exact fus_okL h
theorem okC_at {L : List Con} (hL : okL L) (k : Nat) : (0 ≤ (at_ L k).exp ∧ (at_ L k).exp ≤ 1000) ∧ (0 ≤ (at_ L k).oddity ∧ (at_ L k).oddity ≤ 7) := by
  rcases Nat.lt_or_ge k L.length with h | h
  · exact ⟨(hL.at h).1, (hL.at h).2.2.2⟩
  · have e : at_ L k = Con.zero := by simp [at_, List.getD_eq_getElem?_getD, List.getElem?_eq_none h]
    rw [e]; decide
theorem oddW_b {L : List Con} (hL : okL L) (k : Nat) : 0 ≤ oddW (at_ L k) ∧ oddW (at_ L k) ≤ 11 := by
  have := (okC_at hL k).2
  unfold oddW
  split <;> omega
theorem oddS_b {L : List Con} (hL : okL L) : ∀ {k : Nat}, k ≤ L.length → 0 ≤ sumN (fun j => oddW (at_ L j)) k ∧ sumN (fun j => oddW (at_ L j)) k ≤ 11 * k
  | 0, _ => by simp [sumN]
  | k + 1, h => by
    have ih := oddS_b hL (k := k) (by omega)
    have := oddW_b hL k
    simp only [sumN]
    omega
theorem oddW_4 {c : Con} (h1 : c.exp % 2 = 1) (h2 : c.sign = -1) : oddW c = c.oddity + 4 := by unfold oddW; rw [if_pos ⟨h1, h2⟩]
theorem oddW_0 {c : Con} (h : ¬ (c.exp % 2 = 1 ∧ c.sign = -1)) : oddW c = c.oddity := by unfold oddW; rw [if_neg h]; omega
noncomputable def odAnn (L : List Con) : Ann := ⟨⟨[(4, .int .i64 0), (16, (roC L).av), (17, .vint .i64 L.length), (18, .int .i64 0)], [], 1030⟩, none, fun _ => (.exit 0, ⟨[(4, .vint .i64 (sumN (fun j => oddW (at_ L j)) L.length))], [], 1030⟩)⟩
noncomputable def wkB (L : List Con) (a : Int) : Bool := decide (1 ≤ a) && (decide (a < (L.length : Int)) && linkM L a.toNat)
theorem wkB_1 {L : List Con} {a : Int} (h : ¬ 1 ≤ a) : wkB L a = false := by unfold wkB; rw [decide_eq_false h]; rfl
theorem wkB_2 {L : List Con} {a : Int} (h : ¬ a < (L.length : Int)) : wkB L a = false := by unfold wkB; rw [decide_eq_false h]; simp
theorem wkB_3 {L : List Con} {a : Int} (h : linkM L a.toNat = false) : wkB L a = false := by unfold wkB; rw [h]; simp
theorem wkB_4 {L : List Con} {a : Int} (h1 : 1 ≤ a) (h2 : a < (L.length : Int)) (h : linkM L a.toNat = true) : wkB L a = true := by unfold wkB; rw [decide_eq_true h1, decide_eq_true h2, h]; rfl
noncomputable def entsHT : List OEnt := [
  ⟨38, [], fun A => match A with
    | [.agg [.int .i64 p, .sl n 5 row]] => some (.bool (val2M p (consR n row)), [(∀ i, i < n → row i = (Con.ofR (row i)).rvs) ∧ n ≤ 1000])
    | _ => none⟩,
  ⟨35, [], fun A => match A with
    | [.agg [.int .i64 p, .sl n 5 row]] => some (.bool (fusM p (consR n row)), [(∀ i, i < n → row i = (Con.ofR (row i)).rvs) ∧ n ≤ 1000])
    | _ => none⟩,
  ⟨53, [], fun A => match A with
    | [.agg [.int .i64 p, .sl n 5 row], .int .i64 a] => some (.bool (linkM (consR n row) a.toNat), [(∀ i, i < n → row i = (Con.ofR (row i)).rvs) ∧ okL (consR n row) ∧ 1 ≤ a ∧ a < (n : Int)])
    | _ => none⟩,
  ⟨54, [], fun A => match A with
    | [.agg [.int .i64 p, .sl n 5 row], .int .i64 a] => some (.agg [.int .i64 2, roC (stepM (consR n row) a.toNat)], [(∀ i, i < n → row i = (Con.ofR (row i)).rvs) ∧ p = 2 ∧ okL (consR n row) ∧ 1 ≤ a ∧ a < (n : Int)])
    | _ => none⟩]
theorem entsHT_ok : ∀ e ∈ entsHT, EntOk Tryz.prog e := by
  intro e he
  simp only [entsHT, List.mem_cons, List.not_mem_nil, or_false] at he
  rcases he with rfl | rfl | rfl | rfl
  all_goals
    intro A R ms h hm
    simp only at h
    split at h
    all_goals first | (cases h; done) | cases h
  · obtain ⟨h1, h2⟩ := all_one hm
    exact PureC.imp (tvalid_pure _ _ (by rw [consR_len]; exact h2)) (.cons (.agg (.cons .same (.cons (.con h1) .nil))) .nil)
  · obtain ⟨h1, h2⟩ := all_one hm
    exact PureC.imp (tfused_pure _ _ (by rw [consR_len]; exact h2)) (.cons (.agg (.cons .same (.cons (.con h1) .nil))) .nil)
  · obtain ⟨h1, h3, h4, h5⟩ := all_one hm
    rename_i p _ _ a
    have e : ((a.toNat : Nat) : Int) = a := by omega
    have := tlinked_pure p _ a.toNat h3 (by omega) (by rw [consR_len]; omega)
    rw [e] at this
    exact PureC.imp this (.cons (.agg (.cons .same (.cons (.con h1) .nil))) (.cons .same .nil))
  · obtain ⟨h1, h2, h3, h4, h5⟩ := all_one hm
    rename_i a
    subst h2
    have e : ((a.toNat : Nat) : Int) = a := by omega
    have := twalk_pure _ a.toNat h3 (by omega) (by rw [consR_len]; omega)
    rw [e] at this
    exact PureC.imp this (.cons (.agg (.cons .same (.cons (.con h1) .nil))) (.cons .same .nil))
noncomputable def entsHR : List OEnt := [
  ⟨39, [], fun A => match A with
    | [.agg [.int .i64 p, .sl n 5 row]] => some (.bool (val2M p (consR n row)), [(∀ i, i < n → row i = (Con.ofR (row i)).rvs) ∧ n ≤ 1000])
    | _ => none⟩,
  ⟨40, [], fun A => match A with
    | [.agg [.int .i64 p, .sl n 5 row]] => some (.bool (fusM p (consR n row)), [(∀ i, i < n → row i = (Con.ofR (row i)).rvs) ∧ n ≤ 1000])
    | _ => none⟩,
  ⟨55, [], fun A => match A with
    | [.sl n 5 row, .int .i64 a] => some (.bool (linkM (consR n row) a.toNat), [(∀ i, i < n → row i = (Con.ofR (row i)).rvs) ∧ okL (consR n row) ∧ 1 ≤ a ∧ a < (n : Int)])
    | _ => none⟩,
  ⟨56, [], fun A => match A with
    | [.agg [.int .i64 p, .sl n 5 row], .int .i64 a] => some (.agg [.int .i64 2, roC (stepM (consR n row) a.toNat)], [(∀ i, i < n → row i = (Con.ofR (row i)).rvs) ∧ p = 2 ∧ okL (consR n row) ∧ 1 ≤ a ∧ a < (n : Int)])
    | _ => none⟩]
theorem entsHR_ok : ∀ e ∈ entsHR, EntOk Tryz.prog e := by
  intro e he
  simp only [entsHR, List.mem_cons, List.not_mem_nil, or_false] at he
  rcases he with rfl | rfl | rfl | rfl
  all_goals
    intro A R ms h hm
    simp only at h
    split at h
    all_goals first | (cases h; done) | cases h
  · obtain ⟨h1, h2⟩ := all_one hm
    exact PureC.imp (val2_pure _ _ (by rw [consR_len]; exact h2)) (.cons (.agg (.cons .same (.cons (.con h1) .nil))) .nil)
  · obtain ⟨h1, h2⟩ := all_one hm
    exact PureC.imp (rfused_pure _ _ (by rw [consR_len]; exact h2)) (.cons (.agg (.cons .same (.cons (.con h1) .nil))) .nil)
  · obtain ⟨h1, h3, h4, h5⟩ := all_one hm
    rename_i a
    have e : ((a.toNat : Nat) : Int) = a := by omega
    have := linked_pure _ a.toNat h3 (by omega) (by rw [consR_len]; omega)
    rw [e] at this
    exact PureC.imp this (.cons (.con h1) (.cons .same .nil))
  · obtain ⟨h1, h2, h3, h4, h5⟩ := all_one hm
    rename_i a
    subst h2
    have e : ((a.toNat : Nat) : Int) = a := by omega
    have := step_pure _ a.toNat h3 (by omega) (by rw [consR_len]; omega)
    rw [e] at this
    exact PureC.imp this (.cons (.agg (.cons .same (.cons (.con h1) .nil))) (.cons .same .nil))
set_option maxRecDepth 100000 in
theorem tod_loop (L : List Con) (hL : okL L) : AnnOk Tryz.prog EV.ng (Nat.max 1 Tryz.f27.ntmps) (bodyAt Tryz.f27 [0, 1, 0, 1, 1, 1]) (odAnn L) := by
  refine ann_of evOk (callF_ok evOk (noOrc_ok _ _) 8) none_ann (by kernel_rfl) (by kernel_rfl) (fun i : Nat × Int => (fun (k : Nat) (n : Int) => (⟨[(4, .vint .i64 n), (16, (roC L).av), (17, .vint .i64 L.length), (18, .vint .i64 (k : Int))], [], 1030⟩ : St)) i.1 i.2) (fun i : Nat × Int => (fun (k : Nat) (n : Int) => (L.length - k : Nat)) i.1 i.2) (fun (d : Bool) (i : Nat × Int) => (fun (k : Nat) (n : Int) => (k ≤ L.length ∧ n = sumN (fun j => oddW (at_ L j)) k : Prop)) i.1 i.2) ?_ ?_
  · intro d hd
    exact ⟨(0, 0), [(0 : Int) = (0 : Int), L.length = L.length ∧ (fun i => (L.getD i Con.zero).rvs) = fun i => (L.getD i Con.zero).rvs, (↑L.length : Int) = (↑L.length : Int), (0 : Int) = (↑(0 : Nat) : Int)], by kernel_rfl, (by refine ⟨?_, ?_, ?_, (?_ : (0 : Int) = (↑(0 : Nat) : Int))⟩ <;> (first | rfl | assumption | omega | simp_all)), (by exact ⟨Nat.zero_le _, rfl⟩)⟩
  · rintro d hd ⟨k, n⟩ hI
    cases d
    · -- d = false
      exact Bool.noConfusion (show false = true from hd)
    · -- d = true
      obtain ⟨hk, hs⟩ := hI
      have hk : k ≤ L.length := hk
      have hs : n = sumN (fun j => oddW (at_ L j)) k := hs
      have hl := hL.1
      have ek : IntKind.i64.wrap ((k : Int) + 1) = ((k + 1 : Nat) : Int) := by rw [w64 (by omega) (by omega)]; omega
      have hb := oddS_b hL hk
      have hc := okC_at hL k
      have e1 : IntKind.i64.wrap (n + (L.getD k Con.zero).oddity) = n + (L.getD k Con.zero).oddity := by simp only [at_] at hc; rw [hs]; exact w64 (by omega) (by omega)
      refine Or.elim (Bool.eq_false_or_eq_true (decide ((↑k : Int) < (↑L.length : Int)))) (fun d1 => Or.elim (Bool.eq_false_or_eq_true ((L.getD k Con.zero).exp.tmod (2 : Int) == (1 : Int))) (fun d2 => Or.elim (Bool.eq_false_or_eq_true ((L.getD k Con.zero).sign == (-1 : Int))) (fun d3 => ⟨[true, true, true], .inl ⟨(k + 1, n + oddW (at_ L k)), [IntKind.i64.wrap (IntKind.i64.wrap (n + (L.getD k Con.zero).oddity) + (4 : Int)) = n + oddW (at_ L k), L.length = L.length ∧ (fun i => (L.getD i Con.zero).rvs) = fun i => (L.getD i Con.zero).rvs, (↑L.length : Int) = (↑L.length : Int), IntKind.i64.wrap ((↑k : Int) + (1 : Int)) = (↑(k + (1 : Nat)) : Int), Dec ((L.getD k Con.zero).sign == (-1 : Int)) true, Dec ((L.getD k Con.zero).exp.tmod (2 : Int) == (1 : Int)) true, (2 : Int) ≠ (0 : Int), (0 : Int) ≤ (↑k : Int) ∧ (↑k : Int) < (↑L.length : Int), Dec (decide ((↑k : Int) < (↑L.length : Int))) true], by kernel_rfl, ⟨?_, ?_, ?_, ?_, d3, d2, ?_, ?_, d1⟩, MuG.out ?_, InG.out ?_⟩⟩)
           (fun d3 => ⟨[true, true, false], .inl ⟨(k + 1, n + oddW (at_ L k)), [IntKind.i64.wrap (n + (L.getD k Con.zero).oddity) = n + oddW (at_ L k), L.length = L.length ∧ (fun i => (L.getD i Con.zero).rvs) = fun i => (L.getD i Con.zero).rvs, (↑L.length : Int) = (↑L.length : Int), IntKind.i64.wrap ((↑k : Int) + (1 : Int)) = (↑(k + (1 : Nat)) : Int), Dec ((L.getD k Con.zero).sign == (-1 : Int)) false, Dec ((L.getD k Con.zero).exp.tmod (2 : Int) == (1 : Int)) true, (2 : Int) ≠ (0 : Int), (0 : Int) ≤ (↑k : Int) ∧ (↑k : Int) < (↑L.length : Int), Dec (decide ((↑k : Int) < (↑L.length : Int))) true], by kernel_rfl, ⟨?_, ?_, ?_, ?_, d3, d2, ?_, ?_, d1⟩, MuG.out ?_, InG.out ?_⟩⟩))
           (fun d2 => ⟨[true, false], .inl ⟨(k + 1, n + oddW (at_ L k)), [IntKind.i64.wrap (n + (L.getD k Con.zero).oddity) = n + oddW (at_ L k), L.length = L.length ∧ (fun i => (L.getD i Con.zero).rvs) = fun i => (L.getD i Con.zero).rvs, (↑L.length : Int) = (↑L.length : Int), IntKind.i64.wrap ((↑k : Int) + (1 : Int)) = (↑(k + (1 : Nat)) : Int), Dec ((L.getD k Con.zero).exp.tmod (2 : Int) == (1 : Int)) false, (2 : Int) ≠ (0 : Int), (0 : Int) ≤ (↑k : Int) ∧ (↑k : Int) < (↑L.length : Int), Dec (decide ((↑k : Int) < (↑L.length : Int))) true], by kernel_rfl, ⟨?_, ?_, ?_, ?_, d2, ?_, ?_, d1⟩, MuG.out ?_, InG.out ?_⟩⟩))
           (fun d1 => ⟨[false], .inr ⟨[n = sumN (fun j => oddW (at_ L j)) L.length, Dec (decide ((↑k : Int) < (↑L.length : Int))) false], by kernel_rfl, ⟨?_, d1⟩, rfl⟩⟩)
      all_goals first | (refine MuG.mk ?_; (simp only [decide_eq_true_eq] at *; show L.length - (k + 1) < L.length - k; omega)) | (refine InG.mk ?_; (simp only [decide_eq_true_eq] at *; exact ⟨by omega, by rw [hs]; rfl⟩)) | (refine CtG.mk ?_; (simp_all)) | (first | (with_reducible rfl) | exact ⟨rfl, rfl⟩ | (exact (by decide : (2 : Int) ≠ 0)) | ((try simp only [at_] at hc) <;> (try simp only [ek, at_, Int.toNat_natCast, decide_eq_true_eq, decide_eq_false_iff_not, beq_iff_eq, beq_eq_false_iff_ne, ne_eq] at *) <;> first | omega | (rw [e1, w64 (by omega) (by omega)]; rw [oddW_4 (by rw [← Int.tmod_eq_emod_of_nonneg (by omega)]; assumption) (by assumption)]; omega) | (rw [e1]; rw [oddW_0 (by rw [← Int.tmod_eq_emod_of_nonneg (by omega)]; first | (exact fun h => absurd h.1 (by assumption)) | (exact fun h => absurd h.2 (by assumption)))]) | (have e : k = L.length := (by omega); subst e; rw [hs]; done)))
set_option maxRecDepth 100000 in
theorem todd_yes (p : Int) (L : List Con) (hL : okL L) (hv : shV p L = true) : PureC Tryz.prog [] 27 [.agg [.int .i64 p, roC L]] (.tup [.int .i64 (oddVM L), .bool true]) := by
  have hl := hL.1; have hs := oddS_b hL (Nat.le_refl L.length)
  have rr := fun (tp : List Bool) (ms : List Prop) h hm => pure_run evOk (callF_ok evOk (orcOf_ok entsHT_ok) 8) Tryz.func27 (A := [.agg [.int .i64 p, roC L]]) (N := Nat.max 1 Tryz.f27.ntmps) rfl (one_ann (tod_loop L hL)) rfl rfl evNg (tabs := []) (R := .tup [.int .i64 (oddVM L), .bool true]) (tp := tp) (ms := ms) h hm
  refine Or.elim (Bool.eq_false_or_eq_true (val2M p (consR L.length fun i => (L.getD i Con.zero).rvs))) (fun d1 => rr [false] [(sumN (fun j => oddW (at_ L j)) L.length).tmod (8 : Int) = oddVM L, true = true, (8 : Int) ≠ (0 : Int), L.length = L.length ∧ (fun i => (L.getD i Con.zero).rvs) = fun i => (L.getD i Con.zero).rvs, (↑L.length : Int) = (↑L.length : Int), Dec (!val2M p (consR L.length fun i => (L.getD i Con.zero).rvs)) false, (∀ (i : Nat), i < L.length → (fun i => (L.getD i Con.zero).rvs) i = (Con.ofR ((fun i => (L.getD i Con.zero).rvs) i)).rvs) ∧ L.length ≤ (1000 : Nat)] (by kernel_rfl) ⟨?_, ?_, ?_, ?_, ?_, (dN d1), (?_ : (∀ (i : Nat), i < L.length → (fun i => (L.getD i Con.zero).rvs) i = (Con.ofR ((fun i => (L.getD i Con.zero).rvs) i)).rvs) ∧ L.length ≤ (1000 : Nat))⟩)
           (fun d1 => Or.elim (Bool.eq_false_or_eq_true (fusM p (consR L.length fun i => (L.getD i Con.zero).rvs))) (fun d2 => rr [true, false] [(sumN (fun j => oddW (at_ L j)) L.length).tmod (8 : Int) = oddVM L, true = true, (8 : Int) ≠ (0 : Int), L.length = L.length ∧ (fun i => (L.getD i Con.zero).rvs) = fun i => (L.getD i Con.zero).rvs, (↑L.length : Int) = (↑L.length : Int), Dec (!fusM p (consR L.length fun i => (L.getD i Con.zero).rvs)) false, (∀ (i : Nat), i < L.length → (fun i => (L.getD i Con.zero).rvs) i = (Con.ofR ((fun i => (L.getD i Con.zero).rvs) i)).rvs) ∧ L.length ≤ (1000 : Nat), Dec (!val2M p (consR L.length fun i => (L.getD i Con.zero).rvs)) true, (∀ (i : Nat), i < L.length → (fun i => (L.getD i Con.zero).rvs) i = (Con.ofR ((fun i => (L.getD i Con.zero).rvs) i)).rvs) ∧ L.length ≤ (1000 : Nat)] (by kernel_rfl) ⟨?_, ?_, ?_, ?_, ?_, (dN d2), ?_, (dN d1), (?_ : (∀ (i : Nat), i < L.length → (fun i => (L.getD i Con.zero).rvs) i = (Con.ofR ((fun i => (L.getD i Con.zero).rvs) i)).rvs) ∧ L.length ≤ (1000 : Nat))⟩)
           (fun d2 => CtG.no ?_))
  all_goals first | (refine CtG.mk ?_; (rw [consR_ro] at d1 d2; unfold shV at hv; rw [d1, d2] at hv; cases hv)) | (first | (with_reducible rfl) | exact ⟨rfl, rfl⟩ | exact ⟨fun _ _ => rfl, hl⟩ | (exact (by decide : (8 : Int) ≠ 0)) | (exact Int.tmod_eq_emod_of_nonneg hs.1))
set_option maxRecDepth 100000 in
theorem todd_no (p : Int) (L : List Con) (hl : L.length ≤ 1000) (hv : val2M p L = false) (hv2 : fusM p L = false) : PureC Tryz.prog [] 27 [.agg [.int .i64 p, roC L]] (.tup [.int .i64 0, .bool false]) := by
  have k1 : val2M p (consR L.length fun i => (L.getD i Con.zero).rvs) = false := (by rw [consR_ro]; exact hv); have k2 : fusM p (consR L.length fun i => (L.getD i Con.zero).rvs) = false := (by rw [consR_ro]; exact hv2)
  have rr := fun (tp : List Bool) (ms : List Prop) h hm => pure_run evOk (callF_ok evOk (orcOf_ok entsHT_ok) 8) Tryz.func27 (A := [.agg [.int .i64 p, roC L]]) rfl none_ann rfl rfl evNg (tabs := []) (R := .tup [.int .i64 0, .bool false]) (tp := tp) (ms := ms) h hm
  refine rr [true, true] [(0 : Int) = (0 : Int), false = false, Dec (!fusM p (consR L.length fun i => (L.getD i Con.zero).rvs)) true, (∀ (i : Nat), i < L.length → (fun i => (L.getD i Con.zero).rvs) i = (Con.ofR ((fun i => (L.getD i Con.zero).rvs) i)).rvs) ∧ L.length ≤ (1000 : Nat), Dec (!val2M p (consR L.length fun i => (L.getD i Con.zero).rvs)) true, (∀ (i : Nat), i < L.length → (fun i => (L.getD i Con.zero).rvs) i = (Con.ofR ((fun i => (L.getD i Con.zero).rvs) i)).rvs) ∧ L.length ≤ (1000 : Nat)] (by kernel_rfl) ⟨?_, ?_, (dN k2), ?_, (dN k1), (?_ : (∀ (i : Nat), i < L.length → (fun i => (L.getD i Con.zero).rvs) i = (Con.ofR ((fun i => (L.getD i Con.zero).rvs) i)).rvs) ∧ L.length ≤ (1000 : Nat))⟩
  all_goals first | (first | (with_reducible rfl) | exact ⟨rfl, rfl⟩ | exact ⟨fun _ _ => rfl, hl⟩)
theorem todd_pure (p : Int) (L : List Con) (hn : L.length ≤ 1000) : PureC Tryz.prog [] 27 [.agg [.int .i64 p, roC L]] (.tup [.int .i64 (bO (shV p L) L), .bool (shV p L)]) := by
  cases h : shV p L with
  | true => exact todd_yes p L (shV_ok h) h
  | false =>
    unfold shV at h
    simp only [Bool.or_eq_false_iff] at h
    exact todd_no p L hn h.1 h.2
set_option maxRecDepth 100000 in
theorem rod_loop (L : List Con) (hL : okL L) : AnnOk Tryz.prog EV.ng (Nat.max 1 Tryz.f28.ntmps) (bodyAt Tryz.f28 [0, 1, 0, 1, 1, 1]) (odAnn L) := by
  refine ann_of evOk (callF_ok evOk (noOrc_ok _ _) 8) none_ann (by kernel_rfl) (by kernel_rfl) (fun i : Nat × Int => (fun (k : Nat) (n : Int) => (⟨[(4, .vint .i64 n), (16, (roC L).av), (17, .vint .i64 L.length), (18, .vint .i64 (k : Int))], [], 1030⟩ : St)) i.1 i.2) (fun i : Nat × Int => (fun (k : Nat) (n : Int) => (L.length - k : Nat)) i.1 i.2) (fun (d : Bool) (i : Nat × Int) => (fun (k : Nat) (n : Int) => (k ≤ L.length ∧ n = sumN (fun j => oddW (at_ L j)) k : Prop)) i.1 i.2) ?_ ?_
  · intro d hd
    exact ⟨(0, 0), [(0 : Int) = (0 : Int), L.length = L.length ∧ (fun i => (L.getD i Con.zero).rvs) = fun i => (L.getD i Con.zero).rvs, (↑L.length : Int) = (↑L.length : Int), (0 : Int) = (↑(0 : Nat) : Int)], by kernel_rfl, (by refine ⟨?_, ?_, ?_, (?_ : (0 : Int) = (↑(0 : Nat) : Int))⟩ <;> (first | rfl | assumption | omega | simp_all)), (by exact ⟨Nat.zero_le _, rfl⟩)⟩
  · rintro d hd ⟨k, n⟩ hI
    cases d
    · -- d = false
      exact Bool.noConfusion (show false = true from hd)
    · -- d = true
      obtain ⟨hk, hs⟩ := hI
      have hk : k ≤ L.length := hk
      have hs : n = sumN (fun j => oddW (at_ L j)) k := hs
      have hl := hL.1
      have ek : IntKind.i64.wrap ((k : Int) + 1) = ((k + 1 : Nat) : Int) := by rw [w64 (by omega) (by omega)]; omega
      have hb := oddS_b hL hk
      have hc := okC_at hL k
      have e1 : IntKind.i64.wrap (n + (L.getD k Con.zero).oddity) = n + (L.getD k Con.zero).oddity := by simp only [at_] at hc; rw [hs]; exact w64 (by omega) (by omega)
      refine Or.elim (Bool.eq_false_or_eq_true (decide ((↑k : Int) < (↑L.length : Int)))) (fun d1 => Or.elim (Bool.eq_false_or_eq_true ((L.getD k Con.zero).exp.tmod (2 : Int) == (1 : Int))) (fun d2 => Or.elim (Bool.eq_false_or_eq_true ((L.getD k Con.zero).sign == (-1 : Int))) (fun d3 => ⟨[true, true, true], .inl ⟨(k + 1, n + oddW (at_ L k)), [IntKind.i64.wrap (IntKind.i64.wrap (n + (L.getD k Con.zero).oddity) + (4 : Int)) = n + oddW (at_ L k), L.length = L.length ∧ (fun i => (L.getD i Con.zero).rvs) = fun i => (L.getD i Con.zero).rvs, (↑L.length : Int) = (↑L.length : Int), IntKind.i64.wrap ((↑k : Int) + (1 : Int)) = (↑(k + (1 : Nat)) : Int), Dec ((L.getD k Con.zero).sign == (-1 : Int)) true, Dec ((L.getD k Con.zero).exp.tmod (2 : Int) == (1 : Int)) true, (2 : Int) ≠ (0 : Int), (0 : Int) ≤ (↑k : Int) ∧ (↑k : Int) < (↑L.length : Int), Dec (decide ((↑k : Int) < (↑L.length : Int))) true], by kernel_rfl, ⟨?_, ?_, ?_, ?_, d3, d2, ?_, ?_, d1⟩, MuG.out ?_, InG.out ?_⟩⟩)
           (fun d3 => ⟨[true, true, false], .inl ⟨(k + 1, n + oddW (at_ L k)), [IntKind.i64.wrap (n + (L.getD k Con.zero).oddity) = n + oddW (at_ L k), L.length = L.length ∧ (fun i => (L.getD i Con.zero).rvs) = fun i => (L.getD i Con.zero).rvs, (↑L.length : Int) = (↑L.length : Int), IntKind.i64.wrap ((↑k : Int) + (1 : Int)) = (↑(k + (1 : Nat)) : Int), Dec ((L.getD k Con.zero).sign == (-1 : Int)) false, Dec ((L.getD k Con.zero).exp.tmod (2 : Int) == (1 : Int)) true, (2 : Int) ≠ (0 : Int), (0 : Int) ≤ (↑k : Int) ∧ (↑k : Int) < (↑L.length : Int), Dec (decide ((↑k : Int) < (↑L.length : Int))) true], by kernel_rfl, ⟨?_, ?_, ?_, ?_, d3, d2, ?_, ?_, d1⟩, MuG.out ?_, InG.out ?_⟩⟩))
           (fun d2 => ⟨[true, false], .inl ⟨(k + 1, n + oddW (at_ L k)), [IntKind.i64.wrap (n + (L.getD k Con.zero).oddity) = n + oddW (at_ L k), L.length = L.length ∧ (fun i => (L.getD i Con.zero).rvs) = fun i => (L.getD i Con.zero).rvs, (↑L.length : Int) = (↑L.length : Int), IntKind.i64.wrap ((↑k : Int) + (1 : Int)) = (↑(k + (1 : Nat)) : Int), Dec ((L.getD k Con.zero).exp.tmod (2 : Int) == (1 : Int)) false, (2 : Int) ≠ (0 : Int), (0 : Int) ≤ (↑k : Int) ∧ (↑k : Int) < (↑L.length : Int), Dec (decide ((↑k : Int) < (↑L.length : Int))) true], by kernel_rfl, ⟨?_, ?_, ?_, ?_, d2, ?_, ?_, d1⟩, MuG.out ?_, InG.out ?_⟩⟩))
           (fun d1 => ⟨[false], .inr ⟨[n = sumN (fun j => oddW (at_ L j)) L.length, Dec (decide ((↑k : Int) < (↑L.length : Int))) false], by kernel_rfl, ⟨?_, d1⟩, rfl⟩⟩)
      all_goals first | (refine MuG.mk ?_; (simp only [decide_eq_true_eq] at *; show L.length - (k + 1) < L.length - k; omega)) | (refine InG.mk ?_; (simp only [decide_eq_true_eq] at *; exact ⟨by omega, by rw [hs]; rfl⟩)) | (refine CtG.mk ?_; (simp_all)) | (first | (with_reducible rfl) | exact ⟨rfl, rfl⟩ | (exact (by decide : (2 : Int) ≠ 0)) | ((try simp only [at_] at hc) <;> (try simp only [ek, at_, Int.toNat_natCast, decide_eq_true_eq, decide_eq_false_iff_not, beq_iff_eq, beq_eq_false_iff_ne, ne_eq] at *) <;> first | omega | (rw [e1, w64 (by omega) (by omega)]; rw [oddW_4 (by rw [← Int.tmod_eq_emod_of_nonneg (by omega)]; assumption) (by assumption)]; omega) | (rw [e1]; rw [oddW_0 (by rw [← Int.tmod_eq_emod_of_nonneg (by omega)]; first | (exact fun h => absurd h.1 (by assumption)) | (exact fun h => absurd h.2 (by assumption)))]) | (have e : k = L.length := (by omega); subst e; rw [hs]; done)))
set_option maxRecDepth 100000 in
theorem rodd_yes (p : Int) (L : List Con) (hL : okL L) (hv : shV p L = true) : PureC Tryz.prog [] 28 [.agg [.int .i64 p, roC L]] (.tup [.int .i64 (oddVM L), .bool true]) := by
  have hl := hL.1; have hs := oddS_b hL (Nat.le_refl L.length)
  have rr := fun (tp : List Bool) (ms : List Prop) h hm => pure_run evOk (callF_ok evOk (orcOf_ok entsHR_ok) 8) Tryz.func28 (A := [.agg [.int .i64 p, roC L]]) (N := Nat.max 1 Tryz.f28.ntmps) rfl (one_ann (rod_loop L hL)) rfl rfl evNg (tabs := []) (R := .tup [.int .i64 (oddVM L), .bool true]) (tp := tp) (ms := ms) h hm
  refine Or.elim (Bool.eq_false_or_eq_true (val2M p (consR L.length fun i => (L.getD i Con.zero).rvs))) (fun d1 => rr [false] [(sumN (fun j => oddW (at_ L j)) L.length).tmod (8 : Int) = oddVM L, true = true, (8 : Int) ≠ (0 : Int), L.length = L.length ∧ (fun i => (L.getD i Con.zero).rvs) = fun i => (L.getD i Con.zero).rvs, (↑L.length : Int) = (↑L.length : Int), Dec (!val2M p (consR L.length fun i => (L.getD i Con.zero).rvs)) false, (∀ (i : Nat), i < L.length → (fun i => (L.getD i Con.zero).rvs) i = (Con.ofR ((fun i => (L.getD i Con.zero).rvs) i)).rvs) ∧ L.length ≤ (1000 : Nat)] (by kernel_rfl) ⟨?_, ?_, ?_, ?_, ?_, (dN d1), (?_ : (∀ (i : Nat), i < L.length → (fun i => (L.getD i Con.zero).rvs) i = (Con.ofR ((fun i => (L.getD i Con.zero).rvs) i)).rvs) ∧ L.length ≤ (1000 : Nat))⟩)
           (fun d1 => Or.elim (Bool.eq_false_or_eq_true (fusM p (consR L.length fun i => (L.getD i Con.zero).rvs))) (fun d2 => rr [true, false] [(sumN (fun j => oddW (at_ L j)) L.length).tmod (8 : Int) = oddVM L, true = true, (8 : Int) ≠ (0 : Int), L.length = L.length ∧ (fun i => (L.getD i Con.zero).rvs) = fun i => (L.getD i Con.zero).rvs, (↑L.length : Int) = (↑L.length : Int), Dec (!fusM p (consR L.length fun i => (L.getD i Con.zero).rvs)) false, (∀ (i : Nat), i < L.length → (fun i => (L.getD i Con.zero).rvs) i = (Con.ofR ((fun i => (L.getD i Con.zero).rvs) i)).rvs) ∧ L.length ≤ (1000 : Nat), Dec (!val2M p (consR L.length fun i => (L.getD i Con.zero).rvs)) true, (∀ (i : Nat), i < L.length → (fun i => (L.getD i Con.zero).rvs) i = (Con.ofR ((fun i => (L.getD i Con.zero).rvs) i)).rvs) ∧ L.length ≤ (1000 : Nat)] (by kernel_rfl) ⟨?_, ?_, ?_, ?_, ?_, (dN d2), ?_, (dN d1), (?_ : (∀ (i : Nat), i < L.length → (fun i => (L.getD i Con.zero).rvs) i = (Con.ofR ((fun i => (L.getD i Con.zero).rvs) i)).rvs) ∧ L.length ≤ (1000 : Nat))⟩)
           (fun d2 => CtG.no ?_))
  all_goals first | (refine CtG.mk ?_; (rw [consR_ro] at d1 d2; unfold shV at hv; rw [d1, d2] at hv; cases hv)) | (first | (with_reducible rfl) | exact ⟨rfl, rfl⟩ | exact ⟨fun _ _ => rfl, hl⟩ | (exact (by decide : (8 : Int) ≠ 0)) | (exact Int.tmod_eq_emod_of_nonneg hs.1))
set_option maxRecDepth 100000 in
theorem rodd_no (p : Int) (L : List Con) (hl : L.length ≤ 1000) (hv : val2M p L = false) (hv2 : fusM p L = false) : PureC Tryz.prog [] 28 [.agg [.int .i64 p, roC L]] (.tup [.int .i64 0, .bool false]) := by
  have k1 : val2M p (consR L.length fun i => (L.getD i Con.zero).rvs) = false := (by rw [consR_ro]; exact hv); have k2 : fusM p (consR L.length fun i => (L.getD i Con.zero).rvs) = false := (by rw [consR_ro]; exact hv2)
  have rr := fun (tp : List Bool) (ms : List Prop) h hm => pure_run evOk (callF_ok evOk (orcOf_ok entsHR_ok) 8) Tryz.func28 (A := [.agg [.int .i64 p, roC L]]) rfl none_ann rfl rfl evNg (tabs := []) (R := .tup [.int .i64 0, .bool false]) (tp := tp) (ms := ms) h hm
  refine rr [true, true] [(0 : Int) = (0 : Int), false = false, Dec (!fusM p (consR L.length fun i => (L.getD i Con.zero).rvs)) true, (∀ (i : Nat), i < L.length → (fun i => (L.getD i Con.zero).rvs) i = (Con.ofR ((fun i => (L.getD i Con.zero).rvs) i)).rvs) ∧ L.length ≤ (1000 : Nat), Dec (!val2M p (consR L.length fun i => (L.getD i Con.zero).rvs)) true, (∀ (i : Nat), i < L.length → (fun i => (L.getD i Con.zero).rvs) i = (Con.ofR ((fun i => (L.getD i Con.zero).rvs) i)).rvs) ∧ L.length ≤ (1000 : Nat)] (by kernel_rfl) ⟨?_, ?_, (dN k2), ?_, (dN k1), (?_ : (∀ (i : Nat), i < L.length → (fun i => (L.getD i Con.zero).rvs) i = (Con.ofR ((fun i => (L.getD i Con.zero).rvs) i)).rvs) ∧ L.length ≤ (1000 : Nat))⟩
  all_goals first | (first | (with_reducible rfl) | exact ⟨rfl, rfl⟩ | exact ⟨fun _ _ => rfl, hl⟩)
theorem rodd_pure (p : Int) (L : List Con) (hn : L.length ≤ 1000) : PureC Tryz.prog [] 28 [.agg [.int .i64 p, roC L]] (.tup [.int .i64 (bO (shV p L) L), .bool (shV p L)]) := by
  cases h : shV p L with
  | true => exact rodd_yes p L (shV_ok h) h
  | false =>
    unfold shV at h
    simp only [Bool.or_eq_false_iff] at h
    exact rodd_no p L hn h.1 h.2
set_option maxRecDepth 100000 in
theorem twk_yes (L : List Con) (a : Int) (hv : fusM 2 L = true) (hL : okL L) : PureC Tryz.prog [] 25 [.agg [.int .i64 2, roC L], .int .i64 a] (.tup [.agg [.int .i64 (bP (wkB L a)), roC (bL (wkB L a) (stepM L a.toNat))], .bool (wkB L a)]) := by
  have hl := hL.1; have k1 : fusM 2 (consR L.length fun i => (L.getD i Con.zero).rvs) = true := (by rw [consR_ro]; exact hv)
  have rr := fun (tp : List Bool) (ms : List Prop) h hm => pure_run evOk (callF_ok evOk (orcOf_ok entsHT_ok) 8) Tryz.func25 (A := [.agg [.int .i64 2, roC L], .int .i64 a]) rfl none_ann rfl rfl evNg (tabs := []) (R := .tup [.agg [.int .i64 (bP (wkB L a)), roC (bL (wkB L a) (stepM L a.toNat))], .bool (wkB L a)]) (tp := tp) (ms := ms) h hm
  refine Or.elim (Bool.eq_false_or_eq_true (decide (a < (1 : Int)))) (fun d1 => rr [false, true] [(0 : Int) = bP (wkB L a), (bL (wkB L a) (stepM L a.toNat)).length = (0 : Nat), false = wkB L a, Dec (decide (a < (1 : Int))) true, Dec (!fusM (2 : Int) (consR L.length fun i => (L.getD i Con.zero).rvs)) false, (∀ (i : Nat), i < L.length → (fun i => (L.getD i Con.zero).rvs) i = (Con.ofR ((fun i => (L.getD i Con.zero).rvs) i)).rvs) ∧ L.length ≤ (1000 : Nat)] (by kernel_rfl) ⟨?_, ?_, ?_, d1, (dN k1), (?_ : (∀ (i : Nat), i < L.length → (fun i => (L.getD i Con.zero).rvs) i = (Con.ofR ((fun i => (L.getD i Con.zero).rvs) i)).rvs) ∧ L.length ≤ (1000 : Nat))⟩)
           (fun d1 => Or.elim (Bool.eq_false_or_eq_true (decide (a ≥ (↑L.length : Int)))) (fun d2 => rr [false, false, true] [(0 : Int) = bP (wkB L a), (bL (wkB L a) (stepM L a.toNat)).length = (0 : Nat), false = wkB L a, Dec (decide (a ≥ (↑L.length : Int))) true, Dec (decide (a < (1 : Int))) false, Dec (!fusM (2 : Int) (consR L.length fun i => (L.getD i Con.zero).rvs)) false, (∀ (i : Nat), i < L.length → (fun i => (L.getD i Con.zero).rvs) i = (Con.ofR ((fun i => (L.getD i Con.zero).rvs) i)).rvs) ∧ L.length ≤ (1000 : Nat)] (by kernel_rfl) ⟨?_, ?_, ?_, d2, d1, (dN k1), (?_ : (∀ (i : Nat), i < L.length → (fun i => (L.getD i Con.zero).rvs) i = (Con.ofR ((fun i => (L.getD i Con.zero).rvs) i)).rvs) ∧ L.length ≤ (1000 : Nat))⟩)
           (fun d2 => Or.elim (Bool.eq_false_or_eq_true (linkM (consR L.length fun i => (L.getD i Con.zero).rvs) a.toNat)) (fun d3 => rr [false, false, false, false] [(2 : Int) = bP (wkB L a), (stepM (consR L.length fun i => (L.getD i Con.zero).rvs) a.toNat).length = (bL (wkB L a) (stepM L a.toNat)).length ∧ (fun i => ((stepM (consR L.length fun i => (L.getD i Con.zero).rvs) a.toNat).getD i Con.zero).rvs) = fun i => ((bL (wkB L a) (stepM L a.toNat)).getD i Con.zero).rvs, true = wkB L a, (∀ (i : Nat), i < L.length → (fun i => (L.getD i Con.zero).rvs) i = (Con.ofR ((fun i => (L.getD i Con.zero).rvs) i)).rvs) ∧ (2 : Int) = (2 : Int) ∧ okL (consR L.length fun i => (L.getD i Con.zero).rvs) ∧ (1 : Int) ≤ a ∧ a < (↑L.length : Int), Dec (!linkM (consR L.length fun i => (L.getD i Con.zero).rvs) a.toNat) false, (∀ (i : Nat), i < L.length → (fun i => (L.getD i Con.zero).rvs) i = (Con.ofR ((fun i => (L.getD i Con.zero).rvs) i)).rvs) ∧ okL (consR L.length fun i => (L.getD i Con.zero).rvs) ∧ (1 : Int) ≤ a ∧ a < (↑L.length : Int), Dec (decide (a ≥ (↑L.length : Int))) false, Dec (decide (a < (1 : Int))) false, Dec (!fusM (2 : Int) (consR L.length fun i => (L.getD i Con.zero).rvs)) false, (∀ (i : Nat), i < L.length → (fun i => (L.getD i Con.zero).rvs) i = (Con.ofR ((fun i => (L.getD i Con.zero).rvs) i)).rvs) ∧ L.length ≤ (1000 : Nat)] (by kernel_rfl) ⟨?_, ?_, ?_, ?_, (dN d3), ?_, d2, d1, (dN k1), (?_ : (∀ (i : Nat), i < L.length → (fun i => (L.getD i Con.zero).rvs) i = (Con.ofR ((fun i => (L.getD i Con.zero).rvs) i)).rvs) ∧ L.length ≤ (1000 : Nat))⟩)
           (fun d3 => rr [false, false, false, true] [(0 : Int) = bP (wkB L a), (bL (wkB L a) (stepM L a.toNat)).length = (0 : Nat), false = wkB L a, Dec (!linkM (consR L.length fun i => (L.getD i Con.zero).rvs) a.toNat) true, (∀ (i : Nat), i < L.length → (fun i => (L.getD i Con.zero).rvs) i = (Con.ofR ((fun i => (L.getD i Con.zero).rvs) i)).rvs) ∧ okL (consR L.length fun i => (L.getD i Con.zero).rvs) ∧ (1 : Int) ≤ a ∧ a < (↑L.length : Int), Dec (decide (a ≥ (↑L.length : Int))) false, Dec (decide (a < (1 : Int))) false, Dec (!fusM (2 : Int) (consR L.length fun i => (L.getD i Con.zero).rvs)) false, (∀ (i : Nat), i < L.length → (fun i => (L.getD i Con.zero).rvs) i = (Con.ofR ((fun i => (L.getD i Con.zero).rvs) i)).rvs) ∧ L.length ≤ (1000 : Nat)] (by kernel_rfl) ⟨?_, ?_, ?_, (dN d3), ?_, d2, d1, (dN k1), (?_ : (∀ (i : Nat), i < L.length → (fun i => (L.getD i Con.zero).rvs) i = (Con.ofR ((fun i => (L.getD i Con.zero).rvs) i)).rvs) ∧ L.length ≤ (1000 : Nat))⟩)))
  all_goals first | (first | (with_reducible rfl) | exact ⟨rfl, rfl⟩ | exact ⟨fun _ _ => rfl, hl⟩ | ((try simp only [consR_ro, decide_eq_true_eq, decide_eq_false_iff_not, ge_iff_le] at *) <;> first | exact ⟨fun _ _ => rfl, hL, by omega, by omega⟩ | exact ⟨fun _ _ => rfl, by trivial, hL, by omega, by omega⟩ | (rw [wkB_1 (by omega)] <;> first | rfl | exact ⟨rfl, rfl⟩) | (rw [wkB_2 (by omega)] <;> first | rfl | exact ⟨rfl, rfl⟩) | (rw [wkB_3 (by assumption)] <;> first | rfl | exact ⟨rfl, rfl⟩) | (rw [wkB_4 (by omega) (by omega) (by assumption)] <;> first | rfl | exact ⟨rfl, rfl⟩)))
set_option maxRecDepth 100000 in
theorem twk_no (p : Int) (L : List Con) (a : Int) (hl : L.length ≤ 1000) (hv : fusM p L = false) : PureC Tryz.prog [] 25 [.agg [.int .i64 p, roC L], .int .i64 a] (.tup [.agg [.int .i64 0, roC []], .bool false]) := by
  have k1 : fusM p (consR L.length fun i => (L.getD i Con.zero).rvs) = false := (by rw [consR_ro]; exact hv)
  have rr := fun (tp : List Bool) (ms : List Prop) h hm => pure_run evOk (callF_ok evOk (orcOf_ok entsHT_ok) 8) Tryz.func25 (A := [.agg [.int .i64 p, roC L], .int .i64 a]) rfl none_ann rfl rfl evNg (tabs := []) (R := .tup [.agg [.int .i64 0, roC []], .bool false]) (tp := tp) (ms := ms) h hm
  refine rr [true] [(0 : Int) = (0 : Int), (0 : Nat) = (0 : Nat), false = false, Dec (!fusM p (consR L.length fun i => (L.getD i Con.zero).rvs)) true, (∀ (i : Nat), i < L.length → (fun i => (L.getD i Con.zero).rvs) i = (Con.ofR ((fun i => (L.getD i Con.zero).rvs) i)).rvs) ∧ L.length ≤ (1000 : Nat)] (by kernel_rfl) ⟨?_, ?_, ?_, (dN k1), (?_ : (∀ (i : Nat), i < L.length → (fun i => (L.getD i Con.zero).rvs) i = (Con.ofR ((fun i => (L.getD i Con.zero).rvs) i)).rvs) ∧ L.length ≤ (1000 : Nat))⟩
  all_goals first | (first | (with_reducible rfl) | exact ⟨rfl, rfl⟩ | exact ⟨fun _ _ => rfl, hl⟩)
theorem twk_pure (p : Int) (L : List Con) (a : Int) (hn : L.length ≤ 1000) : PureC Tryz.prog [] 25 [.agg [.int .i64 p, roC L], .int .i64 a] (.tup [.agg [.int .i64 (bP (fusM p L && wkB L a)), roC (bL (fusM p L && wkB L a) (stepM L a.toNat))], .bool (fusM p L && wkB L a)]) := by
  cases h : fusM p L with
  | false => exact twk_no p L a hn h
  | true =>
    have := fus_p h
    subst this
    exact twk_yes L a h (fus_okL h)
set_option maxRecDepth 100000 in
theorem rwk_yes (L : List Con) (a : Int) (hv : fusM 2 L = true) (hL : okL L) : PureC Tryz.prog [] 26 [.agg [.int .i64 2, roC L], .int .i64 a] (.tup [.agg [.int .i64 (bP (wkB L a)), roC (bL (wkB L a) (stepM L a.toNat))], .bool (wkB L a)]) := by
  have hl := hL.1; have k1 : fusM 2 (consR L.length fun i => (L.getD i Con.zero).rvs) = true := (by rw [consR_ro]; exact hv)
  have rr := fun (tp : List Bool) (ms : List Prop) h hm => pure_run evOk (callF_ok evOk (orcOf_ok entsHR_ok) 8) Tryz.func26 (A := [.agg [.int .i64 2, roC L], .int .i64 a]) rfl none_ann rfl rfl evNg (tabs := []) (R := .tup [.agg [.int .i64 (bP (wkB L a)), roC (bL (wkB L a) (stepM L a.toNat))], .bool (wkB L a)]) (tp := tp) (ms := ms) h hm
  refine Or.elim (Bool.eq_false_or_eq_true (decide (a < (1 : Int)))) (fun d1 => rr [false, true] [(0 : Int) = bP (wkB L a), (bL (wkB L a) (stepM L a.toNat)).length = (0 : Nat), false = wkB L a, Dec (decide (a < (1 : Int))) true, Dec (!fusM (2 : Int) (consR L.length fun i => (L.getD i Con.zero).rvs)) false, (∀ (i : Nat), i < L.length → (fun i => (L.getD i Con.zero).rvs) i = (Con.ofR ((fun i => (L.getD i Con.zero).rvs) i)).rvs) ∧ L.length ≤ (1000 : Nat)] (by kernel_rfl) ⟨?_, ?_, ?_, d1, (dN k1), (?_ : (∀ (i : Nat), i < L.length → (fun i => (L.getD i Con.zero).rvs) i = (Con.ofR ((fun i => (L.getD i Con.zero).rvs) i)).rvs) ∧ L.length ≤ (1000 : Nat))⟩)
           (fun d1 => Or.elim (Bool.eq_false_or_eq_true (decide (a ≥ (↑L.length : Int)))) (fun d2 => rr [false, false, true] [(0 : Int) = bP (wkB L a), (bL (wkB L a) (stepM L a.toNat)).length = (0 : Nat), false = wkB L a, Dec (decide (a ≥ (↑L.length : Int))) true, Dec (decide (a < (1 : Int))) false, Dec (!fusM (2 : Int) (consR L.length fun i => (L.getD i Con.zero).rvs)) false, (∀ (i : Nat), i < L.length → (fun i => (L.getD i Con.zero).rvs) i = (Con.ofR ((fun i => (L.getD i Con.zero).rvs) i)).rvs) ∧ L.length ≤ (1000 : Nat)] (by kernel_rfl) ⟨?_, ?_, ?_, d2, d1, (dN k1), (?_ : (∀ (i : Nat), i < L.length → (fun i => (L.getD i Con.zero).rvs) i = (Con.ofR ((fun i => (L.getD i Con.zero).rvs) i)).rvs) ∧ L.length ≤ (1000 : Nat))⟩)
           (fun d2 => Or.elim (Bool.eq_false_or_eq_true (linkM (consR L.length fun i => (L.getD i Con.zero).rvs) a.toNat)) (fun d3 => rr [false, false, false, false] [(2 : Int) = bP (wkB L a), (stepM (consR L.length fun i => (L.getD i Con.zero).rvs) a.toNat).length = (bL (wkB L a) (stepM L a.toNat)).length ∧ (fun i => ((stepM (consR L.length fun i => (L.getD i Con.zero).rvs) a.toNat).getD i Con.zero).rvs) = fun i => ((bL (wkB L a) (stepM L a.toNat)).getD i Con.zero).rvs, true = wkB L a, (∀ (i : Nat), i < L.length → (fun i => (L.getD i Con.zero).rvs) i = (Con.ofR ((fun i => (L.getD i Con.zero).rvs) i)).rvs) ∧ (2 : Int) = (2 : Int) ∧ okL (consR L.length fun i => (L.getD i Con.zero).rvs) ∧ (1 : Int) ≤ a ∧ a < (↑L.length : Int), Dec (!linkM (consR L.length fun i => (L.getD i Con.zero).rvs) a.toNat) false, (∀ (i : Nat), i < L.length → (fun i => (L.getD i Con.zero).rvs) i = (Con.ofR ((fun i => (L.getD i Con.zero).rvs) i)).rvs) ∧ okL (consR L.length fun i => (L.getD i Con.zero).rvs) ∧ (1 : Int) ≤ a ∧ a < (↑L.length : Int), Dec (decide (a ≥ (↑L.length : Int))) false, Dec (decide (a < (1 : Int))) false, Dec (!fusM (2 : Int) (consR L.length fun i => (L.getD i Con.zero).rvs)) false, (∀ (i : Nat), i < L.length → (fun i => (L.getD i Con.zero).rvs) i = (Con.ofR ((fun i => (L.getD i Con.zero).rvs) i)).rvs) ∧ L.length ≤ (1000 : Nat)] (by kernel_rfl) ⟨?_, ?_, ?_, ?_, (dN d3), ?_, d2, d1, (dN k1), (?_ : (∀ (i : Nat), i < L.length → (fun i => (L.getD i Con.zero).rvs) i = (Con.ofR ((fun i => (L.getD i Con.zero).rvs) i)).rvs) ∧ L.length ≤ (1000 : Nat))⟩)
           (fun d3 => rr [false, false, false, true] [(0 : Int) = bP (wkB L a), (bL (wkB L a) (stepM L a.toNat)).length = (0 : Nat), false = wkB L a, Dec (!linkM (consR L.length fun i => (L.getD i Con.zero).rvs) a.toNat) true, (∀ (i : Nat), i < L.length → (fun i => (L.getD i Con.zero).rvs) i = (Con.ofR ((fun i => (L.getD i Con.zero).rvs) i)).rvs) ∧ okL (consR L.length fun i => (L.getD i Con.zero).rvs) ∧ (1 : Int) ≤ a ∧ a < (↑L.length : Int), Dec (decide (a ≥ (↑L.length : Int))) false, Dec (decide (a < (1 : Int))) false, Dec (!fusM (2 : Int) (consR L.length fun i => (L.getD i Con.zero).rvs)) false, (∀ (i : Nat), i < L.length → (fun i => (L.getD i Con.zero).rvs) i = (Con.ofR ((fun i => (L.getD i Con.zero).rvs) i)).rvs) ∧ L.length ≤ (1000 : Nat)] (by kernel_rfl) ⟨?_, ?_, ?_, (dN d3), ?_, d2, d1, (dN k1), (?_ : (∀ (i : Nat), i < L.length → (fun i => (L.getD i Con.zero).rvs) i = (Con.ofR ((fun i => (L.getD i Con.zero).rvs) i)).rvs) ∧ L.length ≤ (1000 : Nat))⟩)))
  all_goals first | (first | (with_reducible rfl) | exact ⟨rfl, rfl⟩ | exact ⟨fun _ _ => rfl, hl⟩ | ((try simp only [consR_ro, decide_eq_true_eq, decide_eq_false_iff_not, ge_iff_le] at *) <;> first | exact ⟨fun _ _ => rfl, hL, by omega, by omega⟩ | exact ⟨fun _ _ => rfl, by trivial, hL, by omega, by omega⟩ | (rw [wkB_1 (by omega)] <;> first | rfl | exact ⟨rfl, rfl⟩) | (rw [wkB_2 (by omega)] <;> first | rfl | exact ⟨rfl, rfl⟩) | (rw [wkB_3 (by assumption)] <;> first | rfl | exact ⟨rfl, rfl⟩) | (rw [wkB_4 (by omega) (by omega) (by assumption)] <;> first | rfl | exact ⟨rfl, rfl⟩)))
set_option maxRecDepth 100000 in
theorem rwk_no (p : Int) (L : List Con) (a : Int) (hl : L.length ≤ 1000) (hv : fusM p L = false) : PureC Tryz.prog [] 26 [.agg [.int .i64 p, roC L], .int .i64 a] (.tup [.agg [.int .i64 0, roC []], .bool false]) := by
  have k1 : fusM p (consR L.length fun i => (L.getD i Con.zero).rvs) = false := (by rw [consR_ro]; exact hv)
  have rr := fun (tp : List Bool) (ms : List Prop) h hm => pure_run evOk (callF_ok evOk (orcOf_ok entsHR_ok) 8) Tryz.func26 (A := [.agg [.int .i64 p, roC L], .int .i64 a]) rfl none_ann rfl rfl evNg (tabs := []) (R := .tup [.agg [.int .i64 0, roC []], .bool false]) (tp := tp) (ms := ms) h hm
  refine rr [true] [(0 : Int) = (0 : Int), (0 : Nat) = (0 : Nat), false = false, Dec (!fusM p (consR L.length fun i => (L.getD i Con.zero).rvs)) true, (∀ (i : Nat), i < L.length → (fun i => (L.getD i Con.zero).rvs) i = (Con.ofR ((fun i => (L.getD i Con.zero).rvs) i)).rvs) ∧ L.length ≤ (1000 : Nat)] (by kernel_rfl) ⟨?_, ?_, ?_, (dN k1), (?_ : (∀ (i : Nat), i < L.length → (fun i => (L.getD i Con.zero).rvs) i = (Con.ofR ((fun i => (L.getD i Con.zero).rvs) i)).rvs) ∧ L.length ≤ (1000 : Nat))⟩
  all_goals first | (first | (with_reducible rfl) | exact ⟨rfl, rfl⟩ | exact ⟨fun _ _ => rfl, hl⟩)
theorem rwk_pure (p : Int) (L : List Con) (a : Int) (hn : L.length ≤ 1000) : PureC Tryz.prog [] 26 [.agg [.int .i64 p, roC L], .int .i64 a] (.tup [.agg [.int .i64 (bP (fusM p L && wkB L a)), roC (bL (fusM p L && wkB L a) (stepM L a.toNat))], .bool (fusM p L && wkB L a)]) := by
  cases h : fusM p L with
  | false => exact rwk_no p L a hn h
  | true =>
    have := fus_p h
    subst this
    exact rwk_yes L a h (fus_okL h)
end Go.Proofs.YtcfdaddablojlaaGreatDoor.S

/- TrainOddity returns true. -/
set_option linter.unusedSimpArgs false
set_option linter.unusedVariables false
namespace Go.Proofs.YtcfdaddablojlaaGreatDoor.S
open Go.QfSy Go.RowKit

noncomputable def entsOdd : List OEnt := [
  ⟨27, [], fun A => match A with
    | [.agg [.int .i64 p, .sl n 5 row]] => some (.tup [.int .i64 (bO (shV p (consR n row)) (consR n row)), .bool (shV p (consR n row))], [(∀ i, i < n → row i = (Con.ofR (row i)).rvs) ∧ n ≤ 1000])
    | _ => none⟩,
  ⟨28, [], fun A => match A with
    | [.agg [.int .i64 p, .sl n 5 row]] => some (.tup [.int .i64 (bO (shV p (consR n row)) (consR n row)), .bool (shV p (consR n row))], [(∀ i, i < n → row i = (Con.ofR (row i)).rvs) ∧ n ≤ 1000])
    | _ => none⟩,
  ⟨46, [], fun A => match A with
    | [.agg [.int .u8 pr, .sl n 5 row], .int .i64 most] => some (.agg [.int .i64 (anyP pr), roC (anyL pr (prtR n row) most)], [(∀ i, i < n → row i = (Prt.ofR (row i)).rvs) ∧ U8 pr ∧ (∀ p ∈ prtR n row, p.ok) ∧ n ≤ 900 ∧ 1 ≤ most ∧ most ≤ 8])
    | _ => none⟩,
  ⟨45, [], fun A => match A with
    | [.agg [.int .i64 p, .sl n 5 row], .int .u8 a, .int .u8 f, .int .i8 m] => some (.agg [.int .i64 (bentP p (consR n row) f m), roC (bentL (consR n row) a f m)], [(∀ i, i < n → row i = (Con.ofR (row i)).rvs) ∧ n ≤ 1000 ∧ U8 a ∧ U8 f])
    | _ => none⟩,
  ⟨17, tabs, fun A => match A with
    | [] => some (.bool true, [])
    | _ => none⟩]
theorem entsOdd_ok : ∀ e ∈ entsOdd, EntOk Tryz.prog e := by
  intro e he
  simp only [entsOdd, List.mem_cons, List.not_mem_nil, or_false] at he
  rcases he with rfl | rfl | rfl | rfl | rfl
  all_goals
    intro A R ms h hm
    simp only at h
    split at h
    all_goals first | (cases h; done) | cases h
  · obtain ⟨h1, h2⟩ := all_one hm
    exact PureC.imp (todd_pure _ _ (by rw [consR_len]; exact h2)) (.cons (.agg (.cons .same (.cons (.con h1) .nil))) .nil)
  · obtain ⟨h1, h2⟩ := all_one hm
    exact PureC.imp (rodd_pure _ _ (by rw [consR_len]; exact h2)) (.cons (.agg (.cons .same (.cons (.con h1) .nil))) .nil)
  · obtain ⟨h1, h2, h3, h4, h5, h6⟩ := all_one hm
    exact PureC.imp (any_pure _ _ _ h2 h3 (by rw [prtR_len]; exact h4) h5 h6) (.cons (.agg (.cons .same (.cons (.prt h1) .nil))) .same)
  · obtain ⟨h1, h2, h3, h4⟩ := all_one hm
    exact PureC.imp (bent_pure _ _ _ _ _ (by rw [consR_len]; exact h2) h3 h4) (.cons (.agg (.cons .same (.cons (.con h1) .nil))) .same)
  · exact awake_pure
set_option maxHeartbeats 2000000 in
set_option maxRecDepth 100000 in
theorem trainOddity_pure (p : Int) (L : List Con) (kx : Int) (X : List Prt) (a f n : Int) (made : Bool) (hk : U8 kx) (hX : ∀ p ∈ X, p.ok) (ha : U8 a) (hf : U8 f) : PureC Tryz.prog tabs 6 [.agg [.int .i64 p, roC L], .agg [.int .u8 kx, roP X], .int .u8 a, .int .u8 f, .int .i8 n, .bool made] (.bool true) := by
  have l2 := anyL_len' (pr := kx) (most := 8) (X := X); have l3 := bentL_len (L := anyL kx X 8) (a := a) (f := f) (n := n)
  have rr := fun (tp : List Bool) (ms : List Prop) h hm => pure_run evOk (callF_ok evOk (orcOf_ok entsOdd_ok) 8) Tryz.func6 (A := [.agg [.int .i64 p, roC L], .agg [.int .u8 kx, roP X], .int .u8 a, .int .u8 f, .int .i8 n, .bool made]) rfl none_ann rfl rfl evNg (tabs := tabs) (R := .bool true) (tp := tp) (ms := ms) h hm
  refine Or.elim (Bool.eq_false_or_eq_true (decide ((↑L.length : Int) > (20 : Int)))) (fun d1 => rr [true] [true = true, Dec (decide ((↑L.length : Int) > (20 : Int))) true] (by kernel_rfl) ⟨?_, d1⟩)
           (fun d1 => Or.elim (Bool.eq_false_or_eq_true (decide ((↑X.length : Int) > (20 : Int)))) (fun d2 => rr [false, true] [true = true, Dec (decide ((↑X.length : Int) > (20 : Int))) true, Dec (decide ((↑L.length : Int) > (20 : Int))) false] (by kernel_rfl) ⟨?_, d2, d1⟩)
           (fun d2 => Or.elim (Bool.eq_false_or_eq_true (made)) (fun d3 => Or.elim (Bool.eq_false_or_eq_true (shV (bentP (anyP kx) (consR (anyL kx (prtR X.length fun i => (X.getD i Prt.zero).rvs) (8 : Int)).length fun i => ((anyL kx (prtR X.length fun i => (X.getD i Prt.zero).rvs) (8 : Int)).getD i Con.zero).rvs) f n) (consR (bentL (consR (anyL kx (prtR X.length fun i => (X.getD i Prt.zero).rvs) (8 : Int)).length fun i => ((anyL kx (prtR X.length fun i => (X.getD i Prt.zero).rvs) (8 : Int)).getD i Con.zero).rvs) a f n).length fun i => ((bentL (consR (anyL kx (prtR X.length fun i => (X.getD i Prt.zero).rvs) (8 : Int)).length fun i => ((anyL kx (prtR X.length fun i => (X.getD i Prt.zero).rvs) (8 : Int)).getD i Con.zero).rvs) a f n).getD i Con.zero).rvs) == shV (bentP (anyP kx) (consR (anyL kx (prtR X.length fun i => (X.getD i Prt.zero).rvs) (8 : Int)).length fun i => ((anyL kx (prtR X.length fun i => (X.getD i Prt.zero).rvs) (8 : Int)).getD i Con.zero).rvs) f n) (consR (bentL (consR (anyL kx (prtR X.length fun i => (X.getD i Prt.zero).rvs) (8 : Int)).length fun i => ((anyL kx (prtR X.length fun i => (X.getD i Prt.zero).rvs) (8 : Int)).getD i Con.zero).rvs) a f n).length fun i => ((bentL (consR (anyL kx (prtR X.length fun i => (X.getD i Prt.zero).rvs) (8 : Int)).length fun i => ((anyL kx (prtR X.length fun i => (X.getD i Prt.zero).rvs) (8 : Int)).getD i Con.zero).rvs) a f n).getD i Con.zero).rvs))) (fun d4 => Or.elim (Bool.eq_false_or_eq_true (bO (shV (bentP (anyP kx) (consR (anyL kx (prtR X.length fun i => (X.getD i Prt.zero).rvs) (8 : Int)).length fun i => ((anyL kx (prtR X.length fun i => (X.getD i Prt.zero).rvs) (8 : Int)).getD i Con.zero).rvs) f n) (consR (bentL (consR (anyL kx (prtR X.length fun i => (X.getD i Prt.zero).rvs) (8 : Int)).length fun i => ((anyL kx (prtR X.length fun i => (X.getD i Prt.zero).rvs) (8 : Int)).getD i Con.zero).rvs) a f n).length fun i => ((bentL (consR (anyL kx (prtR X.length fun i => (X.getD i Prt.zero).rvs) (8 : Int)).length fun i => ((anyL kx (prtR X.length fun i => (X.getD i Prt.zero).rvs) (8 : Int)).getD i Con.zero).rvs) a f n).getD i Con.zero).rvs)) (consR (bentL (consR (anyL kx (prtR X.length fun i => (X.getD i Prt.zero).rvs) (8 : Int)).length fun i => ((anyL kx (prtR X.length fun i => (X.getD i Prt.zero).rvs) (8 : Int)).getD i Con.zero).rvs) a f n).length fun i => ((bentL (consR (anyL kx (prtR X.length fun i => (X.getD i Prt.zero).rvs) (8 : Int)).length fun i => ((anyL kx (prtR X.length fun i => (X.getD i Prt.zero).rvs) (8 : Int)).getD i Con.zero).rvs) a f n).getD i Con.zero).rvs) == bO (shV (bentP (anyP kx) (consR (anyL kx (prtR X.length fun i => (X.getD i Prt.zero).rvs) (8 : Int)).length fun i => ((anyL kx (prtR X.length fun i => (X.getD i Prt.zero).rvs) (8 : Int)).getD i Con.zero).rvs) f n) (consR (bentL (consR (anyL kx (prtR X.length fun i => (X.getD i Prt.zero).rvs) (8 : Int)).length fun i => ((anyL kx (prtR X.length fun i => (X.getD i Prt.zero).rvs) (8 : Int)).getD i Con.zero).rvs) a f n).length fun i => ((bentL (consR (anyL kx (prtR X.length fun i => (X.getD i Prt.zero).rvs) (8 : Int)).length fun i => ((anyL kx (prtR X.length fun i => (X.getD i Prt.zero).rvs) (8 : Int)).getD i Con.zero).rvs) a f n).getD i Con.zero).rvs)) (consR (bentL (consR (anyL kx (prtR X.length fun i => (X.getD i Prt.zero).rvs) (8 : Int)).length fun i => ((anyL kx (prtR X.length fun i => (X.getD i Prt.zero).rvs) (8 : Int)).getD i Con.zero).rvs) a f n).length fun i => ((bentL (consR (anyL kx (prtR X.length fun i => (X.getD i Prt.zero).rvs) (8 : Int)).length fun i => ((anyL kx (prtR X.length fun i => (X.getD i Prt.zero).rvs) (8 : Int)).getD i Con.zero).rvs) a f n).getD i Con.zero).rvs))) (fun d5 => rr [false, false, true, true, true] [true = true, Dec (bO (shV (bentP (anyP kx) (consR (anyL kx (prtR X.length fun i => (X.getD i Prt.zero).rvs) (8 : Int)).length fun i => ((anyL kx (prtR X.length fun i => (X.getD i Prt.zero).rvs) (8 : Int)).getD i Con.zero).rvs) f n) (consR (bentL (consR (anyL kx (prtR X.length fun i => (X.getD i Prt.zero).rvs) (8 : Int)).length fun i => ((anyL kx (prtR X.length fun i => (X.getD i Prt.zero).rvs) (8 : Int)).getD i Con.zero).rvs) a f n).length fun i => ((bentL (consR (anyL kx (prtR X.length fun i => (X.getD i Prt.zero).rvs) (8 : Int)).length fun i => ((anyL kx (prtR X.length fun i => (X.getD i Prt.zero).rvs) (8 : Int)).getD i Con.zero).rvs) a f n).getD i Con.zero).rvs)) (consR (bentL (consR (anyL kx (prtR X.length fun i => (X.getD i Prt.zero).rvs) (8 : Int)).length fun i => ((anyL kx (prtR X.length fun i => (X.getD i Prt.zero).rvs) (8 : Int)).getD i Con.zero).rvs) a f n).length fun i => ((bentL (consR (anyL kx (prtR X.length fun i => (X.getD i Prt.zero).rvs) (8 : Int)).length fun i => ((anyL kx (prtR X.length fun i => (X.getD i Prt.zero).rvs) (8 : Int)).getD i Con.zero).rvs) a f n).getD i Con.zero).rvs) == bO (shV (bentP (anyP kx) (consR (anyL kx (prtR X.length fun i => (X.getD i Prt.zero).rvs) (8 : Int)).length fun i => ((anyL kx (prtR X.length fun i => (X.getD i Prt.zero).rvs) (8 : Int)).getD i Con.zero).rvs) f n) (consR (bentL (consR (anyL kx (prtR X.length fun i => (X.getD i Prt.zero).rvs) (8 : Int)).length fun i => ((anyL kx (prtR X.length fun i => (X.getD i Prt.zero).rvs) (8 : Int)).getD i Con.zero).rvs) a f n).length fun i => ((bentL (consR (anyL kx (prtR X.length fun i => (X.getD i Prt.zero).rvs) (8 : Int)).length fun i => ((anyL kx (prtR X.length fun i => (X.getD i Prt.zero).rvs) (8 : Int)).getD i Con.zero).rvs) a f n).getD i Con.zero).rvs)) (consR (bentL (consR (anyL kx (prtR X.length fun i => (X.getD i Prt.zero).rvs) (8 : Int)).length fun i => ((anyL kx (prtR X.length fun i => (X.getD i Prt.zero).rvs) (8 : Int)).getD i Con.zero).rvs) a f n).length fun i => ((bentL (consR (anyL kx (prtR X.length fun i => (X.getD i Prt.zero).rvs) (8 : Int)).length fun i => ((anyL kx (prtR X.length fun i => (X.getD i Prt.zero).rvs) (8 : Int)).getD i Con.zero).rvs) a f n).getD i Con.zero).rvs)) true, Dec (shV (bentP (anyP kx) (consR (anyL kx (prtR X.length fun i => (X.getD i Prt.zero).rvs) (8 : Int)).length fun i => ((anyL kx (prtR X.length fun i => (X.getD i Prt.zero).rvs) (8 : Int)).getD i Con.zero).rvs) f n) (consR (bentL (consR (anyL kx (prtR X.length fun i => (X.getD i Prt.zero).rvs) (8 : Int)).length fun i => ((anyL kx (prtR X.length fun i => (X.getD i Prt.zero).rvs) (8 : Int)).getD i Con.zero).rvs) a f n).length fun i => ((bentL (consR (anyL kx (prtR X.length fun i => (X.getD i Prt.zero).rvs) (8 : Int)).length fun i => ((anyL kx (prtR X.length fun i => (X.getD i Prt.zero).rvs) (8 : Int)).getD i Con.zero).rvs) a f n).getD i Con.zero).rvs) == shV (bentP (anyP kx) (consR (anyL kx (prtR X.length fun i => (X.getD i Prt.zero).rvs) (8 : Int)).length fun i => ((anyL kx (prtR X.length fun i => (X.getD i Prt.zero).rvs) (8 : Int)).getD i Con.zero).rvs) f n) (consR (bentL (consR (anyL kx (prtR X.length fun i => (X.getD i Prt.zero).rvs) (8 : Int)).length fun i => ((anyL kx (prtR X.length fun i => (X.getD i Prt.zero).rvs) (8 : Int)).getD i Con.zero).rvs) a f n).length fun i => ((bentL (consR (anyL kx (prtR X.length fun i => (X.getD i Prt.zero).rvs) (8 : Int)).length fun i => ((anyL kx (prtR X.length fun i => (X.getD i Prt.zero).rvs) (8 : Int)).getD i Con.zero).rvs) a f n).getD i Con.zero).rvs)) true, (∀ (i : Nat), i < (bentL (consR (anyL kx (prtR X.length fun i => (X.getD i Prt.zero).rvs) (8 : Int)).length fun i => ((anyL kx (prtR X.length fun i => (X.getD i Prt.zero).rvs) (8 : Int)).getD i Con.zero).rvs) a f n).length → (fun i => ((bentL (consR (anyL kx (prtR X.length fun i => (X.getD i Prt.zero).rvs) (8 : Int)).length fun i => ((anyL kx (prtR X.length fun i => (X.getD i Prt.zero).rvs) (8 : Int)).getD i Con.zero).rvs) a f n).getD i Con.zero).rvs) i = (Con.ofR ((fun i => ((bentL (consR (anyL kx (prtR X.length fun i => (X.getD i Prt.zero).rvs) (8 : Int)).length fun i => ((anyL kx (prtR X.length fun i => (X.getD i Prt.zero).rvs) (8 : Int)).getD i Con.zero).rvs) a f n).getD i Con.zero).rvs) i)).rvs) ∧ (bentL (consR (anyL kx (prtR X.length fun i => (X.getD i Prt.zero).rvs) (8 : Int)).length fun i => ((anyL kx (prtR X.length fun i => (X.getD i Prt.zero).rvs) (8 : Int)).getD i Con.zero).rvs) a f n).length ≤ (1000 : Nat), (∀ (i : Nat), i < (bentL (consR (anyL kx (prtR X.length fun i => (X.getD i Prt.zero).rvs) (8 : Int)).length fun i => ((anyL kx (prtR X.length fun i => (X.getD i Prt.zero).rvs) (8 : Int)).getD i Con.zero).rvs) a f n).length → (fun i => ((bentL (consR (anyL kx (prtR X.length fun i => (X.getD i Prt.zero).rvs) (8 : Int)).length fun i => ((anyL kx (prtR X.length fun i => (X.getD i Prt.zero).rvs) (8 : Int)).getD i Con.zero).rvs) a f n).getD i Con.zero).rvs) i = (Con.ofR ((fun i => ((bentL (consR (anyL kx (prtR X.length fun i => (X.getD i Prt.zero).rvs) (8 : Int)).length fun i => ((anyL kx (prtR X.length fun i => (X.getD i Prt.zero).rvs) (8 : Int)).getD i Con.zero).rvs) a f n).getD i Con.zero).rvs) i)).rvs) ∧ (bentL (consR (anyL kx (prtR X.length fun i => (X.getD i Prt.zero).rvs) (8 : Int)).length fun i => ((anyL kx (prtR X.length fun i => (X.getD i Prt.zero).rvs) (8 : Int)).getD i Con.zero).rvs) a f n).length ≤ (1000 : Nat), (∀ (i : Nat), i < (anyL kx (prtR X.length fun i => (X.getD i Prt.zero).rvs) (8 : Int)).length → (fun i => ((anyL kx (prtR X.length fun i => (X.getD i Prt.zero).rvs) (8 : Int)).getD i Con.zero).rvs) i = (Con.ofR ((fun i => ((anyL kx (prtR X.length fun i => (X.getD i Prt.zero).rvs) (8 : Int)).getD i Con.zero).rvs) i)).rvs) ∧ (anyL kx (prtR X.length fun i => (X.getD i Prt.zero).rvs) (8 : Int)).length ≤ (1000 : Nat) ∧ U8 a ∧ U8 f, (∀ (i : Nat), i < X.length → (fun i => (X.getD i Prt.zero).rvs) i = (Prt.ofR ((fun i => (X.getD i Prt.zero).rvs) i)).rvs) ∧ U8 kx ∧ (∀ (p : Prt), (p ∈ prtR X.length fun i => (X.getD i Prt.zero).rvs) → p.ok) ∧ X.length ≤ (900 : Nat) ∧ (1 : Int) ≤ (8 : Int) ∧ (8 : Int) ≤ (8 : Int), Dec made true, Dec (decide ((↑X.length : Int) > (20 : Int))) false, Dec (decide ((↑L.length : Int) > (20 : Int))) false] (by kernel_rfl) ⟨?_, d5, d4, ?_, ?_, ?_, ?_, d3, d2, d1⟩)
           (fun d5 => CtG.no ?_))
           (fun d4 => CtG.no ?_))
           (fun d3 => Or.elim (Bool.eq_false_or_eq_true (shV p (consR L.length fun i => (L.getD i Con.zero).rvs) == shV p (consR L.length fun i => (L.getD i Con.zero).rvs))) (fun d4 => Or.elim (Bool.eq_false_or_eq_true (bO (shV p (consR L.length fun i => (L.getD i Con.zero).rvs)) (consR L.length fun i => (L.getD i Con.zero).rvs) == bO (shV p (consR L.length fun i => (L.getD i Con.zero).rvs)) (consR L.length fun i => (L.getD i Con.zero).rvs))) (fun d5 => rr [false, false, false, true, true] [true = true, Dec (bO (shV p (consR L.length fun i => (L.getD i Con.zero).rvs)) (consR L.length fun i => (L.getD i Con.zero).rvs) == bO (shV p (consR L.length fun i => (L.getD i Con.zero).rvs)) (consR L.length fun i => (L.getD i Con.zero).rvs)) true, Dec (shV p (consR L.length fun i => (L.getD i Con.zero).rvs) == shV p (consR L.length fun i => (L.getD i Con.zero).rvs)) true, (∀ (i : Nat), i < L.length → (fun i => (L.getD i Con.zero).rvs) i = (Con.ofR ((fun i => (L.getD i Con.zero).rvs) i)).rvs) ∧ L.length ≤ (1000 : Nat), (∀ (i : Nat), i < L.length → (fun i => (L.getD i Con.zero).rvs) i = (Con.ofR ((fun i => (L.getD i Con.zero).rvs) i)).rvs) ∧ L.length ≤ (1000 : Nat), Dec made false, Dec (decide ((↑X.length : Int) > (20 : Int))) false, Dec (decide ((↑L.length : Int) > (20 : Int))) false] (by kernel_rfl) ⟨?_, d5, d4, ?_, ?_, d3, d2, d1⟩)
           (fun d5 => CtG.no ?_))
           (fun d4 => CtG.no ?_))))
  all_goals first | (refine CtG.mk ?_; (first | (rw [beq_self_eq_true] at d5; cases d5; done) | (rw [beq_self_eq_true] at d4; cases d4; done))) | (first | (with_reducible rfl) | (with_reducible exact ⟨rfl, rfl⟩) | exact ⟨hk.1, hk.2⟩ | (simp only [prtR_ro, consR_ro, decide_eq_false_iff_not, gt_iff_lt] at * <;> first | trivial | exact ⟨fun _ _ => rfl, by omega⟩ | exact ⟨fun _ _ => rfl, hk, hX, by omega, by decide, by decide⟩ | exact ⟨fun _ _ => rfl, by omega, ha, hf⟩ | exact ⟨trivial, trivial⟩))
end Go.Proofs.YtcfdaddablojlaaGreatDoor.S

/- TrainOddity returns true whatever the input, and its arguments read as before: the row's statement. -/
namespace Go.Proofs.YtcfdaddablojlaaGreatDoor.trainOddity
open Go.ChangeShapes Go.WideShapes Go.ChangeAt Go.RowKit Go.Joins Go.Deep
open Go.QfSy (Con RV RRel RsRel FzAt roC Fz Tb TabW PureC)
open S

theorem readable : ∀ t ∈ Tryz.f6.params.toList, Tryz.prog.readableRec t = true ∧ t < Tryz.prog.types.size := by
  have h : (Tryz.f6.params.toList.all fun t => Tryz.prog.readableRec t && Nat.blt t Tryz.prog.types.size) = true := by kernel_rfl
  intro t ht
  have := List.all_eq_true.1 h t ht
  simp only [Bool.and_eq_true] at this
  exact ⟨this.1, Nat.le_of_ble_eq_true this.2⟩

set_option maxRecDepth 100000 in
theorem contract (H : Type) (enc : TypeId × Value → H) (W : World) (base : Nat) (args : Array Value) (ds gs : List (DataW H)) (before : List MemPlace)
    (hval : ∀ (j : Nat) t v, Tryz.f6.params[j]? = some t → args[j]? = some v → Value.okWide Tryz.prog W .any base t v)
    (hW : DataW.Whole enc Tryz.prog Tryz.f6.params.toList Rows.trainOdditySpec.vars false W args.toList ds gs before) (hO : TabW tabs W) :
    Calls Tryz.prog 6 args W fun e W' => ∃ v, e = .returned v ∧ Rows.trainOdditySpec.post enc Tryz.prog Tryz.f6 false true false false W args v W' := by
  have hW' := hW
  obtain ⟨p, q, hA0, hV, rfl, hfz, hnd⟩ := hW
  have hA : DataW.TrodAll enc Tryz.prog W 0 (fun _ => true) true Tryz.f6.params.toList args.toList ds p := hA0
  rw [Tryz.params6] at hA hval
  obtain ⟨v0, vs0, d0, ds0, p0, q0, hargs0, rfl, rfl, h0, r0⟩ := trodAll_cons hA
  obtain ⟨v1, vs1, d1, ds1, p1, q1, hargs1, rfl, rfl, h1, r1⟩ := trodAll_cons r0
  obtain ⟨v2, vs2, d2, ds2, p2, q2, hargs2, rfl, rfl, h2, r2⟩ := trodAll_cons r1
  obtain ⟨v3, vs3, d3, ds3, p3, q3, hargs3, rfl, rfl, h3, r3⟩ := trodAll_cons r2
  obtain ⟨v4, vs4, d4, ds4, p4, q4, hargs4, rfl, rfl, h4, r4⟩ := trodAll_cons r3
  obtain ⟨v5, vs5, d5, ds5, p5, q5, hargs5, rfl, rfl, h5, r5⟩ := trodAll_cons r4
  obtain ⟨rfl, rfl, rfl⟩ := trodAll_nil r5
  obtain rfl : args = #[v0, v1, v2, v3, v4, v5] := by cases args; simp_all
  obtain ⟨P0, L0, hr0, hP0, hn0, hf0⟩ := open_local localTys (hval 0 24 v0 rfl rfl) h0
  obtain ⟨P1, X1, hr1, hP1, hn1, ho1⟩ := open_symbol symbolTys (hval 1 27 v1 rfl rfl) h1
  obtain ⟨z2, rfl, rfl, rfl, hz2⟩ := open_int Tryz.underlying5 (hval 2 5 v2 rfl rfl) h2
  have hr2 : RRel (Wz W) (.int .u8 z2) (.int .u8 z2) := .int _ _
  obtain ⟨z3, rfl, rfl, rfl, hz3⟩ := open_int Tryz.underlying5 (hval 3 5 v3 rfl rfl) h3
  have hr3 : RRel (Wz W) (.int .u8 z3) (.int .u8 z3) := .int _ _
  obtain ⟨z4, rfl, rfl, rfl, hz4⟩ := open_int Tryz.underlying28 (hval 4 28 v4 rfl rfl) h4
  have hr4 : RRel (Wz W) (.int .i8 z4) (.int .i8 z4) := .int _ _
  obtain ⟨b5, rfl, rfl, rfl⟩ := open_bool Tryz.underlying4 (hval 5 4 v5 rfl rfl) h5
  have hr5 : RRel (Wz W) (.bool b5) (.bool b5) := .bool _
  refine (pure_calls (trainOddity_pure P0 L0 P1 X1 z2 z3 z4 b5 hP1 ho1 (wf_u8 hz2) (wf_u8 hz3)) hO (.cons hr0 (.cons hr1 (.cons hr2 (.cons hr3 (.cons hr4 (.cons hr5 .nil))))))).mono fun e W' ⟨he, hb⟩ => ?_
  exact ⟨_, he, law_post laidOut readable rfl Tryz.underlying4 rfl hW' rfl hb⟩

def wArgs : Array Value := #[.agg #[.int .i64 0, .slice none 0 0], .agg #[.int .u8 0, .slice none 0 0], .int .u8 0, .int .u8 0, .int .i8 0, .bool false]
theorem laid_met (os : Os) : laidMet Tryz.prog Rows.trainOddityRow.laid ((laidWorld os).forCall (fun _ _ => 0) ⟨#[], wArgs, []⟩).memory :=
  laidMet_of_run' 8 (by kernel_rfl) (by kernel_rfl)
theorem reads (os : Os) {H : Type} (enc : TypeId × Value → H) : ∃ ds places, DataW.whole enc Tryz.prog ((laidWorld os).forCall (fun _ _ => 0) ⟨#[], wArgs, []⟩).memory Tryz.f6.params.toList Rows.trainOdditySpec.vars false wArgs.toList 8 = some (ds, [], places) :=
  ⟨[.agg [.lit (.int .i64 0), .nil], .agg [.lit (.int .u8 0), .nil], .lit (.int .u8 0), .lit (.int .u8 0), .lit (.int .i8 0), .lit (.bool false)], [], by kernel_rfl⟩

set_option maxRecDepth 100000 in
theorem lifted (os : Os) (started : os.Started) (H : Type) (enc : TypeId × Value → H) (F : Stop.Interp) :
    ReturnsInHanded {} Tryz.checked os 6 .any ((OpenSpec.ofChange Rows.trainOdditySpec).preRow enc Tryz.prog Tryz.f6 Rows.trainOddityRow.domain false Rows.trainOddityRow.laid) (((OpenSpec.ofChange Rows.trainOdditySpec).at F).post enc Tryz.prog Tryz.f6 false true false false) := by
  refine returnsInHanded_of_row (C := Tryz.checked) (s := OpenSpec.ofChange Rows.trainOdditySpec) own started (by kernel_rfl) Tryz.func6
    (witness_row_at (enc := enc) (C := Tryz.checked) false (laidWorld os) wArgs rfl (by kernel_rfl) (by kernel_rfl) (by kernel_rfl)
      (OpenSpec.preRow_of_cond 8 (reads os enc).choose_spec.choose_spec (by kernel_rfl) (fun k hk => by cases hk) (by kernel_rfl) (laid_met os))) ?_
  intro W base args ds gs before hval hW _ _ _ hL hS _
  exact contract H enc W base args ds gs before hval hW (tabs_of hL hS)

theorem named : Tryz.prog.funcNamed Rows.trainOddityRow.func = some 6 := by kernel_rfl
theorem facts : joinedFacts Tryz.prog 6 Tryz.f6 (OpenSpec.ofChange Rows.trainOdditySpec).bare Rows.trainOddityRow = true := by kernel_rfl
theorem inst : Tryz.f6.isInstance Tryz.prog Rows.trainOddityRow.origin Rows.trainOddityRow.targs := of_decide_eq_true (by kernel_rfl)
theorem wrap : Tryz.f6.isWrapper Tryz.prog Rows.trainOddityRow.wrapper Rows.trainOddityRow.mainSum := by
  unfold Func.isWrapper; first | (rw [if_pos (by decide +kernel)]; kernel_rfl) | (rw [if_neg (by decide +kernel)]; exact ⟨rfl, rfl⟩)
theorem said : Rows.TrainOdditySaid :=
  OpenClaim.holds_of_cond 6 Tryz.f6 rfl rfl rfl rfl rfl rfl rfl ⟨rfl, rfl, rfl, rfl, rfl⟩ rfl rfl rfl rfl rfl named Tryz.func6 facts inst wrap
    (fun os started H enc _ F => by rw [OpenClaim.pre_eq_preRow]; exact lifted os started H enc F)
end Go.Proofs.YtcfdaddablojlaaGreatDoor.trainOddity

/- TrainOddity returns true whatever the input, and its arguments read as before: the tied card. -/
namespace Go.Proofs.YtcfdaddablojlaaGreatDoor.trainOddity
open Go.ChangeShapes Go.WideShapes Go.ChangeAt Go.RowKit Go.Joins Go.Deep

theorem stands : (Tryz.f6.params.toList.all fun t => !Tryz.prog.wantsStandIn t) = true := by kernel_rfl
theorem looks : false = Tryz.prog.looks [] := by kernel_rfl
theorem plain (f : FuncId) (fn : Func) (hf : Tryz.pinned.checked.prog.funcNamed "quadform/quadformlaw27.TrainOddity" = some f) (hfn : Tryz.pinned.checked.prog.funcs[f]? = some fn) :
    false = Tryz.pinned.checked.prog.looks [] ∧ ∀ (j : Nat) t, fn.params[j]? = some t → Tryz.pinned.checked.prog.wantsStandIn t = false := by
  obtain rfl : f = 6 := Option.some.inj (named.symm.trans hf) |>.symm
  obtain rfl : fn = Tryz.f6 := (Option.some.inj (Tryz.func6.symm.trans hfn)).symm
  refine ⟨looks, fun j t ht => ?_⟩
  have := List.all_eq_true.1 stands t (by simpa using Array.mem_of_getElem? ht)
  exact (by simpa using this : Tryz.prog.wantsStandIn t = false)
theorem holds : Rows.TrainOddityCardSaid :=
  Claim7.holds_tied_plain_at .later [] _ _ _ _ said (fun _ h => by cases h) (by kernel_rfl) (fun _ h => by cases h) trainOddity_row_tie rfl ⟨rfl, rfl⟩ (by kernel_rfl) rfl plain (by kernel_rfl)
end Go.Proofs.YtcfdaddablojlaaGreatDoor.trainOddity

