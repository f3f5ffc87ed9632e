/- A part of the proof of the laws: VU, VG, VP, VH0, VD, VF1, VS, RC, VV, YT, Y2, YL, VQ, VE, YW, YX, VL. -/
import Derived.Test.YtcfdaddablojlaaGreatDoorPkB2
import Derived.Test.YtcfdaddablojlaaGreatDoorPkM3
import Derived.Test.YtcfdaddablojlaaGreatDoorPkB3
import Derived.Test.YtcfdaddablojlaaGreatDoorPkB1
import Derived.Test.YtcfdaddablojlaaGreatDoorRows
import Derived.Test.YtcfdaddablojlaaGreatDoorTie
import Derived.Test.YtcfdaddablojlaaGreatDoorCards
import Derived.ProofKit
import Derived.Deep.DeepHandedRow
import Derived.Lib.LaidTab
import Derived.Stop.LaidErr
import Derived.Test.YtcfdaddablojlaaGreatDoorChecked
import Derived.WalkKit
import Derived.Lib.Hide
import Derived.Laws.Rows
import Derived.WalkMore
import Derived.Below
import Derived.BigQuiet
import Derived.Deep.QuietTactic
import Derived.Deep.RegionWith
import Derived.Deep.RegionHeld3
import Derived.Laws.StructEq
set_option linter.unusedSimpArgs false
set_option linter.unusedVariables false
/- quadformref26.refine: the oddities of a compartment. -/
set_option linter.unusedSimpArgs false
set_option linter.unusedVariables false
namespace Go.Proofs.YtcfdaddablojlaaGreatDoor.S
open Go.QfSy Go.RowKit

/- the calls of refine for the rest of the compartment -/
noncomputable def rfGo (l : List Int) (k N : Nat) : List Con → List RV → Option (Bool × List Con × List Prop) := fun M A => match A with
  | [.sl n 1 row, .int .i64 k', .int .i64 t] => some ((refF (l.drop (k + 1)) t M).1, (refF (l.drop (k + 1)) t M).2, [n = l.length ∧ row = (fun j => [.int .i64 (l.getD j 0)]) ∧ k' = ((k + 1 : Nat) : Int) ∧ 0 ≤ t ∧ t ≤ 7 ∧ M.length = N])
  | _ => none
def RfC (l : List Int) (k N : Nat) : Prop := ∀ (M : List Con) (t : Int), M.length = N → 0 ≤ t → t ≤ 7 → UpdC Tryz.prog 49 62 M [rI .i64 l, .int .i64 (k : Int), .int .i64 t] (refF (l.drop k) t M).1 (refF (l.drop k) t M).2
theorem rfGo_ok {l : List Int} {k N : Nat} (h : RfC l (k + 1) N) : ∀ M A r M' ms, rfGo l k N M A = some (r, M', ms) → (∀ p ∈ ms, p) → UpdC Tryz.prog 49 62 M A r M' := by
  intro M A r M' ms hq hm
  unfold rfGo at hq
  split at hq
  · cases hq
    obtain ⟨h1, h2, h3, h4, h5, h6⟩ := all_one hm
    subst h1 h2 h3
    exact h M _ h6 h4 h5
  · cases hq

noncomputable def rfT (l : List Int) (k N : Nat) (tot : Int) (t : AV) : List (Nat × AV) := [(0, .lo 1000 N), (1, (rI .i64 l).av), (2, .vint .i64 (k : Int)), (3, .vint .i64 tot), (9, t)]
noncomputable def rfM (M : List Con) : List (Nat × Blk) := [(1000, ⟨.con M, 49, 5, true, true⟩)]
noncomputable def rfAnn (l : List Int) (k N : Nat) (tot : Int) (M0 : List Con) : Ann := ⟨⟨rfT l k N tot (.int .i64 0), rfM M0, 1010⟩, some (refF (l.drop k) tot M0).1, fun d => match d with
  | true => (.ret, ⟨[(8, .bool true)], rfM (refF (l.drop k) tot M0).2, 1010⟩)
  | false => (.exit 0, ⟨[], rfM (refF (l.drop k) tot M0).2, 1010⟩)⟩
def rfN (l : List Int) (k : Nat) (tot : Int) (t : Nat) (M : List Con) : List Con := bif legalB (at_ (setO M (l.getD k 0) (t : Int)) (l.getD k 0).toNat) then (refF (l.drop (k + 1)) ((tot + 8 - (t : Int)) % 8) (setO M (l.getD k 0) (t : Int))).2 else setO M (l.getD k 0) (t : Int)
theorem try_1 {g : Int → List Con → Bool × List Con} {i tot : Int} {t : Nat} {M : List Con} (ht : t < 8) (h1 : legalB (at_ (setO M i (t : Int)) i.toNat) = true) (h2 : (g ((tot + 8 - (t : Int)) % 8) (setO M i (t : Int))).1 = true) : tryF g i tot (8 - t) t M = (true, (g ((tot + 8 - (t : Int)) % 8) (setO M i (t : Int))).2) := by
  rw [show 8 - t = (8 - (t + 1)) + 1 by omega]
  simp only [tryF, h1, h2, cond_true]
theorem try_2 {g : Int → List Con → Bool × List Con} {i tot : Int} {t : Nat} {M : List Con} (ht : t < 8) (h1 : legalB (at_ (setO M i (t : Int)) i.toNat) = true) (h2 : (g ((tot + 8 - (t : Int)) % 8) (setO M i (t : Int))).1 = false) : tryF g i tot (8 - t) t M = tryF g i tot (8 - (t + 1)) (t + 1) (g ((tot + 8 - (t : Int)) % 8) (setO M i (t : Int))).2 := by
  rw [show 8 - t = (8 - (t + 1)) + 1 by omega]
  simp only [tryF, h1, h2, cond_true, cond_false]
theorem try_3 {g : Int → List Con → Bool × List Con} {i tot : Int} {t : Nat} {M : List Con} (ht : t < 8) (h1 : legalB (at_ (setO M i (t : Int)) i.toNat) = false) : tryF g i tot (8 - t) t M = tryF g i tot (8 - (t + 1)) (t + 1) (setO M i (t : Int)) := by
  rw [show 8 - t = (8 - (t + 1)) + 1 by omega]
  simp only [tryF, h1, cond_false]
theorem try_4 {g : Int → List Con → Bool × List Con} {i tot : Int} {t : Nat} {M : List Con} (ht : ¬ t < 8) (h8 : t ≤ 8) : tryF g i tot (8 - t) t M = (false, M) := by
  rw [show 8 - t = 0 by omega]; rfl
theorem rfN_1 {l : List Int} {k : Nat} {tot : Int} {t : Nat} {M : List Con} (h : legalB (at_ (setO M (l.getD k 0) (t : Int)) (l.getD k 0).toNat) = true) : rfN l k tot t M = (refF (l.drop (k + 1)) ((tot + 8 - (t : Int)) % 8) (setO M (l.getD k 0) (t : Int))).2 := by unfold rfN; rw [h]; rfl
theorem rfN_2 {l : List Int} {k : Nat} {tot : Int} {t : Nat} {M : List Con} (h : legalB (at_ (setO M (l.getD k 0) (t : Int)) (l.getD k 0).toNat) = false) : rfN l k tot t M = setO M (l.getD k 0) (t : Int) := by unfold rfN; rw [h]; rfl
theorem inR.drop {N : Nat} {l : List Int} (h : inR N l) (k : Nat) : inR N (l.drop k) := fun x hx => h x (List.mem_of_mem_drop hx)
theorem refF_len {N : Nat} {l : List Int} (h : inR N l) {tot : Int} {M : List Con} (hM : M.length = N) : (refF l tot M).2.length = N := ((ref_spec h).2.1 tot M hM).len.trans hM
theorem rfN_len {N : Nat} {l : List Int} (h : inR N l) {k : Nat} {tot : Int} {t : Nat} {M : List Con} (hM : M.length = N) : (rfN l k tot t M).length = N := by
  unfold rfN
  cases legalB (at_ (setO M (l.getD k 0) (t : Int)) (l.getD k 0).toNat) with
  | false => rw [cond_false, setO_len, hM]
  | true => rw [cond_true]; exact refF_len (h.drop _) (by rw [setO_len, hM])
theorem upd_len {M : List Con} {i : Nat} {t : Int} : (updT M i t).length = M.length := by simp [updT]
set_option maxRecDepth 100000 in
theorem rf_loop (l : List Int) (k N : Nat) (tot : Int) (M0 : List Con) (hk : k < l.length) (hl : l.length ≤ 1000) (hr : inR N l) (h0 : 0 ≤ tot) (h1 : tot ≤ 7) (hM0 : M0.length = N) (ih : RfC l (k + 1) N) : AnnOk Tryz.prog EV.ng (Nat.max 4 Tryz.f62.ntmps) (bodyAt Tryz.f62 [0, 1, 0, 1, 1]) (rfAnn l k N tot M0) := by
  refine ann_of evOk (callF_ok evOk (orcU_ok (rfGo_ok ih) (orcOf_ok entsL_ok)) 8) none_ann (by kernel_rfl) (by kernel_rfl) (fun i : Nat × List Con => (fun (t : Nat) (M : List Con) => (⟨rfT l k N tot (.vint .i64 (t : Int)), rfM M, 1010⟩ : St)) i.1 i.2) (fun i : Nat × List Con => (fun (t : Nat) (M : List Con) => (8 - t : Nat)) i.1 i.2) (fun (d : Bool) (i : Nat × List Con) => (fun (t : Nat) (M : List Con) => (t ≤ 8 ∧ M.length = N ∧ tryF (refF (l.drop (k + 1))) (l.getD k 0) tot (8 - t) t M = refF (l.drop k) tot M0 ∧ (refF (l.drop k) tot M0).1 = d : Prop)) i.1 i.2) ?_ ?_
  · intro d hd
    exact ⟨(0, M0), [N = N, l.length = l.length ∧ (fun j => [RV.int IntKind.i64 (l.getD j (0 : Int))]) = fun j => [RV.int IntKind.i64 (l.getD j (0 : Int))], (↑k : Int) = (↑k : Int), tot = tot, (0 : Int) = (↑(0 : Nat) : Int), M0 = M0], by kernel_rfl, (by refine ⟨?_, ?_, ?_, ?_, ?_, (?_ : M0 = M0)⟩ <;> (first | rfl | assumption | omega | simp_all)), (by exact ⟨Nat.zero_le _, hM0, by rw [drop_int hk]; rfl, hd⟩)⟩
  · rintro d hd ⟨t, M⟩ hI
    cases d
    · -- d = false
      obtain ⟨ht, hM, hf, hs⟩ := hI
      have ht : t ≤ 8 := ht
      have hM : M.length = N := hM
      have hf : tryF (refF (l.drop (k + 1))) (l.getD k 0) tot (8 - t) t M = refF (l.drop k) tot M0 := hf
      have ek : IntKind.i64.wrap ((t : Int) + 1) = ((t + 1 : Nat) : Int) := by rw [w64 (by omega) (by omega)]; omega
      have hi := hr.at hk
      have e2 : ∀ b, legalB ((updT M (l.getD k 0).toNat (t : Int)).getD (l.getD k 0).toNat Con.zero) = b → legalB (at_ (setO M (l.getD k 0) (t : Int)) (l.getD k 0).toNat) = b := fun _ h => h
      have et : t < 8 → (IntKind.i64.wrap (IntKind.i64.wrap (tot + 8) - (t : Int))).tmod 8 = (tot + 8 - (t : Int)) % 8 := fun h8 => by rw [w64 (n := tot + 8) (by omega) (by omega), w64 (by omega) (by omega), Int.tmod_eq_emod_of_nonneg (by omega)]
      have ew : IntKind.i64.wrap ((k : Int) + 1) = ((k + 1 : Nat) : Int) := by rw [w64 (by omega) (by omega)]; omega
      refine Or.elim (Bool.eq_false_or_eq_true (decide ((↑t : Int) < (8 : Int)))) (fun d1 => Or.elim (Bool.eq_false_or_eq_true (legalB ((updT M (l.getD k (0 : Int)).toNat (↑t : Int)).getD (l.getD k (0 : Int)).toNat Con.zero))) (fun d2 => Or.elim (Bool.eq_false_or_eq_true ((refF (List.drop (k + (1 : Nat)) l) ((IntKind.i64.wrap (IntKind.i64.wrap (tot + (8 : Int)) - (↑t : Int))).tmod (8 : Int)) (updT M (l.getD k (0 : Int)).toNat (↑t : Int))).fst)) (fun d3 => CtG.no ?_)
           (fun d3 => ⟨[true, true, false], .inl ⟨(t + 1, rfN l k tot t M), [N = N, l.length = l.length ∧ (fun j => [RV.int IntKind.i64 (l.getD j (0 : Int))]) = fun j => [RV.int IntKind.i64 (l.getD j (0 : Int))], (↑k : Int) = (↑k : Int), tot = tot, IntKind.i64.wrap ((↑t : Int) + (1 : Int)) = (↑(t + (1 : Nat)) : Int), (refF (List.drop (k + (1 : Nat)) l) ((IntKind.i64.wrap (IntKind.i64.wrap (tot + (8 : Int)) - (↑t : Int))).tmod (8 : Int)) (updT M (l.getD k (0 : Int)).toNat (↑t : Int))).snd = rfN l k tot t M, Dec (refF (List.drop (k + (1 : Nat)) l) ((IntKind.i64.wrap (IntKind.i64.wrap (tot + (8 : Int)) - (↑t : Int))).tmod (8 : Int)) (updT M (l.getD k (0 : Int)).toNat (↑t : Int))).fst false, N = (updT M (l.getD k (0 : Int)).toNat (↑t : Int)).length, l.length = l.length ∧ ((fun j => [RV.int IntKind.i64 (l.getD j (0 : Int))]) = fun j => [RV.int IntKind.i64 (l.getD j (0 : Int))]) ∧ IntKind.i64.wrap ((↑k : Int) + (1 : Int)) = (↑(k + (1 : Nat)) : Int) ∧ (0 : Int) ≤ (IntKind.i64.wrap (IntKind.i64.wrap (tot + (8 : Int)) - (↑t : Int))).tmod (8 : Int) ∧ (IntKind.i64.wrap (IntKind.i64.wrap (tot + (8 : Int)) - (↑t : Int))).tmod (8 : Int) ≤ (7 : Int) ∧ (updT M (l.getD k (0 : Int)).toNat (↑t : Int)).length = N, (8 : Int) ≠ (0 : Int), Dec (legalB ((updT M (l.getD k (0 : Int)).toNat (↑t : Int)).getD (l.getD k (0 : Int)).toNat Con.zero)) true, (l.getD k (0 : Int)).toNat < (updT M (l.getD k (0 : Int)).toNat (↑t : Int)).length, (0 : Int) ≤ l.getD k (0 : Int) ∧ l.getD k (0 : Int) < (↑N : Int), (0 : Int) ≤ (↑k : Int) ∧ (↑k : Int) < (↑l.length : Int), (l.getD k (0 : Int)).toNat < M.length, (0 : Int) ≤ l.getD k (0 : Int) ∧ l.getD k (0 : Int) < (↑N : Int), (0 : Int) ≤ (↑k : Int) ∧ (↑k : Int) < (↑l.length : Int), Dec (decide ((↑t : Int) < (8 : Int))) true], by kernel_rfl, ⟨?_, ?_, ?_, ?_, ?_, ?_, d3, ?_, ?_, ?_, d2, ?_, ?_, ?_, ?_, ?_, ?_, d1⟩, MuG.out ?_, InG.out ?_⟩⟩))
           (fun d2 => ⟨[true, false], .inl ⟨(t + 1, rfN l k tot t M), [N = N, l.length = l.length ∧ (fun j => [RV.int IntKind.i64 (l.getD j (0 : Int))]) = fun j => [RV.int IntKind.i64 (l.getD j (0 : Int))], (↑k : Int) = (↑k : Int), tot = tot, IntKind.i64.wrap ((↑t : Int) + (1 : Int)) = (↑(t + (1 : Nat)) : Int), updT M (l.getD k (0 : Int)).toNat (↑t : Int) = rfN l k tot t M, Dec (legalB ((updT M (l.getD k (0 : Int)).toNat (↑t : Int)).getD (l.getD k (0 : Int)).toNat Con.zero)) false, (l.getD k (0 : Int)).toNat < (updT M (l.getD k (0 : Int)).toNat (↑t : Int)).length, (0 : Int) ≤ l.getD k (0 : Int) ∧ l.getD k (0 : Int) < (↑N : Int), (0 : Int) ≤ (↑k : Int) ∧ (↑k : Int) < (↑l.length : Int), (l.getD k (0 : Int)).toNat < M.length, (0 : Int) ≤ l.getD k (0 : Int) ∧ l.getD k (0 : Int) < (↑N : Int), (0 : Int) ≤ (↑k : Int) ∧ (↑k : Int) < (↑l.length : Int), Dec (decide ((↑t : Int) < (8 : Int))) true], by kernel_rfl, ⟨?_, ?_, ?_, ?_, ?_, ?_, d2, ?_, ?_, ?_, ?_, ?_, ?_, d1⟩, MuG.out ?_, InG.out ?_⟩⟩))
           (fun d1 => ⟨[false], .inr ⟨[M = (refF (List.drop k l) tot M0).snd, Dec (decide ((↑t : Int) < (8 : Int))) false], by kernel_rfl, ⟨?_, d1⟩, rfl⟩⟩)
      all_goals first | (refine MuG.mk ?_; (simp only [decide_eq_true_eq] at d1; show 8 - (t + 1) < 8 - t; omega)) | (refine InG.mk ?_; (simp only [decide_eq_true_eq] at d1; have h8 : t < 8 := (by omega); have ex := et h8; refine ⟨h8, rfN_len hr hM, ?_, hs⟩; first | (rw [ex] at d3; rw [rfN_1 (e2 _ d2), ← hf, try_2 h8 (e2 _ d2) d3]; done) | (rw [rfN_2 (e2 _ d2), ← hf, try_3 h8 (e2 _ d2)]; done))) | (refine CtG.mk ?_; (simp only [decide_eq_true_eq, decide_eq_false_iff_not] at d1; first | (rw [← hf, try_4 (by omega) (by omega)] at hs; cases hs; done) | (have h8 : t < 8 := (by omega); have ex := et h8; rw [ex] at d3; rw [← hf, try_1 h8 (e2 _ d2) d3] at hs; cases hs; done))) | (first | (with_reducible rfl) | exact ⟨rfl, rfl⟩ | decide | ((try simp only [ek, decide_eq_true_eq, decide_eq_false_iff_not] at d1 ⊢) <;> first | omega | (rw [upd_len]; omega) | (have h8 : t = 8 := (by omega); rw [← hf, try_4 (by omega) (by omega)]; done) | (have h8 : t < 8 := (by omega); have ex := et h8; first | exact ⟨by trivial, by trivial, ew, by rw [ex]; omega, by rw [ex]; omega, by rw [upd_len]; exact hM⟩ | (rw [ex] at d3; rw [ex, ← hf, try_1 h8 (e2 _ d2) d3] <;> rfl) | (rw [ex, rfN_1 (e2 _ d2)] <;> rfl) | (rw [rfN_2 (e2 _ d2)] <;> rfl))))
    · -- d = true
      obtain ⟨ht, hM, hf, hs⟩ := hI
      have ht : t ≤ 8 := ht
      have hM : M.length = N := hM
      have hf : tryF (refF (l.drop (k + 1))) (l.getD k 0) tot (8 - t) t M = refF (l.drop k) tot M0 := hf
      have ek : IntKind.i64.wrap ((t : Int) + 1) = ((t + 1 : Nat) : Int) := by rw [w64 (by omega) (by omega)]; omega
      have hi := hr.at hk
      have e2 : ∀ b, legalB ((updT M (l.getD k 0).toNat (t : Int)).getD (l.getD k 0).toNat Con.zero) = b → legalB (at_ (setO M (l.getD k 0) (t : Int)) (l.getD k 0).toNat) = b := fun _ h => h
      have et : t < 8 → (IntKind.i64.wrap (IntKind.i64.wrap (tot + 8) - (t : Int))).tmod 8 = (tot + 8 - (t : Int)) % 8 := fun h8 => by rw [w64 (n := tot + 8) (by omega) (by omega), w64 (by omega) (by omega), Int.tmod_eq_emod_of_nonneg (by omega)]
      have ew : IntKind.i64.wrap ((k : Int) + 1) = ((k + 1 : Nat) : Int) := by rw [w64 (by omega) (by omega)]; omega
      refine Or.elim (Bool.eq_false_or_eq_true (decide ((↑t : Int) < (8 : Int)))) (fun d1 => Or.elim (Bool.eq_false_or_eq_true (legalB ((updT M (l.getD k (0 : Int)).toNat (↑t : Int)).getD (l.getD k (0 : Int)).toNat Con.zero))) (fun d2 => Or.elim (Bool.eq_false_or_eq_true ((refF (List.drop (k + (1 : Nat)) l) ((IntKind.i64.wrap (IntKind.i64.wrap (tot + (8 : Int)) - (↑t : Int))).tmod (8 : Int)) (updT M (l.getD k (0 : Int)).toNat (↑t : Int))).fst)) (fun d3 => ⟨[true, true, true], .inr ⟨[(refF (List.drop (k + (1 : Nat)) l) ((IntKind.i64.wrap (IntKind.i64.wrap (tot + (8 : Int)) - (↑t : Int))).tmod (8 : Int)) (updT M (l.getD k (0 : Int)).toNat (↑t : Int))).snd = (refF (List.drop k l) tot M0).snd, Dec (refF (List.drop (k + (1 : Nat)) l) ((IntKind.i64.wrap (IntKind.i64.wrap (tot + (8 : Int)) - (↑t : Int))).tmod (8 : Int)) (updT M (l.getD k (0 : Int)).toNat (↑t : Int))).fst true, N = (updT M (l.getD k (0 : Int)).toNat (↑t : Int)).length, l.length = l.length ∧ ((fun j => [RV.int IntKind.i64 (l.getD j (0 : Int))]) = fun j => [RV.int IntKind.i64 (l.getD j (0 : Int))]) ∧ IntKind.i64.wrap ((↑k : Int) + (1 : Int)) = (↑(k + (1 : Nat)) : Int) ∧ (0 : Int) ≤ (IntKind.i64.wrap (IntKind.i64.wrap (tot + (8 : Int)) - (↑t : Int))).tmod (8 : Int) ∧ (IntKind.i64.wrap (IntKind.i64.wrap (tot + (8 : Int)) - (↑t : Int))).tmod (8 : Int) ≤ (7 : Int) ∧ (updT M (l.getD k (0 : Int)).toNat (↑t : Int)).length = N, (8 : Int) ≠ (0 : Int), Dec (legalB ((updT M (l.getD k (0 : Int)).toNat (↑t : Int)).getD (l.getD k (0 : Int)).toNat Con.zero)) true, (l.getD k (0 : Int)).toNat < (updT M (l.getD k (0 : Int)).toNat (↑t : Int)).length, (0 : Int) ≤ l.getD k (0 : Int) ∧ l.getD k (0 : Int) < (↑N : Int), (0 : Int) ≤ (↑k : Int) ∧ (↑k : Int) < (↑l.length : Int), (l.getD k (0 : Int)).toNat < M.length, (0 : Int) ≤ l.getD k (0 : Int) ∧ l.getD k (0 : Int) < (↑N : Int), (0 : Int) ≤ (↑k : Int) ∧ (↑k : Int) < (↑l.length : Int), Dec (decide ((↑t : Int) < (8 : Int))) true], by kernel_rfl, ⟨?_, d3, ?_, ?_, ?_, d2, ?_, ?_, ?_, ?_, ?_, ?_, d1⟩, rfl⟩⟩)
           (fun d3 => ⟨[true, true, false], .inl ⟨(t + 1, rfN l k tot t M), [N = N, l.length = l.length ∧ (fun j => [RV.int IntKind.i64 (l.getD j (0 : Int))]) = fun j => [RV.int IntKind.i64 (l.getD j (0 : Int))], (↑k : Int) = (↑k : Int), tot = tot, IntKind.i64.wrap ((↑t : Int) + (1 : Int)) = (↑(t + (1 : Nat)) : Int), (refF (List.drop (k + (1 : Nat)) l) ((IntKind.i64.wrap (IntKind.i64.wrap (tot + (8 : Int)) - (↑t : Int))).tmod (8 : Int)) (updT M (l.getD k (0 : Int)).toNat (↑t : Int))).snd = rfN l k tot t M, Dec (refF (List.drop (k + (1 : Nat)) l) ((IntKind.i64.wrap (IntKind.i64.wrap (tot + (8 : Int)) - (↑t : Int))).tmod (8 : Int)) (updT M (l.getD k (0 : Int)).toNat (↑t : Int))).fst false, N = (updT M (l.getD k (0 : Int)).toNat (↑t : Int)).length, l.length = l.length ∧ ((fun j => [RV.int IntKind.i64 (l.getD j (0 : Int))]) = fun j => [RV.int IntKind.i64 (l.getD j (0 : Int))]) ∧ IntKind.i64.wrap ((↑k : Int) + (1 : Int)) = (↑(k + (1 : Nat)) : Int) ∧ (0 : Int) ≤ (IntKind.i64.wrap (IntKind.i64.wrap (tot + (8 : Int)) - (↑t : Int))).tmod (8 : Int) ∧ (IntKind.i64.wrap (IntKind.i64.wrap (tot + (8 : Int)) - (↑t : Int))).tmod (8 : Int) ≤ (7 : Int) ∧ (updT M (l.getD k (0 : Int)).toNat (↑t : Int)).length = N, (8 : Int) ≠ (0 : Int), Dec (legalB ((updT M (l.getD k (0 : Int)).toNat (↑t : Int)).getD (l.getD k (0 : Int)).toNat Con.zero)) true, (l.getD k (0 : Int)).toNat < (updT M (l.getD k (0 : Int)).toNat (↑t : Int)).length, (0 : Int) ≤ l.getD k (0 : Int) ∧ l.getD k (0 : Int) < (↑N : Int), (0 : Int) ≤ (↑k : Int) ∧ (↑k : Int) < (↑l.length : Int), (l.getD k (0 : Int)).toNat < M.length, (0 : Int) ≤ l.getD k (0 : Int) ∧ l.getD k (0 : Int) < (↑N : Int), (0 : Int) ≤ (↑k : Int) ∧ (↑k : Int) < (↑l.length : Int), Dec (decide ((↑t : Int) < (8 : Int))) true], by kernel_rfl, ⟨?_, ?_, ?_, ?_, ?_, ?_, d3, ?_, ?_, ?_, d2, ?_, ?_, ?_, ?_, ?_, ?_, d1⟩, MuG.out ?_, InG.out ?_⟩⟩))
           (fun d2 => ⟨[true, false], .inl ⟨(t + 1, rfN l k tot t M), [N = N, l.length = l.length ∧ (fun j => [RV.int IntKind.i64 (l.getD j (0 : Int))]) = fun j => [RV.int IntKind.i64 (l.getD j (0 : Int))], (↑k : Int) = (↑k : Int), tot = tot, IntKind.i64.wrap ((↑t : Int) + (1 : Int)) = (↑(t + (1 : Nat)) : Int), updT M (l.getD k (0 : Int)).toNat (↑t : Int) = rfN l k tot t M, Dec (legalB ((updT M (l.getD k (0 : Int)).toNat (↑t : Int)).getD (l.getD k (0 : Int)).toNat Con.zero)) false, (l.getD k (0 : Int)).toNat < (updT M (l.getD k (0 : Int)).toNat (↑t : Int)).length, (0 : Int) ≤ l.getD k (0 : Int) ∧ l.getD k (0 : Int) < (↑N : Int), (0 : Int) ≤ (↑k : Int) ∧ (↑k : Int) < (↑l.length : Int), (l.getD k (0 : Int)).toNat < M.length, (0 : Int) ≤ l.getD k (0 : Int) ∧ l.getD k (0 : Int) < (↑N : Int), (0 : Int) ≤ (↑k : Int) ∧ (↑k : Int) < (↑l.length : Int), Dec (decide ((↑t : Int) < (8 : Int))) true], by kernel_rfl, ⟨?_, ?_, ?_, ?_, ?_, ?_, d2, ?_, ?_, ?_, ?_, ?_, ?_, d1⟩, MuG.out ?_, InG.out ?_⟩⟩))
           (fun d1 => CtG.no ?_)
      all_goals first | (refine MuG.mk ?_; (simp only [decide_eq_true_eq] at d1; show 8 - (t + 1) < 8 - t; omega)) | (refine InG.mk ?_; (simp only [decide_eq_true_eq] at d1; have h8 : t < 8 := (by omega); have ex := et h8; refine ⟨h8, rfN_len hr hM, ?_, hs⟩; first | (rw [ex] at d3; rw [rfN_1 (e2 _ d2), ← hf, try_2 h8 (e2 _ d2) d3]; done) | (rw [rfN_2 (e2 _ d2), ← hf, try_3 h8 (e2 _ d2)]; done))) | (refine CtG.mk ?_; (simp only [decide_eq_true_eq, decide_eq_false_iff_not] at d1; first | (rw [← hf, try_4 (by omega) (by omega)] at hs; cases hs; done) | (have h8 : t < 8 := (by omega); have ex := et h8; rw [ex] at d3; rw [← hf, try_1 h8 (e2 _ d2) d3] at hs; cases hs; done))) | (first | (with_reducible rfl) | exact ⟨rfl, rfl⟩ | decide | ((try simp only [ek, decide_eq_true_eq, decide_eq_false_iff_not] at d1 ⊢) <;> first | omega | (rw [upd_len]; omega) | (have h8 : t = 8 := (by omega); rw [← hf, try_4 (by omega) (by omega)]; done) | (have h8 : t < 8 := (by omega); have ex := et h8; first | exact ⟨by trivial, by trivial, ew, by rw [ex]; omega, by rw [ex]; omega, by rw [upd_len]; exact hM⟩ | (rw [ex] at d3; rw [ex, ← hf, try_1 h8 (e2 _ d2) d3] <;> rfl) | (rw [ex, rfN_1 (e2 _ d2)] <;> rfl) | (rw [rfN_2 (e2 _ d2)] <;> rfl))))
set_option maxRecDepth 100000 in
theorem rf_end (l : List Int) (k : Nat) (tot : Int) (M : List Con) (hk : k = l.length) : UpdC Tryz.prog 49 62 (M) [rI .i64 l, .int .i64 (k : Int), .int .i64 tot] (tot == 0) (M) := by
  have k1 : ((k : Int) == (l.length : Int)) = true := (by rw [hk]; exact beq_self_eq_true _)
  have rr := fun (tp : List Bool) (ms : List Prop) h hm => upd_of_run evOk (callF_ok evOk (orcOf_ok entsL_ok) 8) Tryz.func62 (A := [rI .i64 l, .int .i64 (k : Int), .int .i64 tot]) (M := M) (M' := M) (el := 49) (N := Nat.max 4 Tryz.f62.ntmps) rfl none_ann evNg (r := tot == 0) (tp := tp) (ms := ms) h hm
  refine rr [true] [(tot == (0 : Int)) = (tot == (0 : Int)), M = M, Dec ((↑k : Int) == (↑l.length : Int)) true] (by kernel_rfl) ⟨?_, ?_, k1⟩
  all_goals first | (first | (with_reducible rfl) | exact ⟨rfl, rfl⟩)
set_option maxRecDepth 100000 in
theorem rf_step (l : List Int) (k N : Nat) (tot : Int) (M : List Con) (hk : k < l.length) (hl : l.length ≤ 1000) (hr : inR N l) (h0 : 0 ≤ tot) (h1 : tot ≤ 7) (hM0 : M.length = N) (ih : RfC l (k + 1) N) : UpdC Tryz.prog 49 62 (M) [rI .i64 l, .int .i64 (k : Int), .int .i64 tot] ((refF (l.drop k) tot M).1) ((refF (l.drop k) tot M).2) := by
  have k1 : ((k : Int) == (l.length : Int)) = false := (by rw [beq_eq_false_iff_ne]; omega)
  have rr := fun (tp : List Bool) (ms : List Prop) h hm => upd_of_run evOk (callF_ok evOk (orcU_ok (rfGo_ok ih) (orcOf_ok entsL_ok)) 8) Tryz.func62 (A := [rI .i64 l, .int .i64 (k : Int), .int .i64 tot]) (M := M) (M' := (refF (l.drop k) tot M).2) (el := 49) (N := Nat.max 4 Tryz.f62.ntmps) rfl (one_ann (rf_loop l k N tot M hk hl hr h0 h1 hM0 ih)) evNg (r := (refF (l.drop k) tot M).1) (tp := tp) (ms := ms) h hm
  refine Or.elim (Bool.eq_false_or_eq_true ((refF (List.drop k l) tot M).fst)) (fun d1 => rr [false, true] [true = (refF (List.drop k l) tot M).fst, (refF (List.drop k l) tot M).snd = (refF (List.drop k l) tot M).snd, M.length = N, l.length = l.length ∧ (fun j => [RV.int IntKind.i64 (l.getD j (0 : Int))]) = fun j => [RV.int IntKind.i64 (l.getD j (0 : Int))], (↑k : Int) = (↑k : Int), tot = tot, M = M, Dec (refF (List.drop k l) tot M).fst true, Dec ((↑k : Int) == (↑l.length : Int)) false] (by kernel_rfl) ⟨?_, ?_, ?_, ?_, ?_, ?_, ?_, d1, k1⟩)
           (fun d1 => rr [false, false] [false = (refF (List.drop k l) tot M).fst, (refF (List.drop k l) tot M).snd = (refF (List.drop k l) tot M).snd, M.length = N, l.length = l.length ∧ (fun j => [RV.int IntKind.i64 (l.getD j (0 : Int))]) = fun j => [RV.int IntKind.i64 (l.getD j (0 : Int))], (↑k : Int) = (↑k : Int), tot = tot, M = M, Dec (refF (List.drop k l) tot M).fst false, Dec ((↑k : Int) == (↑l.length : Int)) false] (by kernel_rfl) ⟨?_, ?_, ?_, ?_, ?_, ?_, ?_, d1, k1⟩)
  all_goals first | (first | (with_reducible rfl) | exact ⟨rfl, rfl⟩ | exact hM0 | exact d1.symm)
theorem refine_upd {l : List Int} {N : Nat} (hl : l.length ≤ 1000) (hr : inR N l) : ∀ n k, k + n = l.length → RfC l k N
  | 0, k, h => fun M t hM h0 h1 => by
    have := rf_end l k t M (by omega)
    rw [List.drop_eq_nil_of_le (by omega)]
    exact this
  | n + 1, k, h => fun M t hM h0 h1 => rf_step l k N t M (by omega) hl hr h0 h1 hM (refine_upd hl hr n (k + 1) (by omega))
end Go.Proofs.YtcfdaddablojlaaGreatDoor.S

/- quadformref26.Fused. -/
set_option linter.unusedSimpArgs false
set_option linter.unusedVariables false
namespace Go.Proofs.YtcfdaddablojlaaGreatDoor.S
open Go.QfSy Go.RowKit

noncomputable def entsRF : List OEnt := entsP ++ (entsQ ++ entsL)
theorem entsRF_ok : ∀ e ∈ entsRF, EntOk Tryz.prog e := by
  intro e he
  rcases List.mem_append.1 he with he | he
  · exact entsP_ok e he
  · rcases List.mem_append.1 he with he | he
    · exact entsQ_ok e he
    · exact entsL_ok e he
theorem rng_drop {n k : Nat} (h : k < n) : (List.range n).drop k = k :: (List.range n).drop (k + 1) := by
  rw [List.drop_eq_getElem_cons (by simpa using h)]; simp
theorem rngA_drop {n k : Nat} (h : k < n) (q : Nat → Bool) : ((List.range n).drop k).all q = (q k && ((List.range n).drop (k + 1)).all q) := by
  rw [rng_drop h]; rfl
theorem rngA_end {n k : Nat} (h : n ≤ k) (q : Nat → Bool) : ((List.range n).drop k).all q = true := by
  rw [List.drop_eq_nil_of_le (by simpa using h)]; rfl
theorem fusI_iff {L : List Con} {i : Nat} : fusI L i = true ↔ (0 ≤ (at_ L i).oddity ∧ (at_ L i).oddity ≤ 7) ∧ ((at_ L i).odd = false → (at_ L i).dim.tmod 2 = 0 ∧ (at_ L i).oddity = 0) ∧ ((at_ L i).odd = true → (partM L i).getD 0 0 = (i : Int) ∨ (at_ L i).oddity = 0) := by
  simp only [fusI, fusC, oddB, tmod2]
  cases (at_ L i).odd <;> simp
theorem fusI_no {L : List Con} {i : Nat} (h : ¬ ((0 ≤ (at_ L i).oddity ∧ (at_ L i).oddity ≤ 7) ∧ ((at_ L i).odd = false → (at_ L i).dim.tmod 2 = 0 ∧ (at_ L i).oddity = 0) ∧ ((at_ L i).odd = true → (partM L i).getD 0 0 = (i : Int) ∨ (at_ L i).oddity = 0))) : fusI L i = false := by
  cases hf : fusI L i with
  | false => rfl
  | true => exact absurd (fusI_iff.1 hf) h
theorem part_pos {L : List Con} {i : Nat} (h : i < L.length) (ho : (L.getD i Con.zero).odd = true) : 0 < (partM L (i : Int)).length := by
  have := (partM_odd h (show oddB L i = true from ho)).2
  exact List.length_pos_iff.2 (fun e => by rw [e] at this; simp at this)
noncomputable def r1Ann (p : Int) (L : List Con) : Ann := ⟨⟨[(1, .ptr 1000 0), (20, (roC L).av), (21, .vint .i64 L.length), (22, .int .i64 0)], loH p L, 1020⟩, some ((List.range L.length).all (fusI L)), fun d => match d with
  | true => (.exit 0, ⟨[(1, .ptr 1000 0)], loH p L, 1020⟩)
  | false => (.ret, ⟨[(2, .bool false)], [], 1020⟩)⟩
set_option maxHeartbeats 2000000 in
set_option maxRecDepth 100000 in
theorem r1_loop (p : Int) (L : List Con) (hL : okE L) : AnnOk Tryz.prog EV.ng (Nat.max 1 Tryz.f40.ntmps) (bodyAt Tryz.f40 [0, 1, 0, 1, 1]) (r1Ann p L) := by
  refine ann_of evOk (callF_ok evOk (orcOf_ok entsRF_ok) 8) none_ann (by kernel_rfl) (by kernel_rfl) (fun i : Nat => (fun (k : Nat) => (⟨[(1, .ptr 1000 0), (20, (roC L).av), (21, .vint .i64 L.length), (22, .vint .i64 (k : Int))], loH p L, 1020⟩ : St)) i) (fun i : Nat => (fun (k : Nat) => (L.length - k : Nat)) i) (fun (d : Bool) (i : Nat) => (fun (k : Nat) => (k ≤ L.length ∧ ((List.range L.length).drop k).all (fusI L) = d : Prop)) i) ?_ ?_
  · intro d hd
    exact ⟨(0), [L.length = L.length ∧ (fun i => (L.getD i Con.zero).rvs) = fun i => (L.getD i Con.zero).rvs, (↑L.length : Int) = (↑L.length : Int), (0 : Int) = (↑(0 : Nat) : Int), p = p, L.length = L.length ∧ (fun i => (L.getD i Con.zero).rvs) = fun i => (L.getD i Con.zero).rvs], by kernel_rfl, (by refine ⟨?_, ?_, ?_, ?_, (?_ : L.length = L.length ∧ (fun i => (L.getD i Con.zero).rvs) = fun i => (L.getD i Con.zero).rvs)⟩ <;> (first | rfl | assumption | omega | simp_all)), (by exact ⟨Nat.zero_le _, hd⟩)⟩
  · rintro d hd k hI
    cases d
    · -- d = false
      obtain ⟨hk, hs⟩ := hI
      have hk : k ≤ L.length := hk
      have hl := hL.1
      have ek : IntKind.i64.wrap ((k : Int) + 1) = ((k + 1 : Nat) : Int) := by rw [w64 (by omega) (by omega)]; omega
      refine Or.elim (Bool.eq_false_or_eq_true (decide ((↑k : Int) < (↑L.length : Int)))) (fun d1 => Or.elim (Bool.eq_false_or_eq_true (decide ((L.getD k Con.zero).oddity < (0 : Int)))) (fun d2 => ⟨[true, true], .inr ⟨[Dec (decide ((L.getD k Con.zero).oddity < (0 : Int))) true, (0 : Int) ≤ (↑k : Int) ∧ (↑k : Int) < (↑L.length : Int), Dec (decide ((↑k : Int) < (↑L.length : Int))) true], by kernel_rfl, ⟨d2, ?_, d1⟩, rfl⟩⟩)
           (fun d2 => Or.elim (Bool.eq_false_or_eq_true (decide ((L.getD k Con.zero).oddity > (7 : Int)))) (fun d3 => ⟨[true, false, true], .inr ⟨[Dec (decide ((L.getD k Con.zero).oddity > (7 : Int))) true, Dec (decide ((L.getD k Con.zero).oddity < (0 : Int))) false, (0 : Int) ≤ (↑k : Int) ∧ (↑k : Int) < (↑L.length : Int), Dec (decide ((↑k : Int) < (↑L.length : Int))) true], by kernel_rfl, ⟨d3, d2, ?_, d1⟩, rfl⟩⟩)
           (fun d3 => Or.elim (Bool.eq_false_or_eq_true ((L.getD k Con.zero).odd)) (fun d4 => Or.elim (Bool.eq_false_or_eq_true ((partM (consR L.length fun i => (L.getD i Con.zero).rvs) (↑k : Int)).getD (Int.toNat (0 : Int)) (0 : Int) == (↑k : Int))) (fun d5 => ⟨[true, false, false, false, true, false], .inl ⟨(k + 1), [L.length = L.length ∧ (fun i => (L.getD i Con.zero).rvs) = fun i => (L.getD i Con.zero).rvs, (↑L.length : Int) = (↑L.length : Int), IntKind.i64.wrap ((↑k : Int) + (1 : Int)) = (↑(k + (1 : Nat)) : Int), p = p, L.length = L.length ∧ (fun i => (L.getD i Con.zero).rvs) = fun i => (L.getD i Con.zero).rvs, Dec ((partM (consR L.length fun i => (L.getD i Con.zero).rvs) (↑k : Int)).getD (Int.toNat (0 : Int)) (0 : Int) != (↑k : Int)) false, (0 : Int) ≤ (0 : Int) ∧ (0 : Int) < (↑(partM (consR L.length fun i => (L.getD i Con.zero).rvs) (↑k : Int)).length : Int), (∀ (i : Nat), i < L.length → (fun i => (L.getD i Con.zero).rvs) i = (Con.ofR ((fun i => (L.getD i Con.zero).rvs) i)).rvs) ∧ okE (consR L.length fun i => (L.getD i Con.zero).rvs), Dec (L.getD k Con.zero).odd true, Dec (!(L.getD k Con.zero).odd) false, Dec (decide ((L.getD k Con.zero).oddity > (7 : Int))) false, Dec (decide ((L.getD k Con.zero).oddity < (0 : Int))) false, (0 : Int) ≤ (↑k : Int) ∧ (↑k : Int) < (↑L.length : Int), Dec (decide ((↑k : Int) < (↑L.length : Int))) true], by kernel_rfl, ⟨?_, ?_, ?_, ?_, ?_, (dN d5), ?_, ?_, d4, (dN d4), d3, d2, ?_, d1⟩, MuG.out ?_, InG.out ?_⟩⟩)
           (fun d5 => Or.elim (Bool.eq_false_or_eq_true ((L.getD k Con.zero).oddity == (0 : Int))) (fun d6 => ⟨[true, false, false, false, true, true, false], .inl ⟨(k + 1), [L.length = L.length ∧ (fun i => (L.getD i Con.zero).rvs) = fun i => (L.getD i Con.zero).rvs, (↑L.length : Int) = (↑L.length : Int), IntKind.i64.wrap ((↑k : Int) + (1 : Int)) = (↑(k + (1 : Nat)) : Int), p = p, L.length = L.length ∧ (fun i => (L.getD i Con.zero).rvs) = fun i => (L.getD i Con.zero).rvs, Dec ((L.getD k Con.zero).oddity != (0 : Int)) false, Dec ((partM (consR L.length fun i => (L.getD i Con.zero).rvs) (↑k : Int)).getD (Int.toNat (0 : Int)) (0 : Int) != (↑k : Int)) true, (0 : Int) ≤ (0 : Int) ∧ (0 : Int) < (↑(partM (consR L.length fun i => (L.getD i Con.zero).rvs) (↑k : Int)).length : Int), (∀ (i : Nat), i < L.length → (fun i => (L.getD i Con.zero).rvs) i = (Con.ofR ((fun i => (L.getD i Con.zero).rvs) i)).rvs) ∧ okE (consR L.length fun i => (L.getD i Con.zero).rvs), Dec (L.getD k Con.zero).odd true, Dec (!(L.getD k Con.zero).odd) false, Dec (decide ((L.getD k Con.zero).oddity > (7 : Int))) false, Dec (decide ((L.getD k Con.zero).oddity < (0 : Int))) false, (0 : Int) ≤ (↑k : Int) ∧ (↑k : Int) < (↑L.length : Int), Dec (decide ((↑k : Int) < (↑L.length : Int))) true], by kernel_rfl, ⟨?_, ?_, ?_, ?_, ?_, (dN d6), (dN d5), ?_, ?_, d4, (dN d4), d3, d2, ?_, d1⟩, MuG.out ?_, InG.out ?_⟩⟩)
           (fun d6 => ⟨[true, false, false, false, true, true, true], .inr ⟨[Dec ((L.getD k Con.zero).oddity != (0 : Int)) true, Dec ((partM (consR L.length fun i => (L.getD i Con.zero).rvs) (↑k : Int)).getD (Int.toNat (0 : Int)) (0 : Int) != (↑k : Int)) true, (0 : Int) ≤ (0 : Int) ∧ (0 : Int) < (↑(partM (consR L.length fun i => (L.getD i Con.zero).rvs) (↑k : Int)).length : Int), (∀ (i : Nat), i < L.length → (fun i => (L.getD i Con.zero).rvs) i = (Con.ofR ((fun i => (L.getD i Con.zero).rvs) i)).rvs) ∧ okE (consR L.length fun i => (L.getD i Con.zero).rvs), Dec (L.getD k Con.zero).odd true, Dec (!(L.getD k Con.zero).odd) false, Dec (decide ((L.getD k Con.zero).oddity > (7 : Int))) false, Dec (decide ((L.getD k Con.zero).oddity < (0 : Int))) false, (0 : Int) ≤ (↑k : Int) ∧ (↑k : Int) < (↑L.length : Int), Dec (decide ((↑k : Int) < (↑L.length : Int))) true], by kernel_rfl, ⟨(dN d6), (dN d5), ?_, ?_, d4, (dN d4), d3, d2, ?_, d1⟩, rfl⟩⟩)))
           (fun d4 => Or.elim (Bool.eq_false_or_eq_true ((L.getD k Con.zero).dim.tmod (2 : Int) == (0 : Int))) (fun d5 => Or.elim (Bool.eq_false_or_eq_true ((L.getD k Con.zero).oddity == (0 : Int))) (fun d6 => ⟨[true, false, false, true, false, false, false], .inl ⟨(k + 1), [L.length = L.length ∧ (fun i => (L.getD i Con.zero).rvs) = fun i => (L.getD i Con.zero).rvs, (↑L.length : Int) = (↑L.length : Int), IntKind.i64.wrap ((↑k : Int) + (1 : Int)) = (↑(k + (1 : Nat)) : Int), p = p, L.length = L.length ∧ (fun i => (L.getD i Con.zero).rvs) = fun i => (L.getD i Con.zero).rvs, Dec (L.getD k Con.zero).odd false, Dec ((L.getD k Con.zero).oddity != (0 : Int)) false, Dec ((L.getD k Con.zero).dim.tmod (2 : Int) != (0 : Int)) false, (2 : Int) ≠ (0 : Int), Dec (!(L.getD k Con.zero).odd) true, Dec (decide ((L.getD k Con.zero).oddity > (7 : Int))) false, Dec (decide ((L.getD k Con.zero).oddity < (0 : Int))) false, (0 : Int) ≤ (↑k : Int) ∧ (↑k : Int) < (↑L.length : Int), Dec (decide ((↑k : Int) < (↑L.length : Int))) true], by kernel_rfl, ⟨?_, ?_, ?_, ?_, ?_, d4, (dN d6), (dN d5), ?_, (dN d4), d3, d2, ?_, d1⟩, MuG.out ?_, InG.out ?_⟩⟩)
           (fun d6 => ⟨[true, false, false, true, false, true], .inr ⟨[Dec ((L.getD k Con.zero).oddity != (0 : Int)) true, Dec ((L.getD k Con.zero).dim.tmod (2 : Int) != (0 : Int)) false, (2 : Int) ≠ (0 : Int), Dec (!(L.getD k Con.zero).odd) true, Dec (decide ((L.getD k Con.zero).oddity > (7 : Int))) false, Dec (decide ((L.getD k Con.zero).oddity < (0 : Int))) false, (0 : Int) ≤ (↑k : Int) ∧ (↑k : Int) < (↑L.length : Int), Dec (decide ((↑k : Int) < (↑L.length : Int))) true], by kernel_rfl, ⟨(dN d6), (dN d5), ?_, (dN d4), d3, d2, ?_, d1⟩, rfl⟩⟩))
           (fun d5 => ⟨[true, false, false, true, true], .inr ⟨[Dec ((L.getD k Con.zero).dim.tmod (2 : Int) != (0 : Int)) true, (2 : Int) ≠ (0 : Int), Dec (!(L.getD k Con.zero).odd) true, Dec (decide ((L.getD k Con.zero).oddity > (7 : Int))) false, Dec (decide ((L.getD k Con.zero).oddity < (0 : Int))) false, (0 : Int) ≤ (↑k : Int) ∧ (↑k : Int) < (↑L.length : Int), Dec (decide ((↑k : Int) < (↑L.length : Int))) true], by kernel_rfl, ⟨(dN d5), ?_, (dN d4), d3, d2, ?_, d1⟩, rfl⟩⟩)))))
           (fun d1 => CtG.no ?_)
      all_goals first | (refine MuG.mk ?_; (simp only [decide_eq_true_eq] at *; show L.length - (k + 1) < L.length - k; omega)) | (refine InG.mk ?_; (simp only [decide_eq_true_eq, decide_eq_false_iff_not, consR_ro, Int.toNat_natCast, Int.toNat_zero, beq_iff_eq, beq_eq_false_iff_ne, ne_eq, gt_iff_lt] at *; rw [rngA_drop (by omega)] at hs; rw [show fusI L k = true from fusI_iff.2 (by simp only [at_]; refine ⟨?_, ?_, ?_⟩ <;> first | omega | (intro ho; simp_all; done) | (simp_all; done))] at hs; exact ⟨by omega, hs⟩)) | (refine CtG.mk ?_; (simp only [decide_eq_true_eq, decide_eq_false_iff_not, consR_ro, Int.toNat_natCast, Int.toNat_zero, beq_iff_eq, beq_eq_false_iff_ne, ne_eq, gt_iff_lt] at *; first | (rw [rngA_end (by omega)] at hs; cases hs; done) | (rw [rngA_drop (by omega)] at hs; rw [show fusI L k = false from fusI_no (by simp only [at_]; first | (rintro ⟨q1, q2, q3⟩; omega) | (rintro ⟨q1, q2, q3⟩; simp_all; done))] at hs; cases hs; done))) | (first | (with_reducible rfl) | exact ⟨rfl, rfl⟩ | (exact (by decide : (2 : Int) ≠ 0)) | exact ⟨fun _ _ => rfl, by rw [consR_ro]; exact hL⟩ | ((try simp only [ek, consR_ro, Int.toNat_natCast, Int.toNat_zero, decide_eq_true_eq, decide_eq_false_iff_not] at *) <;> first | omega | (have h0 := part_pos (L := L) (i := k) (by omega) (by assumption); omega)))
    · -- d = true
      obtain ⟨hk, hs⟩ := hI
      have hk : k ≤ L.length := hk
      have hl := hL.1
      have ek : IntKind.i64.wrap ((k : Int) + 1) = ((k + 1 : Nat) : Int) := by rw [w64 (by omega) (by omega)]; omega
      refine Or.elim (Bool.eq_false_or_eq_true (decide ((↑k : Int) < (↑L.length : Int)))) (fun d1 => Or.elim (Bool.eq_false_or_eq_true (decide ((L.getD k Con.zero).oddity < (0 : Int)))) (fun d2 => CtG.no ?_)
           (fun d2 => Or.elim (Bool.eq_false_or_eq_true (decide ((L.getD k Con.zero).oddity > (7 : Int)))) (fun d3 => CtG.no ?_)
           (fun d3 => Or.elim (Bool.eq_false_or_eq_true ((L.getD k Con.zero).odd)) (fun d4 => Or.elim (Bool.eq_false_or_eq_true ((partM (consR L.length fun i => (L.getD i Con.zero).rvs) (↑k : Int)).getD (Int.toNat (0 : Int)) (0 : Int) == (↑k : Int))) (fun d5 => ⟨[true, false, false, false, true, false], .inl ⟨(k + 1), [L.length = L.length ∧ (fun i => (L.getD i Con.zero).rvs) = fun i => (L.getD i Con.zero).rvs, (↑L.length : Int) = (↑L.length : Int), IntKind.i64.wrap ((↑k : Int) + (1 : Int)) = (↑(k + (1 : Nat)) : Int), p = p, L.length = L.length ∧ (fun i => (L.getD i Con.zero).rvs) = fun i => (L.getD i Con.zero).rvs, Dec ((partM (consR L.length fun i => (L.getD i Con.zero).rvs) (↑k : Int)).getD (Int.toNat (0 : Int)) (0 : Int) != (↑k : Int)) false, (0 : Int) ≤ (0 : Int) ∧ (0 : Int) < (↑(partM (consR L.length fun i => (L.getD i Con.zero).rvs) (↑k : Int)).length : Int), (∀ (i : Nat), i < L.length → (fun i => (L.getD i Con.zero).rvs) i = (Con.ofR ((fun i => (L.getD i Con.zero).rvs) i)).rvs) ∧ okE (consR L.length fun i => (L.getD i Con.zero).rvs), Dec (L.getD k Con.zero).odd true, Dec (!(L.getD k Con.zero).odd) false, Dec (decide ((L.getD k Con.zero).oddity > (7 : Int))) false, Dec (decide ((L.getD k Con.zero).oddity < (0 : Int))) false, (0 : Int) ≤ (↑k : Int) ∧ (↑k : Int) < (↑L.length : Int), Dec (decide ((↑k : Int) < (↑L.length : Int))) true], by kernel_rfl, ⟨?_, ?_, ?_, ?_, ?_, (dN d5), ?_, ?_, d4, (dN d4), d3, d2, ?_, d1⟩, MuG.out ?_, InG.out ?_⟩⟩)
           (fun d5 => Or.elim (Bool.eq_false_or_eq_true ((L.getD k Con.zero).oddity == (0 : Int))) (fun d6 => ⟨[true, false, false, false, true, true, false], .inl ⟨(k + 1), [L.length = L.length ∧ (fun i => (L.getD i Con.zero).rvs) = fun i => (L.getD i Con.zero).rvs, (↑L.length : Int) = (↑L.length : Int), IntKind.i64.wrap ((↑k : Int) + (1 : Int)) = (↑(k + (1 : Nat)) : Int), p = p, L.length = L.length ∧ (fun i => (L.getD i Con.zero).rvs) = fun i => (L.getD i Con.zero).rvs, Dec ((L.getD k Con.zero).oddity != (0 : Int)) false, Dec ((partM (consR L.length fun i => (L.getD i Con.zero).rvs) (↑k : Int)).getD (Int.toNat (0 : Int)) (0 : Int) != (↑k : Int)) true, (0 : Int) ≤ (0 : Int) ∧ (0 : Int) < (↑(partM (consR L.length fun i => (L.getD i Con.zero).rvs) (↑k : Int)).length : Int), (∀ (i : Nat), i < L.length → (fun i => (L.getD i Con.zero).rvs) i = (Con.ofR ((fun i => (L.getD i Con.zero).rvs) i)).rvs) ∧ okE (consR L.length fun i => (L.getD i Con.zero).rvs), Dec (L.getD k Con.zero).odd true, Dec (!(L.getD k Con.zero).odd) false, Dec (decide ((L.getD k Con.zero).oddity > (7 : Int))) false, Dec (decide ((L.getD k Con.zero).oddity < (0 : Int))) false, (0 : Int) ≤ (↑k : Int) ∧ (↑k : Int) < (↑L.length : Int), Dec (decide ((↑k : Int) < (↑L.length : Int))) true], by kernel_rfl, ⟨?_, ?_, ?_, ?_, ?_, (dN d6), (dN d5), ?_, ?_, d4, (dN d4), d3, d2, ?_, d1⟩, MuG.out ?_, InG.out ?_⟩⟩)
           (fun d6 => CtG.no ?_)))
           (fun d4 => Or.elim (Bool.eq_false_or_eq_true ((L.getD k Con.zero).dim.tmod (2 : Int) == (0 : Int))) (fun d5 => Or.elim (Bool.eq_false_or_eq_true ((L.getD k Con.zero).oddity == (0 : Int))) (fun d6 => ⟨[true, false, false, true, false, false, false], .inl ⟨(k + 1), [L.length = L.length ∧ (fun i => (L.getD i Con.zero).rvs) = fun i => (L.getD i Con.zero).rvs, (↑L.length : Int) = (↑L.length : Int), IntKind.i64.wrap ((↑k : Int) + (1 : Int)) = (↑(k + (1 : Nat)) : Int), p = p, L.length = L.length ∧ (fun i => (L.getD i Con.zero).rvs) = fun i => (L.getD i Con.zero).rvs, Dec (L.getD k Con.zero).odd false, Dec ((L.getD k Con.zero).oddity != (0 : Int)) false, Dec ((L.getD k Con.zero).dim.tmod (2 : Int) != (0 : Int)) false, (2 : Int) ≠ (0 : Int), Dec (!(L.getD k Con.zero).odd) true, Dec (decide ((L.getD k Con.zero).oddity > (7 : Int))) false, Dec (decide ((L.getD k Con.zero).oddity < (0 : Int))) false, (0 : Int) ≤ (↑k : Int) ∧ (↑k : Int) < (↑L.length : Int), Dec (decide ((↑k : Int) < (↑L.length : Int))) true], by kernel_rfl, ⟨?_, ?_, ?_, ?_, ?_, d4, (dN d6), (dN d5), ?_, (dN d4), d3, d2, ?_, d1⟩, MuG.out ?_, InG.out ?_⟩⟩)
           (fun d6 => CtG.no ?_))
           (fun d5 => CtG.no ?_)))))
           (fun d1 => ⟨[false], .inr ⟨[p = p, L.length = L.length ∧ (fun i => (L.getD i Con.zero).rvs) = fun i => (L.getD i Con.zero).rvs, Dec (decide ((↑k : Int) < (↑L.length : Int))) false], by kernel_rfl, ⟨?_, ?_, d1⟩, rfl⟩⟩)
      all_goals first | (refine MuG.mk ?_; (simp only [decide_eq_true_eq] at *; show L.length - (k + 1) < L.length - k; omega)) | (refine InG.mk ?_; (simp only [decide_eq_true_eq, decide_eq_false_iff_not, consR_ro, Int.toNat_natCast, Int.toNat_zero, beq_iff_eq, beq_eq_false_iff_ne, ne_eq, gt_iff_lt] at *; rw [rngA_drop (by omega)] at hs; rw [show fusI L k = true from fusI_iff.2 (by simp only [at_]; refine ⟨?_, ?_, ?_⟩ <;> first | omega | (intro ho; simp_all; done) | (simp_all; done))] at hs; exact ⟨by omega, hs⟩)) | (refine CtG.mk ?_; (simp only [decide_eq_true_eq, decide_eq_false_iff_not, consR_ro, Int.toNat_natCast, Int.toNat_zero, beq_iff_eq, beq_eq_false_iff_ne, ne_eq, gt_iff_lt] at *; first | (rw [rngA_end (by omega)] at hs; cases hs; done) | (rw [rngA_drop (by omega)] at hs; rw [show fusI L k = false from fusI_no (by simp only [at_]; first | (rintro ⟨q1, q2, q3⟩; omega) | (rintro ⟨q1, q2, q3⟩; simp_all; done))] at hs; cases hs; done))) | (first | (with_reducible rfl) | exact ⟨rfl, rfl⟩ | (exact (by decide : (2 : Int) ≠ 0)) | exact ⟨fun _ _ => rfl, by rw [consR_ro]; exact hL⟩ | ((try simp only [ek, consR_ro, Int.toNat_natCast, Int.toNat_zero, decide_eq_true_eq, decide_eq_false_iff_not] at *) <;> first | omega | (have h0 := part_pos (L := L) (i := k) (by omega) (by assumption); omega)))
noncomputable def r3T (P : List (List Int)) (j : Nat) : List (Nat × AV) := [(1, .ptr 1000 0), (71, (roR .i64 P).av), (72, .vint .i64 P.length), (73, .vint .i64 (j : Int)), (6, (rI .i64 (rowAt P j)).av)]
noncomputable def r3Ann (p : Int) (L : List Con) (P : List (List Int)) (j : Nat) : Ann := ⟨⟨r3T P j ++ [(7, .int .i64 0), (77, (rI .i64 (rowAt P j)).av), (78, .vint .i64 (rowAt P j).length), (79, .int .i64 0)], loH p L, 1020⟩, none, fun _ =>
  (.exit 4, ⟨r3T P j ++ [(7, .vint .i64 (dimR L (rowAt P j)))], loH p L, 1020⟩)⟩
set_option maxRecDepth 100000 in
theorem r3_loop (p : Int) (L : List Con) (P : List (List Int)) (j : Nat) (hL : okL L) (hr : inR L.length (rowAt P j)) (hn : (rowAt P j).length ≤ 1000) : AnnOk Tryz.prog EV.ng (Nat.max 1 Tryz.f40.ntmps) (bodyAt Tryz.f40 [0, 1, 0, 1, 1, 0, 0, 1, 1, 0, 0, 1, 0, 1, 1, 1]) (r3Ann p L P j) := by
  refine ann_of evOk (callF_ok evOk (noOrc_ok _ _) 8) none_ann (by kernel_rfl) (by kernel_rfl) (fun i : Nat × Int => (fun (t : Nat) (n : Int) => (⟨r3T P j ++ [(7, .vint .i64 n), (77, (rI .i64 (rowAt P j)).av), (78, .vint .i64 (rowAt P j).length), (79, .vint .i64 (t : Int))], loH p L, 1020⟩ : St)) i.1 i.2) (fun i : Nat × Int => (fun (t : Nat) (n : Int) => ((rowAt P j).length - t : Nat)) i.1 i.2) (fun (d : Bool) (i : Nat × Int) => (fun (t : Nat) (n : Int) => (t ≤ (rowAt P j).length ∧ n = dimR L ((rowAt P j).take t) : Prop)) i.1 i.2) ?_ ?_
  · intro d hd
    exact ⟨(0, 0), [P.length = P.length ∧ (fun i => [rI IntKind.i64 (P.getD i [])]) = fun i => [rI IntKind.i64 (P.getD i [])], (↑P.length : Int) = (↑P.length : Int), (↑j : Int) = (↑j : Int), (rowAt P j).length = (rowAt P j).length ∧ (fun j_1 => [RV.int IntKind.i64 ((rowAt P j).getD j_1 (0 : Int))]) = fun j_1 => [RV.int IntKind.i64 ((rowAt P j).getD j_1 (0 : Int))], (0 : Int) = (0 : Int), (rowAt P j).length = (rowAt P j).length ∧ (fun j_1 => [RV.int IntKind.i64 ((rowAt P j).getD j_1 (0 : Int))]) = fun j_1 => [RV.int IntKind.i64 ((rowAt P j).getD j_1 (0 : Int))], (↑(rowAt P j).length : Int) = (↑(rowAt P j).length : Int), (0 : Int) = (↑(0 : Nat) : Int), p = p, L.length = L.length ∧ (fun i => (L.getD i Con.zero).rvs) = fun i => (L.getD i Con.zero).rvs], by kernel_rfl, (by refine ⟨?_, ?_, ?_, ?_, ?_, ?_, ?_, ?_, ?_, (?_ : L.length = L.length ∧ (fun i => (L.getD i Con.zero).rvs) = fun i => (L.getD i Con.zero).rvs)⟩ <;> (first | rfl | assumption | omega | simp_all)), (by exact ⟨Nat.zero_le _, rfl⟩)⟩
  · rintro d hd ⟨t, n⟩ hI
    cases d
    · -- d = false
      exact Bool.noConfusion (show false = true from hd)
    · -- d = true
      obtain ⟨ht, hs⟩ := hI
      have ht : t ≤ (rowAt P j).length := ht
      have hs : n = dimR L ((rowAt P j).take t) := hs
      have ek : IntKind.i64.wrap ((t : Int) + 1) = ((t + 1 : Nat) : Int) := by rw [w64 (by omega) (by omega)]; omega
      have hb := dimR_b hL (l := (rowAt P j).take t) (fun x hx => hr x (List.mem_of_mem_take hx))
      have hb2 : (((rowAt P j).take t).length : Int) ≤ 1000 := by simp only [List.length_take]; omega
      refine Or.elim (Bool.eq_false_or_eq_true (decide ((↑t : Int) < (↑(rowAt P j).length : Int)))) (fun d1 => ⟨[true], .inl ⟨(t + 1, n + (at_ L ((rowAt P j).getD t 0).toNat).dim), [P.length = P.length ∧ (fun i => [rI IntKind.i64 (P.getD i [])]) = fun i => [rI IntKind.i64 (P.getD i [])], (↑P.length : Int) = (↑P.length : Int), (↑j : Int) = (↑j : Int), (rowAt P j).length = (rowAt P j).length ∧ (fun j_1 => [RV.int IntKind.i64 ((rowAt P j).getD j_1 (0 : Int))]) = fun j_1 => [RV.int IntKind.i64 ((rowAt P j).getD j_1 (0 : Int))], IntKind.i64.wrap (n + (L.getD ((rowAt P j).getD t (0 : Int)).toNat Con.zero).dim) = n + (at_ L ((rowAt P j).getD t (0 : Int)).toNat).dim, (rowAt P j).length = (rowAt P j).length ∧ (fun j_1 => [RV.int IntKind.i64 ((rowAt P j).getD j_1 (0 : Int))]) = fun j_1 => [RV.int IntKind.i64 ((rowAt P j).getD j_1 (0 : Int))], (↑(rowAt P j).length : Int) = (↑(rowAt P j).length : Int), IntKind.i64.wrap ((↑t : Int) + (1 : Int)) = (↑(t + (1 : Nat)) : Int), p = p, L.length = L.length ∧ (fun i => (L.getD i Con.zero).rvs) = fun i => (L.getD i Con.zero).rvs, (0 : Int) ≤ (rowAt P j).getD t (0 : Int) ∧ (rowAt P j).getD t (0 : Int) < (↑L.length : Int), (0 : Int) ≤ (↑t : Int) ∧ (↑t : Int) < (↑(rowAt P j).length : Int), Dec (decide ((↑t : Int) < (↑(rowAt P j).length : Int))) true], by kernel_rfl, ⟨?_, ?_, ?_, ?_, ?_, ?_, ?_, ?_, ?_, ?_, ?_, ?_, d1⟩, MuG.out ?_, InG.out ?_⟩⟩)
           (fun d1 => ⟨[false], .inr ⟨[P.length = P.length ∧ (fun i => [rI IntKind.i64 (P.getD i [])]) = fun i => [rI IntKind.i64 (P.getD i [])], (↑P.length : Int) = (↑P.length : Int), (↑j : Int) = (↑j : Int), (rowAt P j).length = (rowAt P j).length ∧ (fun j_1 => [RV.int IntKind.i64 ((rowAt P j).getD j_1 (0 : Int))]) = fun j_1 => [RV.int IntKind.i64 ((rowAt P j).getD j_1 (0 : Int))], n = dimR L (rowAt P j), p = p, L.length = L.length ∧ (fun i => (L.getD i Con.zero).rvs) = fun i => (L.getD i Con.zero).rvs, Dec (decide ((↑t : Int) < (↑(rowAt P j).length : Int))) false], by kernel_rfl, ⟨?_, ?_, ?_, ?_, ?_, ?_, ?_, d1⟩, rfl⟩⟩)
      all_goals first | (refine MuG.mk ?_; (simp only [decide_eq_true_eq] at *; show (rowAt P j).length - (t + 1) < (rowAt P j).length - t; omega)) | (refine InG.mk ?_; (simp only [decide_eq_true_eq, decide_eq_false_iff_not, Int.toNat_natCast, gt_iff_lt] at *; exact ⟨by omega, by rw [dimR_take (by omega), hs]⟩)) | (refine CtG.mk ?_; (simp_all)) | (first | (with_reducible rfl) | exact ⟨rfl, rfl⟩ | ((try simp only [ek, Int.toNat_natCast, decide_eq_true_eq, decide_eq_false_iff_not, gt_iff_lt] at *) <;> first | omega | (have h1 := hr.at (t := t) (by omega); omega) | (have h2 := dim_b (t := t) hL hr (by omega); simp only [at_] at h2 ⊢; exact w64 (by omega) (by omega)) | (rw [hs, List.take_of_length_le (by omega)]; done)))
noncomputable def r2Ann (p : Int) (L : List Con) (P : List (List Int)) : Ann := ⟨⟨[(1, .ptr 1000 0), (71, (roR .i64 P).av), (72, .vint .i64 P.length), (73, .int .i64 0)], loH p L, 1020⟩, some (P.all (parR L)), fun d => match d with
  | true => (.exit 2, ⟨[], [], 1020⟩)
  | false => (.ret, ⟨[(2, .bool false)], [], 1020⟩)⟩
set_option maxRecDepth 100000 in
theorem r2_loop (p : Int) (L : List Con) (P : List (List Int)) (hL : okL L) (hP : ∀ l ∈ P, l ≠ [] ∧ inR L.length l ∧ l.length ≤ L.length) (hm : P.length ≤ 1000) : AnnOk Tryz.prog EV.ng (Nat.max 1 Tryz.f40.ntmps) (bodyAt Tryz.f40 [0, 1, 0, 1, 1, 1]) (r2Ann p L P) := by
  refine ann_ofI evOk (callF_ok evOk (noOrc_ok _ _) 8) (by kernel_rfl) (by kernel_rfl) (fun i : Nat => (fun (j : Nat) => (⟨[(1, .ptr 1000 0), (71, (roR .i64 P).av), (72, .vint .i64 P.length), (73, .vint .i64 (j : Int))], loH p L, 1020⟩ : St)) i) (fun i : Nat => (fun (j : Nat) => (P.length - j : Nat)) i) (fun (d : Bool) (i : Nat) => (fun (j : Nat) => (j ≤ P.length ∧ (P.drop j).all (parR L) = d : Prop)) i) (fun i : Nat => (fun (j : Nat) => ([([0, 1, 0, 1, 1, 0, 0, 1, 1, 0, 0, 1, 0, 1, 1, 1], r3Ann p L P j)] : List (List Nat × Ann))) i) ?_ ?_ ?_
  · rintro d hd j hI
    exact one_ann (r3_loop p L P j hL (by rcases Nat.lt_or_ge j P.length with h | h; exact (hP _ (rowAt_mem h)).2.1; intro x hx; simp [rowAt, h] at hx) (by have := hL.1; rcases Nat.lt_or_ge j P.length with h | h; have := (hP _ (rowAt_mem h)).2.2; omega; simp [rowAt, h]))
  · intro d hd
    exact ⟨(0), [P.length = P.length ∧ (fun i => [rI IntKind.i64 (P.getD i [])]) = fun i => [rI IntKind.i64 (P.getD i [])], (↑P.length : Int) = (↑P.length : Int), (0 : Int) = (↑(0 : Nat) : Int), p = p, L.length = L.length ∧ (fun i => (L.getD i Con.zero).rvs) = fun i => (L.getD i Con.zero).rvs], by kernel_rfl, (by refine ⟨?_, ?_, ?_, ?_, (?_ : L.length = L.length ∧ (fun i => (L.getD i Con.zero).rvs) = fun i => (L.getD i Con.zero).rvs)⟩ <;> (first | rfl | assumption | omega | simp_all)), (by exact ⟨Nat.zero_le _, hd⟩)⟩
  · rintro d hd j hI
    cases d
    · -- d = false
      obtain ⟨ht, hs⟩ := hI
      have ht : j ≤ P.length := ht
      have hl1 := hL.1
      have ek : IntKind.i64.wrap ((j : Int) + 1) = ((j + 1 : Nat) : Int) := by rw [w64 (by omega) (by omega)]; omega
      refine Or.elim (Bool.eq_false_or_eq_true (decide ((↑j : Int) < (↑P.length : Int)))) (fun d1 => Or.elim (Bool.eq_false_or_eq_true ((IntKind.i64.wrap ((L.getD ((rowAt P j).getD (Int.toNat (0 : Int)) (0 : Int)).toNat Con.zero).oddity - dimR L (rowAt P j))).tmod (2 : Int) == (0 : Int))) (fun d2 => ⟨[true, false], .inl ⟨(j + 1), [P.length = P.length ∧ (fun i => [rI IntKind.i64 (P.getD i [])]) = fun i => [rI IntKind.i64 (P.getD i [])], (↑P.length : Int) = (↑P.length : Int), IntKind.i64.wrap ((↑j : Int) + (1 : Int)) = (↑(j + (1 : Nat)) : Int), p = p, L.length = L.length ∧ (fun i => (L.getD i Con.zero).rvs) = fun i => (L.getD i Con.zero).rvs, Dec ((IntKind.i64.wrap ((L.getD ((rowAt P j).getD (Int.toNat (0 : Int)) (0 : Int)).toNat Con.zero).oddity - dimR L (rowAt P j))).tmod (2 : Int) != (0 : Int)) false, (2 : Int) ≠ (0 : Int), (0 : Int) ≤ (rowAt P j).getD (Int.toNat (0 : Int)) (0 : Int) ∧ (rowAt P j).getD (Int.toNat (0 : Int)) (0 : Int) < (↑L.length : Int), (0 : Int) ≤ (0 : Int) ∧ (0 : Int) < (↑(rowAt P j).length : Int), P.length = P.length ∧ (fun i => [rI IntKind.i64 (P.getD i [])]) = fun i => [rI IntKind.i64 (P.getD i [])], (↑P.length : Int) = (↑P.length : Int), (↑j : Int) = (↑j : Int), (P.getD j []).length = (rowAt P j).length ∧ (fun j_1 => [RV.int IntKind.i64 ((P.getD j []).getD j_1 (0 : Int))]) = fun j_1 => [RV.int IntKind.i64 ((rowAt P j).getD j_1 (0 : Int))], (P.getD j []).length = (rowAt P j).length ∧ (fun j_1 => [RV.int IntKind.i64 ((P.getD j []).getD j_1 (0 : Int))]) = fun j_1 => [RV.int IntKind.i64 ((rowAt P j).getD j_1 (0 : Int))], (↑(P.getD j []).length : Int) = (↑(rowAt P j).length : Int), p = p, L.length = L.length ∧ (fun i => (L.getD i Con.zero).rvs) = fun i => (L.getD i Con.zero).rvs, (0 : Int) ≤ (↑j : Int) ∧ (↑j : Int) < (↑P.length : Int), Dec (decide ((↑j : Int) < (↑P.length : Int))) true], by kernel_rfl, ⟨?_, ?_, ?_, ?_, ?_, (dN d2), ?_, ?_, ?_, ?_, ?_, ?_, ?_, ?_, ?_, ?_, ?_, ?_, d1⟩, MuG.out ?_, InG.out ?_⟩⟩)
           (fun d2 => ⟨[true, true], .inr ⟨[Dec ((IntKind.i64.wrap ((L.getD ((rowAt P j).getD (Int.toNat (0 : Int)) (0 : Int)).toNat Con.zero).oddity - dimR L (rowAt P j))).tmod (2 : Int) != (0 : Int)) true, (2 : Int) ≠ (0 : Int), (0 : Int) ≤ (rowAt P j).getD (Int.toNat (0 : Int)) (0 : Int) ∧ (rowAt P j).getD (Int.toNat (0 : Int)) (0 : Int) < (↑L.length : Int), (0 : Int) ≤ (0 : Int) ∧ (0 : Int) < (↑(rowAt P j).length : Int), P.length = P.length ∧ (fun i => [rI IntKind.i64 (P.getD i [])]) = fun i => [rI IntKind.i64 (P.getD i [])], (↑P.length : Int) = (↑P.length : Int), (↑j : Int) = (↑j : Int), (P.getD j []).length = (rowAt P j).length ∧ (fun j_1 => [RV.int IntKind.i64 ((P.getD j []).getD j_1 (0 : Int))]) = fun j_1 => [RV.int IntKind.i64 ((rowAt P j).getD j_1 (0 : Int))], (P.getD j []).length = (rowAt P j).length ∧ (fun j_1 => [RV.int IntKind.i64 ((P.getD j []).getD j_1 (0 : Int))]) = fun j_1 => [RV.int IntKind.i64 ((rowAt P j).getD j_1 (0 : Int))], (↑(P.getD j []).length : Int) = (↑(rowAt P j).length : Int), p = p, L.length = L.length ∧ (fun i => (L.getD i Con.zero).rvs) = fun i => (L.getD i Con.zero).rvs, (0 : Int) ≤ (↑j : Int) ∧ (↑j : Int) < (↑P.length : Int), Dec (decide ((↑j : Int) < (↑P.length : Int))) true], by kernel_rfl, ⟨(dN d2), ?_, ?_, ?_, ?_, ?_, ?_, ?_, ?_, ?_, ?_, ?_, ?_, d1⟩, rfl⟩⟩))
           (fun d1 => CtG.no ?_)
      all_goals first | (refine MuG.mk ?_; (simp only [decide_eq_true_eq] at *; show P.length - (j + 1) < P.length - j; omega)) | (refine InG.mk ?_; (simp only [decide_eq_true_eq, Int.toNat_natCast, Int.toNat_zero] at *; have h0 := hP _ (rowAt_mem (P := P) (t := j) (by omega)); rw [allP_drop (by omega), ← par_w hL h0.1 h0.2.1 (by omega)] at hs; refine ⟨by omega, ?_⟩; simp only [at_] at hs; rw [d2] at hs; exact hs)) | (refine CtG.mk ?_; (simp only [decide_eq_true_eq, decide_eq_false_iff_not, Int.toNat_natCast, Int.toNat_zero] at *; first | (rw [List.drop_eq_nil_of_le (by omega)] at hs; cases hs; done) | (have h0 := hP _ (rowAt_mem (P := P) (t := j) (by omega)); rw [allP_drop (by omega), ← par_w hL h0.1 h0.2.1 (by omega)] at hs; simp only [at_] at hs; rw [d2] at hs; cases hs; done))) | (first | (with_reducible rfl) | exact ⟨rfl, rfl⟩ | (exact (by decide : (2 : Int) ≠ 0)) | ((try simp only [ek, Int.toNat_natCast, Int.toNat_zero, decide_eq_true_eq, decide_eq_false_iff_not] at *) <;> first | omega | (have h0 := hP _ (rowAt_mem (P := P) (t := j) (by omega)); have h1 : 0 < (P.getD j []).length := List.length_pos_iff.2 h0.1; have h2 : 0 ≤ (P.getD j []).getD 0 0 ∧ (P.getD j []).getD 0 0 < (L.length : Int) := h0.2.1.at (t := 0) h1; have h3 : 0 < (rowAt P j).length := h1; have h4 : 0 ≤ (rowAt P j).getD 0 0 ∧ (rowAt P j).getD 0 0 < (L.length : Int) := h2; omega)))
    · -- d = true
      obtain ⟨ht, hs⟩ := hI
      have ht : j ≤ P.length := ht
      have hl1 := hL.1
      have ek : IntKind.i64.wrap ((j : Int) + 1) = ((j + 1 : Nat) : Int) := by rw [w64 (by omega) (by omega)]; omega
      refine Or.elim (Bool.eq_false_or_eq_true (decide ((↑j : Int) < (↑P.length : Int)))) (fun d1 => Or.elim (Bool.eq_false_or_eq_true ((IntKind.i64.wrap ((L.getD ((rowAt P j).getD (Int.toNat (0 : Int)) (0 : Int)).toNat Con.zero).oddity - dimR L (rowAt P j))).tmod (2 : Int) == (0 : Int))) (fun d2 => ⟨[true, false], .inl ⟨(j + 1), [P.length = P.length ∧ (fun i => [rI IntKind.i64 (P.getD i [])]) = fun i => [rI IntKind.i64 (P.getD i [])], (↑P.length : Int) = (↑P.length : Int), IntKind.i64.wrap ((↑j : Int) + (1 : Int)) = (↑(j + (1 : Nat)) : Int), p = p, L.length = L.length ∧ (fun i => (L.getD i Con.zero).rvs) = fun i => (L.getD i Con.zero).rvs, Dec ((IntKind.i64.wrap ((L.getD ((rowAt P j).getD (Int.toNat (0 : Int)) (0 : Int)).toNat Con.zero).oddity - dimR L (rowAt P j))).tmod (2 : Int) != (0 : Int)) false, (2 : Int) ≠ (0 : Int), (0 : Int) ≤ (rowAt P j).getD (Int.toNat (0 : Int)) (0 : Int) ∧ (rowAt P j).getD (Int.toNat (0 : Int)) (0 : Int) < (↑L.length : Int), (0 : Int) ≤ (0 : Int) ∧ (0 : Int) < (↑(rowAt P j).length : Int), P.length = P.length ∧ (fun i => [rI IntKind.i64 (P.getD i [])]) = fun i => [rI IntKind.i64 (P.getD i [])], (↑P.length : Int) = (↑P.length : Int), (↑j : Int) = (↑j : Int), (P.getD j []).length = (rowAt P j).length ∧ (fun j_1 => [RV.int IntKind.i64 ((P.getD j []).getD j_1 (0 : Int))]) = fun j_1 => [RV.int IntKind.i64 ((rowAt P j).getD j_1 (0 : Int))], (P.getD j []).length = (rowAt P j).length ∧ (fun j_1 => [RV.int IntKind.i64 ((P.getD j []).getD j_1 (0 : Int))]) = fun j_1 => [RV.int IntKind.i64 ((rowAt P j).getD j_1 (0 : Int))], (↑(P.getD j []).length : Int) = (↑(rowAt P j).length : Int), p = p, L.length = L.length ∧ (fun i => (L.getD i Con.zero).rvs) = fun i => (L.getD i Con.zero).rvs, (0 : Int) ≤ (↑j : Int) ∧ (↑j : Int) < (↑P.length : Int), Dec (decide ((↑j : Int) < (↑P.length : Int))) true], by kernel_rfl, ⟨?_, ?_, ?_, ?_, ?_, (dN d2), ?_, ?_, ?_, ?_, ?_, ?_, ?_, ?_, ?_, ?_, ?_, ?_, d1⟩, MuG.out ?_, InG.out ?_⟩⟩)
           (fun d2 => CtG.no ?_))
           (fun d1 => ⟨[false], .inr ⟨[Dec (decide ((↑j : Int) < (↑P.length : Int))) false], by kernel_rfl, d1, rfl⟩⟩)
      all_goals first | (refine MuG.mk ?_; (simp only [decide_eq_true_eq] at *; show P.length - (j + 1) < P.length - j; omega)) | (refine InG.mk ?_; (simp only [decide_eq_true_eq, Int.toNat_natCast, Int.toNat_zero] at *; have h0 := hP _ (rowAt_mem (P := P) (t := j) (by omega)); rw [allP_drop (by omega), ← par_w hL h0.1 h0.2.1 (by omega)] at hs; refine ⟨by omega, ?_⟩; simp only [at_] at hs; rw [d2] at hs; exact hs)) | (refine CtG.mk ?_; (simp only [decide_eq_true_eq, decide_eq_false_iff_not, Int.toNat_natCast, Int.toNat_zero] at *; first | (rw [List.drop_eq_nil_of_le (by omega)] at hs; cases hs; done) | (have h0 := hP _ (rowAt_mem (P := P) (t := j) (by omega)); rw [allP_drop (by omega), ← par_w hL h0.1 h0.2.1 (by omega)] at hs; simp only [at_] at hs; rw [d2] at hs; cases hs; done))) | (first | (with_reducible rfl) | exact ⟨rfl, rfl⟩ | (exact (by decide : (2 : Int) ≠ 0)) | ((try simp only [ek, Int.toNat_natCast, Int.toNat_zero, decide_eq_true_eq, decide_eq_false_iff_not] at *) <;> first | omega | (have h0 := hP _ (rowAt_mem (P := P) (t := j) (by omega)); have h1 : 0 < (P.getD j []).length := List.length_pos_iff.2 h0.1; have h2 : 0 ≤ (P.getD j []).getD 0 0 ∧ (P.getD j []).getD 0 0 < (L.length : Int) := h0.2.1.at (t := 0) h1; have h3 : 0 < (rowAt P j).length := h1; have h4 : 0 ≤ (rowAt P j).getD 0 0 ∧ (rowAt P j).getD 0 0 < (L.length : Int) := h2; omega)))
theorem ord_at {L : List Con} (h : orderV L = true) : L.length ≤ 8 ∧ ∀ c ∈ L, (0 ≤ c.exp ∧ c.exp ≤ 60) ∧ (1 ≤ c.dim ∧ c.dim ≤ 8) ∧ (c.sign = 1 ∨ c.sign = -1) := by
  rw [order_sh] at h
  simp only [Bool.and_eq_true] at h
  obtain ⟨⟨h1, h2⟩, h3⟩ := h
  obtain ⟨i1, i2, i3⟩ := sh_at (by decide) (by decide) h2
  have hne : L ≠ [] := by intro e; rw [e] at h1; cases h1
  have hd : dimS L ≤ 8 := by rcases i2 with i2 | i2; omega; exact absurd i2 hne
  refine ⟨by omega, fun c hc => ?_⟩
  have h4 := i1 c hc
  exact ⟨⟨h4.1, h4.2.1⟩, h4.2.2, of_decide_eq_true (List.all_eq_true.1 h3 c hc)⟩
theorem okE_ord {L : List Con} (h : orderV L = true) : okE L := by
  obtain ⟨h1, h2⟩ := ord_at h
  exact ⟨by omega, fun c hc => ⟨(h2 c hc).1.1, by have := (h2 c hc).1.2; omega⟩⟩
theorem okL_ord {L : List Con} (h : orderV L = true) (hf : (List.range L.length).all (fusI L) = true) : okL L := by
  obtain ⟨h1, h2⟩ := ord_at h
  refine ⟨by omega, fun c hc => ?_⟩
  obtain ⟨k, hk, rfl⟩ := List.getElem_of_mem hc
  have h3 := fusI_iff.1 (List.all_eq_true.1 hf k (by simpa using hk))
  rw [show at_ L k = L[k] by simp [at_, hk]] at h3
  have := h2 _ hc
  exact ⟨⟨this.1.1, by omega⟩, ⟨this.2.1.1, by omega⟩, this.2.2, h3.1⟩
set_option maxRecDepth 100000 in
theorem rfused_0 (p : Int) (L : List Con) (hn : L.length ≤ 1000) (h1 : orderV L = false) : PureC Tryz.prog [] 40 [.agg [.int .i64 p, roC L]] (.bool (fusM p L)) := by
  have k1 : orderV (consR L.length fun i => (L.getD i Con.zero).rvs) = false := (by rw [consR_ro]; exact h1)
  have rr := fun (tp : List Bool) (ms : List Prop) h hm => pure_run evOk (callF_ok evOk (orcOf_ok entsRF_ok) 8) Tryz.func40 (A := [.agg [.int .i64 p, roC L]]) rfl none_ann rfl rfl evNg (tabs := []) (R := .bool (fusM p L)) (tp := tp) (ms := ms) h hm
  refine Or.elim (Bool.eq_false_or_eq_true (p == (2 : Int))) (fun d1 => rr [false, true] [false = fusM p L, Dec (!orderV (consR L.length fun i => (L.getD i Con.zero).rvs)) true, (∀ (i : Nat), i < L.length → (fun i => (L.getD i Con.zero).rvs) i = (Con.ofR ((fun i => (L.getD i Con.zero).rvs) i)).rvs) ∧ L.length ≤ (1000 : Nat), Dec (p != (2 : Int)) false] (by kernel_rfl) ⟨?_, (dN k1), ?_, (dN d1)⟩)
           (fun d1 => rr [true] [false = fusM p L, Dec (p != (2 : Int)) true] (by kernel_rfl) ⟨?_, (dN d1)⟩)
  all_goals first | (first | (with_reducible rfl) | exact ⟨rfl, rfl⟩ | exact ⟨fun _ _ => rfl, hn⟩ | (unfold fusM; rw [h1]; simp; done))
set_option maxRecDepth 100000 in
theorem rfused_1 (p : Int) (L : List Con) (hn : L.length ≤ 1000) (h1 : orderV L = true) (h2 : (List.range L.length).all (fusI L) = false) : PureC Tryz.prog [] 40 [.agg [.int .i64 p, roC L]] (.bool (fusM p L)) := by
  have k1 : orderV (consR L.length fun i => (L.getD i Con.zero).rvs) = true := (by rw [consR_ro]; exact h1)
  have rr := fun (tp : List Bool) (ms : List Prop) h hm => pure_run evOk (callF_ok evOk (orcOf_ok entsRF_ok) 8) Tryz.func40 (A := [.agg [.int .i64 p, roC L]]) (N := Nat.max 1 Tryz.f40.ntmps) rfl (one_ann (r1_loop p L (okE_ord h1))) rfl rfl evNg (tabs := []) (R := .bool (fusM p L)) (tp := tp) (ms := ms) h hm
  refine Or.elim (Bool.eq_false_or_eq_true (p == (2 : Int))) (fun d1 => rr [false, false, false] [false = fusM p L, L.length = L.length ∧ (fun i => (L.getD i Con.zero).rvs) = fun i => (L.getD i Con.zero).rvs, (↑L.length : Int) = (↑L.length : Int), p = p, L.length = L.length ∧ (fun i => (L.getD i Con.zero).rvs) = fun i => (L.getD i Con.zero).rvs, Dec ((List.range L.length).all (fusI L)) false, Dec (!orderV (consR L.length fun i => (L.getD i Con.zero).rvs)) false, (∀ (i : Nat), i < L.length → (fun i => (L.getD i Con.zero).rvs) i = (Con.ofR ((fun i => (L.getD i Con.zero).rvs) i)).rvs) ∧ L.length ≤ (1000 : Nat), Dec (p != (2 : Int)) false] (by kernel_rfl) ⟨?_, ?_, ?_, ?_, ?_, h2, (dN k1), ?_, (dN d1)⟩)
           (fun d1 => rr [true] [false = fusM p L, Dec (p != (2 : Int)) true] (by kernel_rfl) ⟨?_, (dN d1)⟩)
  all_goals first | (first | (with_reducible rfl) | exact ⟨rfl, rfl⟩ | exact ⟨fun _ _ => rfl, hn⟩ | (unfold fusM; rw [h2]; simp; done))
set_option maxRecDepth 100000 in
theorem rfused_2 (p : Int) (L : List Con) (hn : L.length ≤ 1000) (h1 : orderV L = true) (h2 : (List.range L.length).all (fusI L) = true) : PureC Tryz.prog [] 40 [.agg [.int .i64 p, roC L]] (.bool (fusM p L)) := by
  have k1 : orderV (consR L.length fun i => (L.getD i Con.zero).rvs) = true := (by rw [consR_ro]; exact h1)
  have rr := fun (tp : List Bool) (ms : List Prop) h hm => pure_run evOk (callF_ok evOk (orcOf_ok entsRF_ok) 8) Tryz.func40 (A := [.agg [.int .i64 p, roC L]]) (N := Nat.max 1 Tryz.f40.ntmps) rfl (cons_ann (r1_loop p L (okE_ord h1)) (one_ann (r2_loop p L (partsM L) (okL_ord h1 h2) parts_rows (Nat.le_trans parts_len hn)))) rfl rfl evNg (tabs := []) (R := .bool (fusM p L)) (tp := tp) (ms := ms) h hm
  refine Or.elim (Bool.eq_false_or_eq_true (p == (2 : Int))) (fun d1 => Or.elim (Bool.eq_false_or_eq_true ((partsM L).all (parR L))) (fun d2 => rr [false, false, true, true] [true = fusM p L, (partsM (consR L.length fun i => (L.getD i Con.zero).rvs)).length = (partsM L).length ∧ (fun i => [rI IntKind.i64 ((partsM (consR L.length fun i => (L.getD i Con.zero).rvs)).getD i [])]) = fun i => [rI IntKind.i64 ((partsM L).getD i [])], (↑(partsM (consR L.length fun i => (L.getD i Con.zero).rvs)).length : Int) = (↑(partsM L).length : Int), p = p, L.length = L.length ∧ (fun i => (L.getD i Con.zero).rvs) = fun i => (L.getD i Con.zero).rvs, Dec ((partsM L).all (parR L)) true, (∀ (i : Nat), i < L.length → (fun i => (L.getD i Con.zero).rvs) i = (Con.ofR ((fun i => (L.getD i Con.zero).rvs) i)).rvs) ∧ okE (consR L.length fun i => (L.getD i Con.zero).rvs), L.length = L.length ∧ (fun i => (L.getD i Con.zero).rvs) = fun i => (L.getD i Con.zero).rvs, (↑L.length : Int) = (↑L.length : Int), p = p, L.length = L.length ∧ (fun i => (L.getD i Con.zero).rvs) = fun i => (L.getD i Con.zero).rvs, Dec ((List.range L.length).all (fusI L)) true, Dec (!orderV (consR L.length fun i => (L.getD i Con.zero).rvs)) false, (∀ (i : Nat), i < L.length → (fun i => (L.getD i Con.zero).rvs) i = (Con.ofR ((fun i => (L.getD i Con.zero).rvs) i)).rvs) ∧ L.length ≤ (1000 : Nat), Dec (p != (2 : Int)) false] (by kernel_rfl) ⟨?_, ?_, ?_, ?_, ?_, d2, ?_, ?_, ?_, ?_, ?_, h2, (dN k1), ?_, (dN d1)⟩)
           (fun d2 => rr [false, false, true, false] [false = fusM p L, (partsM (consR L.length fun i => (L.getD i Con.zero).rvs)).length = (partsM L).length ∧ (fun i => [rI IntKind.i64 ((partsM (consR L.length fun i => (L.getD i Con.zero).rvs)).getD i [])]) = fun i => [rI IntKind.i64 ((partsM L).getD i [])], (↑(partsM (consR L.length fun i => (L.getD i Con.zero).rvs)).length : Int) = (↑(partsM L).length : Int), p = p, L.length = L.length ∧ (fun i => (L.getD i Con.zero).rvs) = fun i => (L.getD i Con.zero).rvs, Dec ((partsM L).all (parR L)) false, (∀ (i : Nat), i < L.length → (fun i => (L.getD i Con.zero).rvs) i = (Con.ofR ((fun i => (L.getD i Con.zero).rvs) i)).rvs) ∧ okE (consR L.length fun i => (L.getD i Con.zero).rvs), L.length = L.length ∧ (fun i => (L.getD i Con.zero).rvs) = fun i => (L.getD i Con.zero).rvs, (↑L.length : Int) = (↑L.length : Int), p = p, L.length = L.length ∧ (fun i => (L.getD i Con.zero).rvs) = fun i => (L.getD i Con.zero).rvs, Dec ((List.range L.length).all (fusI L)) true, Dec (!orderV (consR L.length fun i => (L.getD i Con.zero).rvs)) false, (∀ (i : Nat), i < L.length → (fun i => (L.getD i Con.zero).rvs) i = (Con.ofR ((fun i => (L.getD i Con.zero).rvs) i)).rvs) ∧ L.length ≤ (1000 : Nat), Dec (p != (2 : Int)) false] (by kernel_rfl) ⟨?_, ?_, ?_, ?_, ?_, d2, ?_, ?_, ?_, ?_, ?_, h2, (dN k1), ?_, (dN d1)⟩))
           (fun d1 => rr [true] [false = fusM p L, Dec (p != (2 : Int)) true] (by kernel_rfl) ⟨?_, (dN d1)⟩)
  all_goals first | (first | (with_reducible rfl) | exact ⟨rfl, rfl⟩ | exact ⟨fun _ _ => rfl, hn⟩ | exact ⟨fun _ _ => rfl, by rw [consR_ro]; exact okE_ord h1⟩ | (rw [consR_ro]; first | done | rfl | exact ⟨rfl, rfl⟩) | (unfold fusM; rw [h1, h2]; simp_all; done))
theorem rfused_pure (p : Int) (L : List Con) (hn : L.length ≤ 1000) : PureC Tryz.prog [] 40 [.agg [.int .i64 p, roC L]] (.bool (fusM p L)) := by
  cases h1 : orderV L with
  | false => exact rfused_0 p L hn h1
  | true =>
    cases h2 : (List.range L.length).all (fusI L) with
    | false => exact rfused_1 p L hn h1 h2
    | true => exact rfused_2 p L hn h1 h2
end Go.Proofs.YtcfdaddablojlaaGreatDoor.S

/- Plain: a raw symbol has the prime 2. -/
set_option linter.unusedSimpArgs false
set_option linter.unusedVariables false
namespace Go.Proofs.YtcfdaddablojlaaGreatDoor.S
open Go.QfSy Go.RowKit

end Go.Proofs.YtcfdaddablojlaaGreatDoor.S

/- Raw or fused; Valid, Fused and linked, of package train and of the reference, together. -/
set_option linter.unusedSimpArgs false
set_option linter.unusedVariables false
namespace Go.Proofs.YtcfdaddablojlaaGreatDoor.S
open Go.QfSy Go.RowKit

theorem fus_p {p : Int} {L : List Con} (h : fusM p L = true) : p = 2 := by
  unfold fusM at h
  simp only [Bool.and_eq_true, beq_iff_eq] at h
  exact h.1
noncomputable def entsT3 : List OEnt := [
  ⟨38, [], fun A => match A with
    | [.agg [.int .i64 p, .sl n 5 row]] => some (.bool (val2M p (consR n row)), [(∀ i, i < n → row i = (Con.ofR (row i)).rvs) ∧ n ≤ 1000])
    | _ => none⟩,
  ⟨35, [], fun A => match A with
    | [.agg [.int .i64 p, .sl n 5 row]] => some (.bool (fusM p (consR n row)), [(∀ i, i < n → row i = (Con.ofR (row i)).rvs) ∧ n ≤ 1000])
    | _ => none⟩,
  ⟨53, [], fun A => match A with
    | [.agg [.int .i64 p, .sl n 5 row], .int .i64 a] => some (.bool (linkM (consR n row) a.toNat), [(∀ i, i < n → row i = (Con.ofR (row i)).rvs) ∧ okL (consR n row) ∧ 1 ≤ a ∧ a < (n : Int)])
    | _ => none⟩]
theorem entsT3_ok : ∀ e ∈ entsT3, EntOk Tryz.prog e := by
  intro e he
  simp only [entsT3, List.mem_cons, List.not_mem_nil, or_false] at he
  rcases he with rfl | rfl | rfl
  all_goals
    intro A R ms h hm
    simp only at h
    split at h
    all_goals first | (cases h; done) | cases h
  · obtain ⟨h1, h2⟩ := all_one hm
    exact PureC.imp (tvalid_pure _ _ (by rw [consR_len]; exact h2)) (.cons (.agg (.cons .same (.cons (.con h1) .nil))) .nil)
  · obtain ⟨h1, h2⟩ := all_one hm
    exact PureC.imp (tfused_pure _ _ (by rw [consR_len]; exact h2)) (.cons (.agg (.cons .same (.cons (.con h1) .nil))) .nil)
  · obtain ⟨h1, h3, h4, h5⟩ := all_one hm
    rename_i p _ _ a
    have e : ((a.toNat : Nat) : Int) = a := by omega
    have := tlinked_pure p _ a.toNat h3 (by omega) (by rw [consR_len]; omega)
    rw [e] at this
    exact PureC.imp this (.cons (.agg (.cons .same (.cons (.con h1) .nil))) (.cons .same .nil))
noncomputable def entsR3 : List OEnt := [
  ⟨39, [], fun A => match A with
    | [.agg [.int .i64 p, .sl n 5 row]] => some (.bool (val2M p (consR n row)), [(∀ i, i < n → row i = (Con.ofR (row i)).rvs) ∧ n ≤ 1000])
    | _ => none⟩,
  ⟨40, [], fun A => match A with
    | [.agg [.int .i64 p, .sl n 5 row]] => some (.bool (fusM p (consR n row)), [(∀ i, i < n → row i = (Con.ofR (row i)).rvs) ∧ n ≤ 1000])
    | _ => none⟩,
  ⟨55, [], fun A => match A with
    | [.sl n 5 row, .int .i64 a] => some (.bool (linkM (consR n row) a.toNat), [(∀ i, i < n → row i = (Con.ofR (row i)).rvs) ∧ okL (consR n row) ∧ 1 ≤ a ∧ a < (n : Int)])
    | _ => none⟩]
theorem entsR3_ok : ∀ e ∈ entsR3, EntOk Tryz.prog e := by
  intro e he
  simp only [entsR3, List.mem_cons, List.not_mem_nil, or_false] at he
  rcases he with rfl | rfl | rfl
  all_goals
    intro A R ms h hm
    simp only at h
    split at h
    all_goals first | (cases h; done) | cases h
  · obtain ⟨h1, h2⟩ := all_one hm
    exact PureC.imp (val2_pure _ _ (by rw [consR_len]; exact h2)) (.cons (.agg (.cons .same (.cons (.con h1) .nil))) .nil)
  · obtain ⟨h1, h2⟩ := all_one hm
    exact PureC.imp (rfused_pure _ _ (by rw [consR_len]; exact h2)) (.cons (.agg (.cons .same (.cons (.con h1) .nil))) .nil)
  · obtain ⟨h1, h3, h4, h5⟩ := all_one hm
    rename_i a
    have e : ((a.toNat : Nat) : Int) = a := by omega
    have := linked_pure _ a.toNat h3 (by omega) (by rw [consR_len]; omega)
    rw [e] at this
    exact PureC.imp this (.cons (.con h1) (.cons .same .nil))
end Go.Proofs.YtcfdaddablojlaaGreatDoor.S

/- train.Fuse, walk and Canonical. -/
set_option linter.unusedSimpArgs false
set_option linter.unusedVariables false
namespace Go.Proofs.YtcfdaddablojlaaGreatDoor.S
open Go.QfSy Go.RowKit

noncomputable def tfH (n : Nat) (M : List Con) : List (Nat × Blk) := [(1001, ⟨.plain [.int .i64 0, .nils], 24, 0, false, true⟩), (1003, ⟨.con M, 49, 5, true, true⟩)]
/- walk -/
end Go.Proofs.YtcfdaddablojlaaGreatDoor.S

/- Both Fuses, whatever they are given. -/
set_option linter.unusedSimpArgs false
set_option linter.unusedVariables false
namespace Go.Proofs.YtcfdaddablojlaaGreatDoor.S
open Go.QfSy Go.RowKit

def bP (v : Bool) : Int := bif v then 2 else 0
def bL (v : Bool) (M : List Con) : List Con := bif v then M else []
theorem bL_len {v : Bool} {M : List Con} : (bL v M).length ≤ M.length := by cases v <;> simp [bL]
end Go.Proofs.YtcfdaddablojlaaGreatDoor.S

/- quadformref26.Refine. -/
set_option linter.unusedSimpArgs false
set_option linter.unusedVariables false
namespace Go.Proofs.YtcfdaddablojlaaGreatDoor.S
open Go.QfSy Go.RowKit

noncomputable def entsRR : List OEnt := entsR3 ++ entsP
theorem entsRR_ok : ∀ e ∈ entsRR, EntOk Tryz.prog e := by
  intro e he
  rcases List.mem_append.1 he with he | he
  · exact entsR3_ok e he
  · exact entsP_ok e he
noncomputable def rgGo : List Con → List RV → Option (Bool × List Con × List Prop) := fun M A => match A with
  | [.sl n 1 row, .int .i64 k, .int .i64 t] => some ((refF (intsR n row) t M).1, (refF (intsR n row) t M).2, [n = (intsR n row).length ∧ row = (fun j => [.int .i64 ((intsR n row).getD j 0)]) ∧ k = 0 ∧ 0 ≤ t ∧ t ≤ 7 ∧ n ≤ 1000 ∧ inR M.length (intsR n row)])
  | _ => none
theorem rgGo_ok : ∀ M A r M' ms, rgGo M A = some (r, M', ms) → (∀ p ∈ ms, p) → UpdC Tryz.prog 49 62 M A r M' := by
  intro M A r M' ms hq hm
  unfold rgGo at hq
  split at hq
  · rename_i n row k t
    cases hq
    obtain ⟨h1, h2, h3, h4, h5, h6, h7⟩ := all_one hm
    subst h3
    have := refine_upd (l := intsR n row) (N := M.length) (by omega) h7 (intsR n row).length 0 (by omega) M t rfl h4 h5
    rw [List.drop_zero] at this
    have e : rI .i64 (intsR n row) = .sl n 1 row := by
      unfold rI
      rw [← h2, ← h1]
    rw [e] at this
    exact this
  · cases hq
theorem totM_b7 (L : List Con) (l : List Int) : 0 ≤ totM L l ∧ totM L l ≤ 7 := by unfold totM; omega
theorem refG_1 {L M : List Con} {P : List (List Int)} {j : Nat} (hj : j < P.length) (h : (refF (rowAt P j) (totM L (rowAt P j)) M).1 = true) : refG L (P.drop j) M = refG L (P.drop (j + 1)) (refF (rowAt P j) (totM L (rowAt P j)) M).2 := by
  rw [drop_row hj]; simp only [refG, h, cond_true]
theorem refG_2 {L M : List Con} {P : List (List Int)} {j : Nat} (hj : j < P.length) (h : (refF (rowAt P j) (totM L (rowAt P j)) M).1 = false) : refG L (P.drop j) M = none := by
  rw [drop_row hj]; simp only [refG, h, cond_false]
theorem refG_3 {L M : List Con} {P : List (List Int)} {j : Nat} (hj : P.length ≤ j) : refG L (P.drop j) M = some M := by
  rw [List.drop_eq_nil_of_le hj]; rfl
noncomputable def rgT (P : List (List Int)) (j : AV) : List (Nat × AV) := [(1, .ptr 1000 0), (2, .ptr 1001 0), (4, .ptr 1012 0), (15, (roR .i64 P).av), (16, .vint .i64 P.length), (17, j)]
noncomputable def rgAnn (L : List Con) (P : List (List Int)) : Ann := ⟨⟨rgT P (.int .i64 0), fuH L L, 1020⟩, some (refG L P L).isSome, fun d => match d with
  | true => (.exit 0, ⟨[(2, .ptr 1001 0), (4, .ptr 1012 0)], fuH L ((refG L P L).getD []), 1020⟩)
  | false => (.ret, ⟨[(2, .ptr 1001 0), (3, .bool false)], [(1001, ⟨.plain [.int .i64 0, .nils], 24, 0, false, true⟩)], 1020⟩)⟩
set_option maxRecDepth 100000 in
theorem rg_loop (L : List Con) (P : List (List Int)) (hP : ∀ l ∈ P, l ≠ [] ∧ inR L.length l ∧ l.length ≤ L.length) (hn : P.length ≤ 1000) (hL : okL L) : AnnOk Tryz.prog EV.ng (Nat.max 1 Tryz.f37.ntmps) (bodyAt Tryz.f37 [0, 1, 0, 1, 1, 1]) (rgAnn L P) := by
  refine ann_of evOk (callF_ok evOk (orcU_ok rgGo_ok (orcOf_ok entsRR_ok)) 8) none_ann (by kernel_rfl) (by kernel_rfl) (fun i : Nat × List Con => (fun (j : Nat) (M : List Con) => (⟨rgT P (.vint .i64 (j : Int)), fuH L M, 1020⟩ : St)) i.1 i.2) (fun i : Nat × List Con => (fun (j : Nat) (M : List Con) => (P.length - j : Nat)) i.1 i.2) (fun (d : Bool) (i : Nat × List Con) => (fun (j : Nat) (M : List Con) => (j ≤ P.length ∧ M.length = L.length ∧ refG L (P.drop j) M = refG L P L ∧ (refG L P L).isSome = d : Prop)) i.1 i.2) ?_ ?_
  · intro d hd
    exact ⟨(0, L), [P.length = P.length ∧ (fun i => [rI IntKind.i64 (P.getD i [])]) = fun i => [rI IntKind.i64 (P.getD i [])], (↑P.length : Int) = (↑P.length : Int), (0 : Int) = (↑(0 : Nat) : Int), (2 : Int) = (2 : Int), L.length = L.length ∧ (fun i => (L.getD i Con.zero).rvs) = fun i => (L.getD i Con.zero).rvs, L = L, (2 : Int) = (2 : Int), L.length = L.length], by kernel_rfl, (by refine ⟨?_, ?_, ?_, ?_, ?_, ?_, ?_, (?_ : L.length = L.length)⟩ <;> (first | rfl | assumption | omega | simp_all)), (by exact ⟨Nat.zero_le _, rfl, rfl, hd⟩)⟩
  · rintro d hd ⟨j, M⟩ hI
    cases d
    · -- d = false
      obtain ⟨ht, hM, hf, hs⟩ := hI
      have ht : j ≤ P.length := ht
      have hM : M.length = L.length := hM
      have hf : refG L (P.drop j) M = refG L P L := hf
      have hl1 := hL.1
      have ek : IntKind.i64.wrap ((j : Int) + 1) = ((j + 1 : Nat) : Int) := by rw [w64 (by omega) (by omega)]; omega
      refine Or.elim (Bool.eq_false_or_eq_true (decide ((↑j : Int) < (↑P.length : Int)))) (fun d1 => Or.elim (Bool.eq_false_or_eq_true ((refF (intsR (P.getD j []).length fun j_1 => [RV.int IntKind.i64 ((P.getD j []).getD j_1 (0 : Int))]) (totM (consR L.length fun i => (L.getD i Con.zero).rvs) (intsR (P.getD j []).length fun j_1 => [RV.int IntKind.i64 ((P.getD j []).getD j_1 (0 : Int))])) M).fst)) (fun d2 => ⟨[true, false], .inl ⟨(j + 1, (refF (rowAt P j) (totM L (rowAt P j)) M).2), [P.length = P.length ∧ (fun i => [rI IntKind.i64 (P.getD i [])]) = fun i => [rI IntKind.i64 (P.getD i [])], (↑P.length : Int) = (↑P.length : Int), IntKind.i64.wrap ((↑j : Int) + (1 : Int)) = (↑(j + (1 : Nat)) : Int), (2 : Int) = (2 : Int), L.length = L.length ∧ (fun i => (L.getD i Con.zero).rvs) = fun i => (L.getD i Con.zero).rvs, (refF (intsR (P.getD j []).length fun j_1 => [RV.int IntKind.i64 ((P.getD j []).getD j_1 (0 : Int))]) (totM (consR L.length fun i => (L.getD i Con.zero).rvs) (intsR (P.getD j []).length fun j_1 => [RV.int IntKind.i64 ((P.getD j []).getD j_1 (0 : Int))])) M).snd = (refF (rowAt P j) (totM L (rowAt P j)) M).snd, (2 : Int) = (2 : Int), L.length = L.length, Dec (!(refF (intsR (P.getD j []).length fun j_1 => [RV.int IntKind.i64 ((P.getD j []).getD j_1 (0 : Int))]) (totM (consR L.length fun i => (L.getD i Con.zero).rvs) (intsR (P.getD j []).length fun j_1 => [RV.int IntKind.i64 ((P.getD j []).getD j_1 (0 : Int))])) M).fst) false, L.length = M.length, (P.getD j []).length = (intsR (P.getD j []).length fun j_1 => [RV.int IntKind.i64 ((P.getD j []).getD j_1 (0 : Int))]).length ∧ ((fun j_1 => [RV.int IntKind.i64 ((P.getD j []).getD j_1 (0 : Int))]) = fun j_1 => [RV.int IntKind.i64 ((intsR (P.getD j []).length fun j_2 => [RV.int IntKind.i64 ((P.getD j []).getD j_2 (0 : Int))]).getD j_1 (0 : Int))]) ∧ (0 : Int) = (0 : Int) ∧ (0 : Int) ≤ totM (consR L.length fun i => (L.getD i Con.zero).rvs) (intsR (P.getD j []).length fun j_1 => [RV.int IntKind.i64 ((P.getD j []).getD j_1 (0 : Int))]) ∧ totM (consR L.length fun i => (L.getD i Con.zero).rvs) (intsR (P.getD j []).length fun j_1 => [RV.int IntKind.i64 ((P.getD j []).getD j_1 (0 : Int))]) ≤ (7 : Int) ∧ (P.getD j []).length ≤ (1000 : Nat) ∧ inR M.length (intsR (P.getD j []).length fun j_1 => [RV.int IntKind.i64 ((P.getD j []).getD j_1 (0 : Int))]), L.length = L.length, (∀ (i : Nat), i < L.length → (fun i => (L.getD i Con.zero).rvs) i = (Con.ofR ((fun i => (L.getD i Con.zero).rvs) i)).rvs) ∧ (∀ (i : Nat), i < (P.getD j []).length → (fun j_1 => [RV.int IntKind.i64 ((P.getD j []).getD j_1 (0 : Int))]) i = [RV.int IntKind.i64 (intR ((fun j_1 => [RV.int IntKind.i64 ((P.getD j []).getD j_1 (0 : Int))]) i))]) ∧ okL (consR L.length fun i => (L.getD i Con.zero).rvs) ∧ inR (consR L.length fun i => (L.getD i Con.zero).rvs).length (intsR (P.getD j []).length fun j_1 => [RV.int IntKind.i64 ((P.getD j []).getD j_1 (0 : Int))]) ∧ (P.getD j []).length ≤ (1000 : Nat), (0 : Int) ≤ (↑j : Int) ∧ (↑j : Int) < (↑P.length : Int), Dec (decide ((↑j : Int) < (↑P.length : Int))) true], by kernel_rfl, ⟨?_, ?_, ?_, ?_, ?_, ?_, ?_, ?_, (dN d2), ?_, ?_, ?_, ?_, ?_, d1⟩, MuG.out ?_, InG.out ?_⟩⟩)
           (fun d2 => ⟨[true, true], .inr ⟨[Dec (!(refF (intsR (P.getD j []).length fun j_1 => [RV.int IntKind.i64 ((P.getD j []).getD j_1 (0 : Int))]) (totM (consR L.length fun i => (L.getD i Con.zero).rvs) (intsR (P.getD j []).length fun j_1 => [RV.int IntKind.i64 ((P.getD j []).getD j_1 (0 : Int))])) M).fst) true, L.length = M.length, (P.getD j []).length = (intsR (P.getD j []).length fun j_1 => [RV.int IntKind.i64 ((P.getD j []).getD j_1 (0 : Int))]).length ∧ ((fun j_1 => [RV.int IntKind.i64 ((P.getD j []).getD j_1 (0 : Int))]) = fun j_1 => [RV.int IntKind.i64 ((intsR (P.getD j []).length fun j_2 => [RV.int IntKind.i64 ((P.getD j []).getD j_2 (0 : Int))]).getD j_1 (0 : Int))]) ∧ (0 : Int) = (0 : Int) ∧ (0 : Int) ≤ totM (consR L.length fun i => (L.getD i Con.zero).rvs) (intsR (P.getD j []).length fun j_1 => [RV.int IntKind.i64 ((P.getD j []).getD j_1 (0 : Int))]) ∧ totM (consR L.length fun i => (L.getD i Con.zero).rvs) (intsR (P.getD j []).length fun j_1 => [RV.int IntKind.i64 ((P.getD j []).getD j_1 (0 : Int))]) ≤ (7 : Int) ∧ (P.getD j []).length ≤ (1000 : Nat) ∧ inR M.length (intsR (P.getD j []).length fun j_1 => [RV.int IntKind.i64 ((P.getD j []).getD j_1 (0 : Int))]), L.length = L.length, (∀ (i : Nat), i < L.length → (fun i => (L.getD i Con.zero).rvs) i = (Con.ofR ((fun i => (L.getD i Con.zero).rvs) i)).rvs) ∧ (∀ (i : Nat), i < (P.getD j []).length → (fun j_1 => [RV.int IntKind.i64 ((P.getD j []).getD j_1 (0 : Int))]) i = [RV.int IntKind.i64 (intR ((fun j_1 => [RV.int IntKind.i64 ((P.getD j []).getD j_1 (0 : Int))]) i))]) ∧ okL (consR L.length fun i => (L.getD i Con.zero).rvs) ∧ inR (consR L.length fun i => (L.getD i Con.zero).rvs).length (intsR (P.getD j []).length fun j_1 => [RV.int IntKind.i64 ((P.getD j []).getD j_1 (0 : Int))]) ∧ (P.getD j []).length ≤ (1000 : Nat), (0 : Int) ≤ (↑j : Int) ∧ (↑j : Int) < (↑P.length : Int), Dec (decide ((↑j : Int) < (↑P.length : Int))) true], by kernel_rfl, ⟨(dN d2), ?_, ?_, ?_, ?_, ?_, d1⟩, rfl⟩⟩))
           (fun d1 => CtG.no ?_)
      all_goals first | (refine MuG.mk ?_; (simp only [decide_eq_true_eq] at d1; show P.length - (j + 1) < P.length - j; omega)) | (refine InG.mk ?_; (simp only [intsR_ro, consR_ro, Int.toNat_natCast, decide_eq_true_eq] at *; have h0 := hP _ (rowAt_mem (P := P) (t := j) (by omega)); exact ⟨by omega, refF_len h0.2.1 hM, by rw [← hf, refG_1 (by omega) d2], hs⟩)) | (refine CtG.mk ?_; (simp only [intsR_ro, consR_ro, Int.toNat_natCast, decide_eq_true_eq, decide_eq_false_iff_not] at *; first | (rw [← hf, refG_3 (by omega)] at hs; cases hs; done) | (rw [← hf, refG_2 (by omega) d2] at hs; cases hs; done))) | (first | (with_reducible rfl) | exact ⟨rfl, rfl⟩ | decide | ((try simp only [ek, intsR_ro, consR_ro, Int.toNat_natCast, decide_eq_true_eq, decide_eq_false_iff_not] at *) <;> first | omega | (rw [← hf, refG_3 (by omega)]; rfl) | (have h0 := hP _ (rowAt_mem (P := P) (t := j) (by omega)); have hb := totM_b7 L (rowAt P j); first | exact ⟨fun _ _ => rfl, fun _ _ => rfl, hL, h0.2.1, Nat.le_trans h0.2.2 hl1⟩ | exact ⟨rfl, rfl, by trivial, hb.1, hb.2, Nat.le_trans h0.2.2 hl1, by rw [hM]; exact h0.2.1⟩ | exact ⟨by trivial, by trivial, by trivial, hb.1, hb.2, Nat.le_trans h0.2.2 hl1, by rw [hM]; exact h0.2.1⟩ | exact (5 : Nat))))
    · -- d = true
      obtain ⟨ht, hM, hf, hs⟩ := hI
      have ht : j ≤ P.length := ht
      have hM : M.length = L.length := hM
      have hf : refG L (P.drop j) M = refG L P L := hf
      have hl1 := hL.1
      have ek : IntKind.i64.wrap ((j : Int) + 1) = ((j + 1 : Nat) : Int) := by rw [w64 (by omega) (by omega)]; omega
      refine Or.elim (Bool.eq_false_or_eq_true (decide ((↑j : Int) < (↑P.length : Int)))) (fun d1 => Or.elim (Bool.eq_false_or_eq_true ((refF (intsR (P.getD j []).length fun j_1 => [RV.int IntKind.i64 ((P.getD j []).getD j_1 (0 : Int))]) (totM (consR L.length fun i => (L.getD i Con.zero).rvs) (intsR (P.getD j []).length fun j_1 => [RV.int IntKind.i64 ((P.getD j []).getD j_1 (0 : Int))])) M).fst)) (fun d2 => ⟨[true, false], .inl ⟨(j + 1, (refF (rowAt P j) (totM L (rowAt P j)) M).2), [P.length = P.length ∧ (fun i => [rI IntKind.i64 (P.getD i [])]) = fun i => [rI IntKind.i64 (P.getD i [])], (↑P.length : Int) = (↑P.length : Int), IntKind.i64.wrap ((↑j : Int) + (1 : Int)) = (↑(j + (1 : Nat)) : Int), (2 : Int) = (2 : Int), L.length = L.length ∧ (fun i => (L.getD i Con.zero).rvs) = fun i => (L.getD i Con.zero).rvs, (refF (intsR (P.getD j []).length fun j_1 => [RV.int IntKind.i64 ((P.getD j []).getD j_1 (0 : Int))]) (totM (consR L.length fun i => (L.getD i Con.zero).rvs) (intsR (P.getD j []).length fun j_1 => [RV.int IntKind.i64 ((P.getD j []).getD j_1 (0 : Int))])) M).snd = (refF (rowAt P j) (totM L (rowAt P j)) M).snd, (2 : Int) = (2 : Int), L.length = L.length, Dec (!(refF (intsR (P.getD j []).length fun j_1 => [RV.int IntKind.i64 ((P.getD j []).getD j_1 (0 : Int))]) (totM (consR L.length fun i => (L.getD i Con.zero).rvs) (intsR (P.getD j []).length fun j_1 => [RV.int IntKind.i64 ((P.getD j []).getD j_1 (0 : Int))])) M).fst) false, L.length = M.length, (P.getD j []).length = (intsR (P.getD j []).length fun j_1 => [RV.int IntKind.i64 ((P.getD j []).getD j_1 (0 : Int))]).length ∧ ((fun j_1 => [RV.int IntKind.i64 ((P.getD j []).getD j_1 (0 : Int))]) = fun j_1 => [RV.int IntKind.i64 ((intsR (P.getD j []).length fun j_2 => [RV.int IntKind.i64 ((P.getD j []).getD j_2 (0 : Int))]).getD j_1 (0 : Int))]) ∧ (0 : Int) = (0 : Int) ∧ (0 : Int) ≤ totM (consR L.length fun i => (L.getD i Con.zero).rvs) (intsR (P.getD j []).length fun j_1 => [RV.int IntKind.i64 ((P.getD j []).getD j_1 (0 : Int))]) ∧ totM (consR L.length fun i => (L.getD i Con.zero).rvs) (intsR (P.getD j []).length fun j_1 => [RV.int IntKind.i64 ((P.getD j []).getD j_1 (0 : Int))]) ≤ (7 : Int) ∧ (P.getD j []).length ≤ (1000 : Nat) ∧ inR M.length (intsR (P.getD j []).length fun j_1 => [RV.int IntKind.i64 ((P.getD j []).getD j_1 (0 : Int))]), L.length = L.length, (∀ (i : Nat), i < L.length → (fun i => (L.getD i Con.zero).rvs) i = (Con.ofR ((fun i => (L.getD i Con.zero).rvs) i)).rvs) ∧ (∀ (i : Nat), i < (P.getD j []).length → (fun j_1 => [RV.int IntKind.i64 ((P.getD j []).getD j_1 (0 : Int))]) i = [RV.int IntKind.i64 (intR ((fun j_1 => [RV.int IntKind.i64 ((P.getD j []).getD j_1 (0 : Int))]) i))]) ∧ okL (consR L.length fun i => (L.getD i Con.zero).rvs) ∧ inR (consR L.length fun i => (L.getD i Con.zero).rvs).length (intsR (P.getD j []).length fun j_1 => [RV.int IntKind.i64 ((P.getD j []).getD j_1 (0 : Int))]) ∧ (P.getD j []).length ≤ (1000 : Nat), (0 : Int) ≤ (↑j : Int) ∧ (↑j : Int) < (↑P.length : Int), Dec (decide ((↑j : Int) < (↑P.length : Int))) true], by kernel_rfl, ⟨?_, ?_, ?_, ?_, ?_, ?_, ?_, ?_, (dN d2), ?_, ?_, ?_, ?_, ?_, d1⟩, MuG.out ?_, InG.out ?_⟩⟩)
           (fun d2 => CtG.no ?_))
           (fun d1 => ⟨[false], .inr ⟨[(2 : Int) = (2 : Int), L.length = L.length ∧ (fun i => (L.getD i Con.zero).rvs) = fun i => (L.getD i Con.zero).rvs, M = (refG L P L).getD [], (2 : Int) = (2 : Int), L.length = L.length, Dec (decide ((↑j : Int) < (↑P.length : Int))) false], by kernel_rfl, ⟨?_, ?_, ?_, ?_, ?_, d1⟩, rfl⟩⟩)
      all_goals first | (refine MuG.mk ?_; (simp only [decide_eq_true_eq] at d1; show P.length - (j + 1) < P.length - j; omega)) | (refine InG.mk ?_; (simp only [intsR_ro, consR_ro, Int.toNat_natCast, decide_eq_true_eq] at *; have h0 := hP _ (rowAt_mem (P := P) (t := j) (by omega)); exact ⟨by omega, refF_len h0.2.1 hM, by rw [← hf, refG_1 (by omega) d2], hs⟩)) | (refine CtG.mk ?_; (simp only [intsR_ro, consR_ro, Int.toNat_natCast, decide_eq_true_eq, decide_eq_false_iff_not] at *; first | (rw [← hf, refG_3 (by omega)] at hs; cases hs; done) | (rw [← hf, refG_2 (by omega) d2] at hs; cases hs; done))) | (first | (with_reducible rfl) | exact ⟨rfl, rfl⟩ | decide | ((try simp only [ek, intsR_ro, consR_ro, Int.toNat_natCast, decide_eq_true_eq, decide_eq_false_iff_not] at *) <;> first | omega | (rw [← hf, refG_3 (by omega)]; rfl) | (have h0 := hP _ (rowAt_mem (P := P) (t := j) (by omega)); have hb := totM_b7 L (rowAt P j); first | exact ⟨fun _ _ => rfl, fun _ _ => rfl, hL, h0.2.1, Nat.le_trans h0.2.2 hl1⟩ | exact ⟨rfl, rfl, by trivial, hb.1, hb.2, Nat.le_trans h0.2.2 hl1, by rw [hM]; exact h0.2.1⟩ | exact ⟨by trivial, by trivial, by trivial, hb.1, hb.2, Nat.le_trans h0.2.2 hl1, by rw [hM]; exact h0.2.1⟩ | exact (5 : Nat))))
set_option maxRecDepth 100000 in
theorem rref_yes (L R : List Con) (hf : fusM 2 L = true) (hR : refM L = some R) (hlen : R.length = L.length) : PureC Tryz.prog [] 37 [.agg [.int .i64 2, roC L]] (.tup [.agg [.int .i64 2, roC R], .bool true]) := by
  have hL := fus_okL hf; have hl := hL.1; have hne := (fus_parts hf).2.1; have k1 : fusM 2 (consR L.length fun i => (L.getD i Con.zero).rvs) = true := (by rw [consR_ro]; exact hf); have k2 : L.length.beq 0 = false := (by cases h : L.length.beq 0 with | false => rfl | true => have := Nat.eq_of_beq_eq_true h; omega); have k3 : (refG L (partsM L) L).isSome = true := (by rw [show refG L (partsM L) L = some R from hR]; rfl); have k4 : (refG L (partsM L) L).getD [] = R := (by rw [show refG L (partsM L) L = some R from hR]; rfl)
  have rr := fun (tp : List Bool) (ms : List Prop) h hm => pure_run evOk (callF_ok evOk (orcU_ok rgGo_ok (orcOf_ok entsRR_ok)) 8) Tryz.func37 (A := [.agg [.int .i64 2, roC L]]) (N := Nat.max 1 Tryz.f37.ntmps) rfl (one_ann (rg_loop L (partsM L) parts_rows (Nat.le_trans parts_len (fus_okL hf).1) (fus_okL hf))) rfl rfl evNg (tabs := []) (R := .tup [.agg [.int .i64 2, roC R], .bool true]) (tp := tp) (ms := ms) h hm
  refine rr [false, false, true] [(2 : Int) = (2 : Int), L.length = R.length ∧ L.length = ((refG L (partsM L) L).getD []).length ∧ ∀ (i : Nat), i < L.length → (fun i => (R.getD i Con.zero).rvs) i = (((refG L (partsM L) L).getD []).getD i Con.zero).rvs, true = true, (partsM (consR L.length fun i => (L.getD i Con.zero).rvs)).length = (partsM L).length ∧ (fun i => [rI IntKind.i64 ((partsM (consR L.length fun i => (L.getD i Con.zero).rvs)).getD i [])]) = fun i => [rI IntKind.i64 ((partsM L).getD i [])], (↑(partsM (consR L.length fun i => (L.getD i Con.zero).rvs)).length : Int) = (↑(partsM L).length : Int), (2 : Int) = (2 : Int), L.length = L.length ∧ (fun i => (L.getD i Con.zero).rvs) = fun i => (L.getD i Con.zero).rvs, (consR L.length fun i => (L.getD i Con.zero).rvs) = L, (2 : Int) = (2 : Int), L.length = L.length, Dec (refG L (partsM L) L).isSome true, (∀ (i : Nat), i < L.length → (fun i => (L.getD i Con.zero).rvs) i = (Con.ofR ((fun i => (L.getD i Con.zero).rvs) i)).rvs) ∧ okE (consR L.length fun i => (L.getD i Con.zero).rvs), (2 : Int) = (2 : Int), (0 : Nat) < L.length ∧ L.length ≤ (1000000 : Nat), ∀ (i : Nat), i < L.length → (fun i => (L.getD i Con.zero).rvs) i = (Con.ofR ((fun i => (L.getD i Con.zero).rvs) i)).rvs, Dec (L.length.beq (0 : Nat)) false, Dec (!fusM (2 : Int) (consR L.length fun i => (L.getD i Con.zero).rvs)) false, (∀ (i : Nat), i < L.length → (fun i => (L.getD i Con.zero).rvs) i = (Con.ofR ((fun i => (L.getD i Con.zero).rvs) i)).rvs) ∧ L.length ≤ (1000 : Nat)] (by kernel_rfl) ⟨?_, ?_, ?_, ?_, ?_, ?_, ?_, ?_, ?_, ?_, k3, ?_, ?_, ?_, ?_, k2, (dN k1), (?_ : (∀ (i : Nat), i < L.length → (fun i => (L.getD i Con.zero).rvs) i = (Con.ofR ((fun i => (L.getD i Con.zero).rvs) i)).rvs) ∧ L.length ≤ (1000 : Nat))⟩
  all_goals first | (first | (with_reducible rfl) | exact ⟨rfl, rfl⟩ | exact consR_ro L | exact ⟨hne, by omega⟩ | exact hne | exact fun _ _ => rfl | exact ⟨fun _ _ => rfl, by rw [consR_ro]; exact hL.e⟩ | exact ⟨fun _ _ => rfl, hl⟩ | (rw [consR_ro]; first | done | rfl | exact ⟨rfl, rfl⟩) | (rw [k4]; exact ⟨hlen.symm, hlen.symm, fun _ _ => rfl⟩) | exact (5 : Nat))
set_option maxRecDepth 100000 in
theorem rref_none (L : List Con) (hf : fusM 2 L = true) (hR : refM L = none) : PureC Tryz.prog [] 37 [.agg [.int .i64 2, roC L]] (.tup [.agg [.int .i64 0, roC []], .bool false]) := by
  have hL := fus_okL hf; have hl := hL.1; have hne := (fus_parts hf).2.1; have k1 : fusM 2 (consR L.length fun i => (L.getD i Con.zero).rvs) = true := (by rw [consR_ro]; exact hf); have k2 : L.length.beq 0 = false := (by cases h : L.length.beq 0 with | false => rfl | true => have := Nat.eq_of_beq_eq_true h; omega); have k3 : (refG L (partsM L) L).isSome = false := (by rw [show refG L (partsM L) L = none from hR]; rfl)
  have rr := fun (tp : List Bool) (ms : List Prop) h hm => pure_run evOk (callF_ok evOk (orcU_ok rgGo_ok (orcOf_ok entsRR_ok)) 8) Tryz.func37 (A := [.agg [.int .i64 2, roC L]]) (N := Nat.max 1 Tryz.f37.ntmps) rfl (one_ann (rg_loop L (partsM L) parts_rows (Nat.le_trans parts_len (fus_okL hf).1) (fus_okL hf))) rfl rfl evNg (tabs := []) (R := .tup [.agg [.int .i64 0, roC []], .bool false]) (tp := tp) (ms := ms) h hm
  refine rr [false, false, false] [(0 : Int) = (0 : Int), (0 : Nat) = (0 : Nat), false = false, (partsM (consR L.length fun i => (L.getD i Con.zero).rvs)).length = (partsM L).length ∧ (fun i => [rI IntKind.i64 ((partsM (consR L.length fun i => (L.getD i Con.zero).rvs)).getD i [])]) = fun i => [rI IntKind.i64 ((partsM L).getD i [])], (↑(partsM (consR L.length fun i => (L.getD i Con.zero).rvs)).length : Int) = (↑(partsM L).length : Int), (2 : Int) = (2 : Int), L.length = L.length ∧ (fun i => (L.getD i Con.zero).rvs) = fun i => (L.getD i Con.zero).rvs, (consR L.length fun i => (L.getD i Con.zero).rvs) = L, (2 : Int) = (2 : Int), L.length = L.length, Dec (refG L (partsM L) L).isSome false, (∀ (i : Nat), i < L.length → (fun i => (L.getD i Con.zero).rvs) i = (Con.ofR ((fun i => (L.getD i Con.zero).rvs) i)).rvs) ∧ okE (consR L.length fun i => (L.getD i Con.zero).rvs), (2 : Int) = (2 : Int), (0 : Nat) < L.length ∧ L.length ≤ (1000000 : Nat), ∀ (i : Nat), i < L.length → (fun i => (L.getD i Con.zero).rvs) i = (Con.ofR ((fun i => (L.getD i Con.zero).rvs) i)).rvs, Dec (L.length.beq (0 : Nat)) false, Dec (!fusM (2 : Int) (consR L.length fun i => (L.getD i Con.zero).rvs)) false, (∀ (i : Nat), i < L.length → (fun i => (L.getD i Con.zero).rvs) i = (Con.ofR ((fun i => (L.getD i Con.zero).rvs) i)).rvs) ∧ L.length ≤ (1000 : Nat)] (by kernel_rfl) ⟨?_, ?_, ?_, ?_, ?_, ?_, ?_, ?_, ?_, ?_, k3, ?_, ?_, ?_, ?_, k2, (dN k1), (?_ : (∀ (i : Nat), i < L.length → (fun i => (L.getD i Con.zero).rvs) i = (Con.ofR ((fun i => (L.getD i Con.zero).rvs) i)).rvs) ∧ L.length ≤ (1000 : Nat))⟩
  all_goals first | (first | (with_reducible rfl) | exact ⟨rfl, rfl⟩ | exact consR_ro L | exact ⟨hne, by omega⟩ | exact hne | exact fun _ _ => rfl | exact ⟨fun _ _ => rfl, by rw [consR_ro]; exact hL.e⟩ | exact ⟨fun _ _ => rfl, hl⟩ | (rw [consR_ro]; first | done | rfl | exact ⟨rfl, rfl⟩) | exact (5 : Nat))
set_option maxRecDepth 100000 in
theorem rref_no (p : Int) (L : List Con) (hn : L.length ≤ 1000) (hv : fusM p L = false) : PureC Tryz.prog [] 37 [.agg [.int .i64 p, roC L]] (.tup [.agg [.int .i64 0, roC []], .bool false]) := by
  have k1 : fusM p (consR L.length fun i => (L.getD i Con.zero).rvs) = false := (by rw [consR_ro]; exact hv)
  have rr := fun (tp : List Bool) (ms : List Prop) h hm => pure_run evOk (callF_ok evOk (orcU_ok rgGo_ok (orcOf_ok entsRR_ok)) 8) Tryz.func37 (A := [.agg [.int .i64 p, roC L]]) rfl none_ann rfl rfl evNg (tabs := []) (R := .tup [.agg [.int .i64 0, roC []], .bool false]) (tp := tp) (ms := ms) h hm
  refine rr [true] [(0 : Int) = (0 : Int), (0 : Nat) = (0 : Nat), false = false, Dec (!fusM p (consR L.length fun i => (L.getD i Con.zero).rvs)) true, (∀ (i : Nat), i < L.length → (fun i => (L.getD i Con.zero).rvs) i = (Con.ofR ((fun i => (L.getD i Con.zero).rvs) i)).rvs) ∧ L.length ≤ (1000 : Nat)] (by kernel_rfl) ⟨?_, ?_, ?_, (dN k1), (?_ : (∀ (i : Nat), i < L.length → (fun i => (L.getD i Con.zero).rvs) i = (Con.ofR ((fun i => (L.getD i Con.zero).rvs) i)).rvs) ∧ L.length ≤ (1000 : Nat))⟩
  all_goals first | (first | rfl | exact ⟨rfl, rfl⟩ | exact ⟨fun _ _ => rfl, hn⟩)
/- whether there is a refinement; the refinement -/
noncomputable def rfB (p : Int) (L : List Con) : Bool := fusM p L && (refM L).isSome
noncomputable def rfL (L : List Con) : List Con := (refM L).getD []
theorem refG_len {L : List Con} : ∀ {P : List (List Int)} {M R : List Con}, (∀ l ∈ P, inR L.length l) → M.length = L.length → refG L P M = some R → R.length = L.length
  | [], M, R, _, hM, h => by cases h; exact hM
  | l :: P, M, R, hP, hM, h => by
    simp only [refG] at h
    cases hc : (refF l (totM L l) M).1 with
    | false => rw [hc] at h; cases h
    | true =>
      rw [hc, cond_true] at h
      exact refG_len (fun x hx => hP x (List.mem_cons_of_mem _ hx)) (refF_len (hP l List.mem_cons_self) hM) h
theorem refM_len {L R : List Con} (h : refM L = some R) : R.length = L.length := refG_len (fun l hl => (parts_rows l hl).2.1) rfl h
theorem rref_pure (p : Int) (L : List Con) (hn : L.length ≤ 1000) : PureC Tryz.prog [] 37 [.agg [.int .i64 p, roC L]] (.tup [.agg [.int .i64 (bP (rfB p L)), roC (bL (rfB p L) (rfL L))], .bool (rfB p L)]) := by
  unfold rfB
  cases h : fusM p L with
  | false => exact rref_no p L hn h
  | true =>
    have := fus_p h
    subst this
    cases hr : refM L with
    | none => exact rref_none L h hr
    | some R =>
      have e : rfL L = R := by unfold rfL; rw [hr]; rfl
      rw [e]
      exact rref_yes L R h hr (refM_len hr)
end Go.Proofs.YtcfdaddablojlaaGreatDoor.S

/- Plain: which totals the oddities of a compartment can have. -/
set_option linter.unusedSimpArgs false
set_option linter.unusedVariables false
namespace Go.Proofs.YtcfdaddablojlaaGreatDoor.S
open Go.QfSy Go.RowKit

/- what is chosen is legal and adds up -/
theorem findT_some {p : Nat → Bool} : ∀ {n t t0 : Nat}, findT p n t = some t0 → p t0 = true ∧ t ≤ t0 ∧ t0 < t + n ∧ ∀ u, t ≤ u → u < t0 → p u = false
  | 0, _, _, h => by cases h
  | n + 1, t, t0, h => by
    simp only [findT] at h
    cases hp : p t with
    | true =>
      rw [hp] at h
      cases h
      exact ⟨hp, by omega, by omega, fun u _ _ => by omega⟩
    | false =>
      rw [hp] at h
      obtain ⟨h1, h2, h3, h4⟩ := findT_some (show findT p n (t + 1) = some t0 from h)
      refine ⟨h1, by omega, by omega, fun u hu hu' => ?_⟩
      rcases Nat.lt_or_ge t u with hlt | hlt
      · exact h4 u (by omega) hu'
      · have : u = t := by omega
        rw [this]; exact hp
end Go.Proofs.YtcfdaddablojlaaGreatDoor.S

/- train.Refine. -/
set_option linter.unusedSimpArgs false
set_option linter.unusedVariables false
namespace Go.Proofs.YtcfdaddablojlaaGreatDoor.S
open Go.QfSy Go.RowKit

noncomputable def entsTR : List OEnt := (entsT3 ++ entsVC) ++ [
  ⟨61, [], fun A => match A with
    | [.agg [.int .i64 a, .int .i64 b, .int .i64 c, .bool d, .int .i64 e], .sl n 5 row, .sl m 1 row', .int .i64 t] => some (.tup [.int .i64 (((lsF ⟨a, b, c, d, e⟩ (consR n row) (intsR m row') t).getD 0 : Nat) : Int), .bool (lsF ⟨a, b, c, d, e⟩ (consR n row) (intsR m row') t).isSome], [(∀ i, i < n → row i = (Con.ofR (row i)).rvs) ∧ (∀ i, i < m → row' i = [.int .i64 (intR (row' i))]) ∧ m ≤ 1000 ∧ inR n (intsR m row') ∧ 0 ≤ t ∧ t ≤ 7])
    | _ => none⟩]
theorem entsTR_ok : ∀ e ∈ entsTR, EntOk Tryz.prog e := by
  intro e he
  rcases List.mem_append.1 he with he | he
  · rcases List.mem_append.1 he with he | he
    · exact entsT3_ok e he
    · exact entsVC_ok e he
  · rw [List.mem_singleton.1 he]
    intro A R ms h hm
    simp only at h
    split at h
    · cases h
      obtain ⟨h1, h2, h3, h4, h5, h6⟩ := all_one hm
      exact PureC.imp (least_pure ⟨_, _, _, _, _⟩ _ _ _ (by rw [intsR_len]; exact h3) (by rw [consR_len]; exact h4) h5 h6) (.cons .same (.cons (.con h1) (.cons (.ints h2) (.cons .same .nil))))
    · cases h
theorem consR_ro2 {n : Nat} {L : List Con} (h : n = L.length) : consR n (fun i => (L.getD i Con.zero).rvs) = L := by subst h; exact consR_ro L
theorem at_out {M : List Con} {x : Nat} (h : M.length ≤ x) : at_ M x = Con.zero := by simp [at_, h]
theorem intsR_drop (k : IntKind) (l : List Int) (s : Nat) : intsR (l.length - s) (fun i => [.int k (l.getD (i + s) 0)]) = l.drop s := by
  apply List.ext_getElem?
  intro m
  unfold intsR
  rw [List.getElem?_map, List.getElem?_drop]
  rcases Nat.lt_or_ge m (l.length - s) with h | h
  · rw [List.getElem?_range h]
    have h2 : s + m < l.length := by omega
    simp [intR, List.getElem?_eq_getElem h2, Nat.add_comm m s]
  · rw [List.getElem?_eq_none (by simpa using h), List.getElem?_eq_none (by omega)]
    rfl
def lsV (M : List Con) (l : List Int) (k : Nat) (tot : Int) : Nat := (lsF (at_ M (l.getD k 0).toNat) M (l.drop (k + 1)) tot).getD 0
theorem lsV_b (M : List Con) (l : List Int) (k : Nat) (tot : Int) : lsV M l k tot < 8 := by
  unfold lsV
  cases h : lsF (at_ M (l.getD k 0).toNat) M (l.drop (k + 1)) tot with
  | none => decide
  | some t => have := findT_some h; simp only [Option.getD_some]; omega
theorem trF_1 {M : List Con} {l : List Int} {k : Nat} {tot : Int} (hk : k < l.length) (h : (lsF (at_ M (l.getD k 0).toNat) M (l.drop (k + 1)) tot).isSome = true) : trF (l.drop k) tot M = trF (l.drop (k + 1)) ((tot - (lsV M l k tot : Int) + 8) % 8) (setO M (l.getD k 0) (lsV M l k tot : Int)) := by
  rw [drop_int hk]
  unfold lsV
  simp only [trF, lstC_P]
  unfold lsF at h ⊢
  cases hq : findT (lstC (at_ M (l.getD k 0).toNat) M (l.drop (k + 1)) tot) 8 0 with
  | none => rw [hq] at h; cases h
  | some t => rfl
theorem trF_2 {M : List Con} {l : List Int} {k : Nat} {tot : Int} (hk : k < l.length) (h : (lsF (at_ M (l.getD k 0).toNat) M (l.drop (k + 1)) tot).isSome = false) : trF (l.drop k) tot M = none := by
  rw [drop_int hk]
  simp only [trF, lstC_P]
  unfold lsF at h
  cases hq : findT (lstC (at_ M (l.getD k 0).toNat) M (l.drop (k + 1)) tot) 8 0 with
  | none => rfl
  | some t => rw [hq] at h; cases h
theorem trF_3 {M : List Con} {l : List Int} {k : Nat} {tot : Int} (hk : l.length ≤ k) : trF (l.drop k) tot M = some M := by
  rw [List.drop_eq_nil_of_le hk]; rfl
noncomputable def trT (N : Nat) (P : List (List Int)) (j : AV) : List (Nat × AV) := [(2, .ptr 1001 0), (4, .lo 1003 N), (20, (roR .i64 P).av), (21, .vint .i64 P.length), (22, j)]
noncomputable def trI (N : Nat) (P : List (List Int)) (j : Nat) (tot : Int) (k : AV) : List (Nat × AV) := trT N P (.vint .i64 (j : Int)) ++ [(6, (rI .i64 (rowAt P j)).av), (7, .vint .i64 tot), (33, (rI .i64 (rowAt P j)).av), (34, .vint .i64 (rowAt P j).length), (35, k)]
noncomputable def trZ : AEx × St := (.ret, ⟨[(2, .ptr 1001 0), (3, .bool false)], [(1001, ⟨.plain [.int .i64 0, .nils], 24, 0, false, true⟩)], 1020⟩)
noncomputable def trIn (N : Nat) (P : List (List Int)) (j : Nat) (tot : Int) (M : List Con) : Ann := ⟨⟨trI N P j tot (.int .i64 0), tfH N M, 1020⟩, some (trF (rowAt P j) tot M).isSome, fun d => match d with
  | true => (.exit 2, ⟨trT N P (.vint .i64 (j : Int)), tfH N ((trF (rowAt P j) tot M).getD []), 1020⟩)
  | false => trZ⟩
set_option maxRecDepth 100000 in
theorem tr_in (N : Nat) (P : List (List Int)) (j : Nat) (tot0 : Int) (M0 : List Con) (hr : inR N (rowAt P j)) (hn : (rowAt P j).length ≤ 1000) (hM0 : M0.length = N) (h0 : 0 ≤ tot0) (h1 : tot0 ≤ 7) : AnnOk Tryz.prog EV.ng (Nat.max 1 Tryz.f36.ntmps) (bodyAt Tryz.f36 [0, 1, 1, 1, 0, 0, 1, 1, 0, 0, 1, 0, 1, 1, 1]) (trIn N P j tot0 M0) := by
  refine ann_of evOk (callF_ok evOk (orcOf_ok entsTR_ok) 8) none_ann (by kernel_rfl) (by kernel_rfl) (fun i : Nat × Int × List Con => (fun (k : Nat) (tot : Int) (M : List Con) => (⟨trI N P j tot (.vint .i64 (k : Int)), tfH N M, 1020⟩ : St)) i.1 i.2.1 i.2.2) (fun i : Nat × Int × List Con => (fun (k : Nat) (tot : Int) (M : List Con) => ((rowAt P j).length - k : Nat)) i.1 i.2.1 i.2.2) (fun (d : Bool) (i : Nat × Int × List Con) => (fun (k : Nat) (tot : Int) (M : List Con) => (k ≤ (rowAt P j).length ∧ M.length = N ∧ (0 ≤ tot ∧ tot ≤ 7) ∧ trF ((rowAt P j).drop k) tot M = trF (rowAt P j) tot0 M0 ∧ (trF (rowAt P j) tot0 M0).isSome = d : Prop)) i.1 i.2.1 i.2.2) ?_ ?_
  · intro d hd
    exact ⟨(0, tot0, M0), [N = N, P.length = P.length ∧ (fun i => [rI IntKind.i64 (P.getD i [])]) = fun i => [rI IntKind.i64 (P.getD i [])], (↑P.length : Int) = (↑P.length : Int), (↑j : Int) = (↑j : Int), (rowAt P j).length = (rowAt P j).length ∧ (fun j_1 => [RV.int IntKind.i64 ((rowAt P j).getD j_1 (0 : Int))]) = fun j_1 => [RV.int IntKind.i64 ((rowAt P j).getD j_1 (0 : Int))], tot0 = tot0, (rowAt P j).length = (rowAt P j).length ∧ (fun j_1 => [RV.int IntKind.i64 ((rowAt P j).getD j_1 (0 : Int))]) = fun j_1 => [RV.int IntKind.i64 ((rowAt P j).getD j_1 (0 : Int))], (↑(rowAt P j).length : Int) = (↑(rowAt P j).length : Int), (0 : Int) = (↑(0 : Nat) : Int), M0 = M0], by kernel_rfl, (by refine ⟨?_, ?_, ?_, ?_, ?_, ?_, ?_, ?_, ?_, (?_ : M0 = M0)⟩ <;> (first | rfl | assumption | omega | simp_all)), (by exact ⟨Nat.zero_le _, hM0, ⟨h0, h1⟩, rfl, hd⟩)⟩
  · rintro d hd ⟨k, tot, M⟩ hI
    cases d
    · -- d = false
      obtain ⟨ht, hM, hb, hf, hs⟩ := hI
      have ht : k ≤ (rowAt P j).length := ht
      have hM : M.length = N := hM
      have hb : 0 ≤ tot ∧ tot ≤ 7 := hb
      have hf : trF ((rowAt P j).drop k) tot M = trF (rowAt P j) tot0 M0 := hf
      have ek : IntKind.i64.wrap ((k : Int) + 1) = ((k + 1 : Nat) : Int) := by rw [w64 (by omega) (by omega)]; omega
      have ec : consR N (fun i => (M.getD i Con.zero).rvs) = M := consR_ro2 hM.symm
      have hv := lsV_b M (rowAt P j) k tot
      have el := le_tot hb.1 hb.2 hv
      refine Or.elim (Bool.eq_false_or_eq_true (decide ((↑k : Int) < (↑(rowAt P j).length : Int)))) (fun d1 => Or.elim (Bool.eq_false_or_eq_true ((lsF (M.getD ((rowAt P j).getD k (0 : Int)).toNat Con.zero) (consR N fun i => (M.getD i Con.zero).rvs) (intsR ((rowAt P j).length - (IntKind.i64.wrap ((↑k : Int) + (1 : Int))).toNat) fun i => (fun j_1 => [RV.int IntKind.i64 ((rowAt P j).getD j_1 (0 : Int))]) (i + (IntKind.i64.wrap ((↑k : Int) + (1 : Int))).toNat)) tot).isSome)) (fun d2 => ⟨[true, false], .inl ⟨(k + 1, (tot - (lsV M (rowAt P j) k tot : Int) + 8) % 8, setO M ((rowAt P j).getD k 0) (lsV M (rowAt P j) k tot : Int)), [N = N, P.length = P.length ∧ (fun i => [rI IntKind.i64 (P.getD i [])]) = fun i => [rI IntKind.i64 (P.getD i [])], (↑P.length : Int) = (↑P.length : Int), (↑j : Int) = (↑j : Int), (rowAt P j).length = (rowAt P j).length ∧ (fun j_1 => [RV.int IntKind.i64 ((rowAt P j).getD j_1 (0 : Int))]) = fun j_1 => [RV.int IntKind.i64 ((rowAt P j).getD j_1 (0 : Int))], (IntKind.i64.wrap (IntKind.i64.wrap (tot - (↑((lsF (M.getD ((rowAt P j).getD k (0 : Int)).toNat Con.zero) (consR N fun i => (M.getD i Con.zero).rvs) (intsR ((rowAt P j).length - (IntKind.i64.wrap ((↑k : Int) + (1 : Int))).toNat) fun i => (fun j_1 => [RV.int IntKind.i64 ((rowAt P j).getD j_1 (0 : Int))]) (i + (IntKind.i64.wrap ((↑k : Int) + (1 : Int))).toNat)) tot).getD (0 : Nat)) : Int)) + (8 : Int))).tmod (8 : Int) = (tot - (↑(lsV M (rowAt P j) k tot) : Int) + (8 : Int)) % (8 : Int), (rowAt P j).length = (rowAt P j).length ∧ (fun j_1 => [RV.int IntKind.i64 ((rowAt P j).getD j_1 (0 : Int))]) = fun j_1 => [RV.int IntKind.i64 ((rowAt P j).getD j_1 (0 : Int))], (↑(rowAt P j).length : Int) = (↑(rowAt P j).length : Int), IntKind.i64.wrap ((↑k : Int) + (1 : Int)) = (↑(k + (1 : Nat)) : Int), updT M ((rowAt P j).getD k (0 : Int)).toNat (↑((lsF (M.getD ((rowAt P j).getD k (0 : Int)).toNat Con.zero) (consR N fun i => (M.getD i Con.zero).rvs) (intsR ((rowAt P j).length - (IntKind.i64.wrap ((↑k : Int) + (1 : Int))).toNat) fun i => (fun j_1 => [RV.int IntKind.i64 ((rowAt P j).getD j_1 (0 : Int))]) (i + (IntKind.i64.wrap ((↑k : Int) + (1 : Int))).toNat)) tot).getD (0 : Nat)) : Int) = setO M ((rowAt P j).getD k (0 : Int)) (↑(lsV M (rowAt P j) k tot) : Int), (8 : Int) ≠ (0 : Int), ((rowAt P j).getD k (0 : Int)).toNat < M.length, (0 : Int) ≤ (rowAt P j).getD k (0 : Int) ∧ (rowAt P j).getD k (0 : Int) < (↑N : Int), Dec (!(lsF (M.getD ((rowAt P j).getD k (0 : Int)).toNat Con.zero) (consR N fun i => (M.getD i Con.zero).rvs) (intsR ((rowAt P j).length - (IntKind.i64.wrap ((↑k : Int) + (1 : Int))).toNat) fun i => (fun j_1 => [RV.int IntKind.i64 ((rowAt P j).getD j_1 (0 : Int))]) (i + (IntKind.i64.wrap ((↑k : Int) + (1 : Int))).toNat)) tot).isSome) false, N = M.length, (∀ (i : Nat), i < N → (fun i => (M.getD i Con.zero).rvs) i = (Con.ofR ((fun i => (M.getD i Con.zero).rvs) i)).rvs) ∧ (∀ (i : Nat), i < (rowAt P j).length - (IntKind.i64.wrap ((↑k : Int) + (1 : Int))).toNat → (fun i => (fun j_1 => [RV.int IntKind.i64 ((rowAt P j).getD j_1 (0 : Int))]) (i + (IntKind.i64.wrap ((↑k : Int) + (1 : Int))).toNat)) i = [RV.int IntKind.i64 (intR ((fun i => (fun j_1 => [RV.int IntKind.i64 ((rowAt P j).getD j_1 (0 : Int))]) (i + (IntKind.i64.wrap ((↑k : Int) + (1 : Int))).toNat)) i))]) ∧ (rowAt P j).length - (IntKind.i64.wrap ((↑k : Int) + (1 : Int))).toNat ≤ (1000 : Nat) ∧ inR N (intsR ((rowAt P j).length - (IntKind.i64.wrap ((↑k : Int) + (1 : Int))).toNat) fun i => (fun j_1 => [RV.int IntKind.i64 ((rowAt P j).getD j_1 (0 : Int))]) (i + (IntKind.i64.wrap ((↑k : Int) + (1 : Int))).toNat)) ∧ (0 : Int) ≤ tot ∧ tot ≤ (7 : Int), (0 : Int) ≤ IntKind.i64.wrap ((↑k : Int) + (1 : Int)) ∧ IntKind.i64.wrap ((↑k : Int) + (1 : Int)) ≤ (↑(rowAt P j).length : Int), ((rowAt P j).getD k (0 : Int)).toNat < M.length, (0 : Int) ≤ (rowAt P j).getD k (0 : Int) ∧ (rowAt P j).getD k (0 : Int) < (↑N : Int), (0 : Int) ≤ (↑k : Int) ∧ (↑k : Int) < (↑(rowAt P j).length : Int), Dec (decide ((↑k : Int) < (↑(rowAt P j).length : Int))) true], by kernel_rfl, ⟨?_, ?_, ?_, ?_, ?_, ?_, ?_, ?_, ?_, ?_, ?_, ?_, ?_, (dN d2), ?_, ?_, ?_, ?_, ?_, ?_, d1⟩, MuG.out ?_, InG.out ?_⟩⟩)
           (fun d2 => ⟨[true, true], .inr ⟨[Dec (!(lsF (M.getD ((rowAt P j).getD k (0 : Int)).toNat Con.zero) (consR N fun i => (M.getD i Con.zero).rvs) (intsR ((rowAt P j).length - (IntKind.i64.wrap ((↑k : Int) + (1 : Int))).toNat) fun i => (fun j_1 => [RV.int IntKind.i64 ((rowAt P j).getD j_1 (0 : Int))]) (i + (IntKind.i64.wrap ((↑k : Int) + (1 : Int))).toNat)) tot).isSome) true, N = M.length, (∀ (i : Nat), i < N → (fun i => (M.getD i Con.zero).rvs) i = (Con.ofR ((fun i => (M.getD i Con.zero).rvs) i)).rvs) ∧ (∀ (i : Nat), i < (rowAt P j).length - (IntKind.i64.wrap ((↑k : Int) + (1 : Int))).toNat → (fun i => (fun j_1 => [RV.int IntKind.i64 ((rowAt P j).getD j_1 (0 : Int))]) (i + (IntKind.i64.wrap ((↑k : Int) + (1 : Int))).toNat)) i = [RV.int IntKind.i64 (intR ((fun i => (fun j_1 => [RV.int IntKind.i64 ((rowAt P j).getD j_1 (0 : Int))]) (i + (IntKind.i64.wrap ((↑k : Int) + (1 : Int))).toNat)) i))]) ∧ (rowAt P j).length - (IntKind.i64.wrap ((↑k : Int) + (1 : Int))).toNat ≤ (1000 : Nat) ∧ inR N (intsR ((rowAt P j).length - (IntKind.i64.wrap ((↑k : Int) + (1 : Int))).toNat) fun i => (fun j_1 => [RV.int IntKind.i64 ((rowAt P j).getD j_1 (0 : Int))]) (i + (IntKind.i64.wrap ((↑k : Int) + (1 : Int))).toNat)) ∧ (0 : Int) ≤ tot ∧ tot ≤ (7 : Int), (0 : Int) ≤ IntKind.i64.wrap ((↑k : Int) + (1 : Int)) ∧ IntKind.i64.wrap ((↑k : Int) + (1 : Int)) ≤ (↑(rowAt P j).length : Int), ((rowAt P j).getD k (0 : Int)).toNat < M.length, (0 : Int) ≤ (rowAt P j).getD k (0 : Int) ∧ (rowAt P j).getD k (0 : Int) < (↑N : Int), (0 : Int) ≤ (↑k : Int) ∧ (↑k : Int) < (↑(rowAt P j).length : Int), Dec (decide ((↑k : Int) < (↑(rowAt P j).length : Int))) true], by kernel_rfl, ⟨(dN d2), ?_, ?_, ?_, ?_, ?_, ?_, d1⟩, rfl⟩⟩))
           (fun d1 => CtG.no ?_)
      all_goals first | (refine MuG.mk ?_; (simp only [decide_eq_true_eq] at d1; show (rowAt P j).length - (k + 1) < (rowAt P j).length - k; omega)) | (refine InG.mk ?_; (simp only [ek, ec, intsR_drop, consR_ro, Int.toNat_natCast, decide_eq_true_eq] at *; exact ⟨by omega, by rw [setO_len]; exact hM, by omega, by rw [← hf, trF_1 (by omega) d2], hs⟩)) | (refine CtG.mk ?_; (simp only [ek, ec, intsR_drop, consR_ro, Int.toNat_natCast, decide_eq_true_eq, decide_eq_false_iff_not] at *; first | (rw [← hf, trF_3 (by omega)] at hs; cases hs; done) | (rw [← hf, trF_2 (by omega) d2] at hs; cases hs; done))) | (first | (with_reducible rfl) | exact ⟨rfl, rfl⟩ | decide | ((try simp only [ek, ec, intsR_drop, consR_ro, Int.toNat_natCast, decide_eq_true_eq, decide_eq_false_iff_not] at *) <;> first | omega | (rw [← hf, trF_3 (by omega)]; rfl) | exact el | rfl | (have h2 := hr.at (t := k) (by omega); first | omega | exact ⟨fun _ _ => rfl, fun _ _ => rfl, by omega, hr.drop _, hb.1, hb.2⟩ | exact (5 : Nat))))
    · -- d = true
      obtain ⟨ht, hM, hb, hf, hs⟩ := hI
      have ht : k ≤ (rowAt P j).length := ht
      have hM : M.length = N := hM
      have hb : 0 ≤ tot ∧ tot ≤ 7 := hb
      have hf : trF ((rowAt P j).drop k) tot M = trF (rowAt P j) tot0 M0 := hf
      have ek : IntKind.i64.wrap ((k : Int) + 1) = ((k + 1 : Nat) : Int) := by rw [w64 (by omega) (by omega)]; omega
      have ec : consR N (fun i => (M.getD i Con.zero).rvs) = M := consR_ro2 hM.symm
      have hv := lsV_b M (rowAt P j) k tot
      have el := le_tot hb.1 hb.2 hv
      refine Or.elim (Bool.eq_false_or_eq_true (decide ((↑k : Int) < (↑(rowAt P j).length : Int)))) (fun d1 => Or.elim (Bool.eq_false_or_eq_true ((lsF (M.getD ((rowAt P j).getD k (0 : Int)).toNat Con.zero) (consR N fun i => (M.getD i Con.zero).rvs) (intsR ((rowAt P j).length - (IntKind.i64.wrap ((↑k : Int) + (1 : Int))).toNat) fun i => (fun j_1 => [RV.int IntKind.i64 ((rowAt P j).getD j_1 (0 : Int))]) (i + (IntKind.i64.wrap ((↑k : Int) + (1 : Int))).toNat)) tot).isSome)) (fun d2 => ⟨[true, false], .inl ⟨(k + 1, (tot - (lsV M (rowAt P j) k tot : Int) + 8) % 8, setO M ((rowAt P j).getD k 0) (lsV M (rowAt P j) k tot : Int)), [N = N, P.length = P.length ∧ (fun i => [rI IntKind.i64 (P.getD i [])]) = fun i => [rI IntKind.i64 (P.getD i [])], (↑P.length : Int) = (↑P.length : Int), (↑j : Int) = (↑j : Int), (rowAt P j).length = (rowAt P j).length ∧ (fun j_1 => [RV.int IntKind.i64 ((rowAt P j).getD j_1 (0 : Int))]) = fun j_1 => [RV.int IntKind.i64 ((rowAt P j).getD j_1 (0 : Int))], (IntKind.i64.wrap (IntKind.i64.wrap (tot - (↑((lsF (M.getD ((rowAt P j).getD k (0 : Int)).toNat Con.zero) (consR N fun i => (M.getD i Con.zero).rvs) (intsR ((rowAt P j).length - (IntKind.i64.wrap ((↑k : Int) + (1 : Int))).toNat) fun i => (fun j_1 => [RV.int IntKind.i64 ((rowAt P j).getD j_1 (0 : Int))]) (i + (IntKind.i64.wrap ((↑k : Int) + (1 : Int))).toNat)) tot).getD (0 : Nat)) : Int)) + (8 : Int))).tmod (8 : Int) = (tot - (↑(lsV M (rowAt P j) k tot) : Int) + (8 : Int)) % (8 : Int), (rowAt P j).length = (rowAt P j).length ∧ (fun j_1 => [RV.int IntKind.i64 ((rowAt P j).getD j_1 (0 : Int))]) = fun j_1 => [RV.int IntKind.i64 ((rowAt P j).getD j_1 (0 : Int))], (↑(rowAt P j).length : Int) = (↑(rowAt P j).length : Int), IntKind.i64.wrap ((↑k : Int) + (1 : Int)) = (↑(k + (1 : Nat)) : Int), updT M ((rowAt P j).getD k (0 : Int)).toNat (↑((lsF (M.getD ((rowAt P j).getD k (0 : Int)).toNat Con.zero) (consR N fun i => (M.getD i Con.zero).rvs) (intsR ((rowAt P j).length - (IntKind.i64.wrap ((↑k : Int) + (1 : Int))).toNat) fun i => (fun j_1 => [RV.int IntKind.i64 ((rowAt P j).getD j_1 (0 : Int))]) (i + (IntKind.i64.wrap ((↑k : Int) + (1 : Int))).toNat)) tot).getD (0 : Nat)) : Int) = setO M ((rowAt P j).getD k (0 : Int)) (↑(lsV M (rowAt P j) k tot) : Int), (8 : Int) ≠ (0 : Int), ((rowAt P j).getD k (0 : Int)).toNat < M.length, (0 : Int) ≤ (rowAt P j).getD k (0 : Int) ∧ (rowAt P j).getD k (0 : Int) < (↑N : Int), Dec (!(lsF (M.getD ((rowAt P j).getD k (0 : Int)).toNat Con.zero) (consR N fun i => (M.getD i Con.zero).rvs) (intsR ((rowAt P j).length - (IntKind.i64.wrap ((↑k : Int) + (1 : Int))).toNat) fun i => (fun j_1 => [RV.int IntKind.i64 ((rowAt P j).getD j_1 (0 : Int))]) (i + (IntKind.i64.wrap ((↑k : Int) + (1 : Int))).toNat)) tot).isSome) false, N = M.length, (∀ (i : Nat), i < N → (fun i => (M.getD i Con.zero).rvs) i = (Con.ofR ((fun i => (M.getD i Con.zero).rvs) i)).rvs) ∧ (∀ (i : Nat), i < (rowAt P j).length - (IntKind.i64.wrap ((↑k : Int) + (1 : Int))).toNat → (fun i => (fun j_1 => [RV.int IntKind.i64 ((rowAt P j).getD j_1 (0 : Int))]) (i + (IntKind.i64.wrap ((↑k : Int) + (1 : Int))).toNat)) i = [RV.int IntKind.i64 (intR ((fun i => (fun j_1 => [RV.int IntKind.i64 ((rowAt P j).getD j_1 (0 : Int))]) (i + (IntKind.i64.wrap ((↑k : Int) + (1 : Int))).toNat)) i))]) ∧ (rowAt P j).length - (IntKind.i64.wrap ((↑k : Int) + (1 : Int))).toNat ≤ (1000 : Nat) ∧ inR N (intsR ((rowAt P j).length - (IntKind.i64.wrap ((↑k : Int) + (1 : Int))).toNat) fun i => (fun j_1 => [RV.int IntKind.i64 ((rowAt P j).getD j_1 (0 : Int))]) (i + (IntKind.i64.wrap ((↑k : Int) + (1 : Int))).toNat)) ∧ (0 : Int) ≤ tot ∧ tot ≤ (7 : Int), (0 : Int) ≤ IntKind.i64.wrap ((↑k : Int) + (1 : Int)) ∧ IntKind.i64.wrap ((↑k : Int) + (1 : Int)) ≤ (↑(rowAt P j).length : Int), ((rowAt P j).getD k (0 : Int)).toNat < M.length, (0 : Int) ≤ (rowAt P j).getD k (0 : Int) ∧ (rowAt P j).getD k (0 : Int) < (↑N : Int), (0 : Int) ≤ (↑k : Int) ∧ (↑k : Int) < (↑(rowAt P j).length : Int), Dec (decide ((↑k : Int) < (↑(rowAt P j).length : Int))) true], by kernel_rfl, ⟨?_, ?_, ?_, ?_, ?_, ?_, ?_, ?_, ?_, ?_, ?_, ?_, ?_, (dN d2), ?_, ?_, ?_, ?_, ?_, ?_, d1⟩, MuG.out ?_, InG.out ?_⟩⟩)
           (fun d2 => CtG.no ?_))
           (fun d1 => ⟨[false], .inr ⟨[N = N, P.length = P.length ∧ (fun i => [rI IntKind.i64 (P.getD i [])]) = fun i => [rI IntKind.i64 (P.getD i [])], (↑P.length : Int) = (↑P.length : Int), (↑j : Int) = (↑j : Int), M = (trF (rowAt P j) tot0 M0).getD [], Dec (decide ((↑k : Int) < (↑(rowAt P j).length : Int))) false], by kernel_rfl, ⟨?_, ?_, ?_, ?_, ?_, d1⟩, rfl⟩⟩)
      all_goals first | (refine MuG.mk ?_; (simp only [decide_eq_true_eq] at d1; show (rowAt P j).length - (k + 1) < (rowAt P j).length - k; omega)) | (refine InG.mk ?_; (simp only [ek, ec, intsR_drop, consR_ro, Int.toNat_natCast, decide_eq_true_eq] at *; exact ⟨by omega, by rw [setO_len]; exact hM, by omega, by rw [← hf, trF_1 (by omega) d2], hs⟩)) | (refine CtG.mk ?_; (simp only [ek, ec, intsR_drop, consR_ro, Int.toNat_natCast, decide_eq_true_eq, decide_eq_false_iff_not] at *; first | (rw [← hf, trF_3 (by omega)] at hs; cases hs; done) | (rw [← hf, trF_2 (by omega) d2] at hs; cases hs; done))) | (first | (with_reducible rfl) | exact ⟨rfl, rfl⟩ | decide | ((try simp only [ek, ec, intsR_drop, consR_ro, Int.toNat_natCast, decide_eq_true_eq, decide_eq_false_iff_not] at *) <;> first | omega | (rw [← hf, trF_3 (by omega)]; rfl) | exact el | rfl | (have h2 := hr.at (t := k) (by omega); first | omega | exact ⟨fun _ _ => rfl, fun _ _ => rfl, by omega, hr.drop _, hb.1, hb.2⟩ | exact (5 : Nat))))
theorem trF_ok2 : ∀ {l : List Int} {tot : Int} {M R : List Con}, okL M → inR M.length l → trF l tot M = some R → okL R ∧ R.length = M.length
  | [], tot, M, R, hM, hl, h => by cases h; exact ⟨hM, rfl⟩
  | i :: l, tot, M, R, hM, hl, h => by
    simp only [trF] at h
    cases hq : findT (lstP M i l tot) 8 0 with
    | none => rw [hq] at h; cases h
    | some t =>
      rw [hq] at h
      have h1 := hl i List.mem_cons_self
      have h2 := findT_some hq
      have h3 := trF_ok2 (setO_ok hM h1 (t := (t : Int)) ⟨by omega, by omega⟩) (by rw [setO_len]; exact fun x hx => hl x (List.mem_cons_of_mem _ hx)) h
      rw [setO_len] at h3
      exact h3
theorem trG_1 {M R : List Con} {P : List (List Int)} {j : Nat} (hj : j < P.length) (h : trF (rowAt P j) (at_ M ((rowAt P j).getD 0 0).toNat).oddity M = some R) : trG (P.drop j) M = trG (P.drop (j + 1)) R := by
  rw [drop_row hj]; simp only [trG, h]
theorem trG_2 {M : List Con} {P : List (List Int)} {j : Nat} (hj : j < P.length) (h : trF (rowAt P j) (at_ M ((rowAt P j).getD 0 0).toNat).oddity M = none) : trG (P.drop j) M = none := by
  rw [drop_row hj]; simp only [trG, h]
theorem trG_3 {M : List Con} {P : List (List Int)} {j : Nat} (hj : P.length ≤ j) : trG (P.drop j) M = some M := by
  rw [List.drop_eq_nil_of_le hj]; rfl
theorem some_getD {o : Option (List Con)} (h : o.isSome = true) : o = some (o.getD []) := by cases o with | none => cases h | some x => rfl
theorem none_of {o : Option (List Con)} (h : o.isSome = false) : o = none := by cases o with | none => rfl | some x => cases h
noncomputable def trOut (L : List Con) (P : List (List Int)) : Ann := ⟨⟨trT L.length P (.int .i64 0), tfH L.length L, 1020⟩, some (trG P L).isSome, fun d => match d with
  | true => (.exit 0, ⟨[(2, .ptr 1001 0), (4, .lo 1003 L.length)], tfH L.length ((trG P L).getD []), 1020⟩)
  | false => trZ⟩
set_option maxRecDepth 100000 in
theorem tr_out (L : List Con) (P : List (List Int)) (hP : ∀ l ∈ P, l ≠ [] ∧ inR L.length l ∧ l.length ≤ L.length) (hn : P.length ≤ 1000) (hL : okL L) : AnnOk Tryz.prog EV.ng (Nat.max 1 Tryz.f36.ntmps) (bodyAt Tryz.f36 [0, 1, 0, 1, 1, 1]) (trOut L P) := by
  refine ann_ofI evOk (callF_ok evOk (orcOf_ok entsTR_ok) 8) (by kernel_rfl) (by kernel_rfl) (fun i : Nat × List Con => (fun (j : Nat) (M : List Con) => (⟨trT L.length P (.vint .i64 (j : Int)), tfH L.length M, 1020⟩ : St)) i.1 i.2) (fun i : Nat × List Con => (fun (j : Nat) (M : List Con) => (P.length - j : Nat)) i.1 i.2) (fun (d : Bool) (i : Nat × List Con) => (fun (j : Nat) (M : List Con) => (j ≤ P.length ∧ okL M ∧ M.length = L.length ∧ trG (P.drop j) M = trG P L ∧ (trG P L).isSome = d : Prop)) i.1 i.2) (fun i : Nat × List Con => (fun (j : Nat) (M : List Con) => ([([0, 1, 1, 1, 0, 0, 1, 1, 0, 0, 1, 0, 1, 1, 1], trIn L.length P j (at_ M ((rowAt P j).getD 0 0).toNat).oddity M)] : List (List Nat × Ann))) i.1 i.2) ?_ ?_ ?_
  · rintro d hd ⟨j, M⟩ hI
    obtain ⟨ht, hM, hlen, hf, hs⟩ := hI
    have ht : j ≤ P.length := ht
    have hM : okL M := hM
    have hlen : M.length = L.length := hlen
    have hb : 0 ≤ (at_ M ((rowAt P j).getD 0 0).toNat).oddity ∧ (at_ M ((rowAt P j).getD 0 0).toNat).oddity ≤ 7 := by
      rcases Nat.lt_or_ge ((rowAt P j).getD 0 0).toNat M.length with h | h
      · exact (hM.at h).2.2.2
      · rw [at_out h]; decide
    have hr : inR L.length (rowAt P j) ∧ (rowAt P j).length ≤ 1000 := by
      have := hL.1
      rcases Nat.lt_or_ge j P.length with h | h
      · have h1 := hP _ (rowAt_mem h)
        exact ⟨h1.2.1, by omega⟩
      · have e : rowAt P j = [] := by simp [rowAt, h]
        rw [e]; exact ⟨fun x hx => by simp at hx, by simp⟩
    exact one_ann (tr_in L.length P j _ M hr.1 hr.2 hlen hb.1 hb.2)
  · intro d hd
    exact ⟨(0, L), [L.length = L.length, P.length = P.length ∧ (fun i => [rI IntKind.i64 (P.getD i [])]) = fun i => [rI IntKind.i64 (P.getD i [])], (↑P.length : Int) = (↑P.length : Int), (0 : Int) = (↑(0 : Nat) : Int), L = L], by kernel_rfl, (by refine ⟨?_, ?_, ?_, ?_, (?_ : L = L)⟩ <;> (first | rfl | assumption | omega | simp_all)), (by exact ⟨Nat.zero_le _, hL, rfl, rfl, hd⟩)⟩
  · rintro d hd ⟨j, M⟩ hI
    cases d
    · -- d = false
      obtain ⟨ht, hM, hlen, hf, hs⟩ := hI
      have ht : j ≤ P.length := ht
      have hM : okL M := hM
      have hlen : M.length = L.length := hlen
      have hf : trG (P.drop j) M = trG P L := hf
      have ek : IntKind.i64.wrap ((j : Int) + 1) = ((j + 1 : Nat) : Int) := by rw [w64 (by omega) (by omega)]; omega
      refine Or.elim (Bool.eq_false_or_eq_true (decide ((↑j : Int) < (↑P.length : Int)))) (fun d1 => Or.elim (Bool.eq_false_or_eq_true ((trF (rowAt P j) (at_ M ((rowAt P j).getD (0 : Nat) (0 : Int)).toNat).oddity M).isSome)) (fun d2 => ⟨[true, true], .inl ⟨(j + 1, (trF (rowAt P j) (at_ M ((rowAt P j).getD 0 0).toNat).oddity M).getD []), [L.length = L.length, P.length = P.length ∧ (fun i => [rI IntKind.i64 (P.getD i [])]) = fun i => [rI IntKind.i64 (P.getD i [])], (↑P.length : Int) = (↑P.length : Int), IntKind.i64.wrap ((↑j : Int) + (1 : Int)) = (↑(j + (1 : Nat)) : Int), (trF (rowAt P j) (at_ M ((rowAt P j).getD (0 : Nat) (0 : Int)).toNat).oddity M).getD [] = (trF (rowAt P j) (at_ M ((rowAt P j).getD (0 : Nat) (0 : Int)).toNat).oddity M).getD [], L.length = L.length, P.length = P.length ∧ (fun i => [rI IntKind.i64 (P.getD i [])]) = fun i => [rI IntKind.i64 (P.getD i [])], (↑P.length : Int) = (↑P.length : Int), (↑j : Int) = (↑j : Int), (P.getD j []).length = (rowAt P j).length ∧ (fun j_1 => [RV.int IntKind.i64 ((P.getD j []).getD j_1 (0 : Int))]) = fun j_1 => [RV.int IntKind.i64 ((rowAt P j).getD j_1 (0 : Int))], (M.getD ((P.getD j []).getD (Int.toNat (0 : Int)) (0 : Int)).toNat Con.zero).oddity = (at_ M ((rowAt P j).getD (0 : Nat) (0 : Int)).toNat).oddity, (P.getD j []).length = (rowAt P j).length ∧ (fun j_1 => [RV.int IntKind.i64 ((P.getD j []).getD j_1 (0 : Int))]) = fun j_1 => [RV.int IntKind.i64 ((rowAt P j).getD j_1 (0 : Int))], (↑(P.getD j []).length : Int) = (↑(rowAt P j).length : Int), M = M, Dec (trF (rowAt P j) (at_ M ((rowAt P j).getD (0 : Nat) (0 : Int)).toNat).oddity M).isSome true, ((P.getD j []).getD (Int.toNat (0 : Int)) (0 : Int)).toNat < M.length, (0 : Int) ≤ (P.getD j []).getD (Int.toNat (0 : Int)) (0 : Int) ∧ (P.getD j []).getD (Int.toNat (0 : Int)) (0 : Int) < (↑L.length : Int), (0 : Int) ≤ (0 : Int) ∧ (0 : Int) < (↑(P.getD j []).length : Int), (0 : Int) ≤ (↑j : Int) ∧ (↑j : Int) < (↑P.length : Int), Dec (decide ((↑j : Int) < (↑P.length : Int))) true], by kernel_rfl, ⟨?_, ?_, ?_, ?_, ?_, ?_, ?_, ?_, ?_, ?_, ?_, ?_, ?_, ?_, d2, ?_, ?_, ?_, ?_, d1⟩, MuG.out ?_, InG.out ?_⟩⟩)
           (fun d2 => ⟨[true, false], .inr ⟨[L.length = L.length, P.length = P.length ∧ (fun i => [rI IntKind.i64 (P.getD i [])]) = fun i => [rI IntKind.i64 (P.getD i [])], (↑P.length : Int) = (↑P.length : Int), (↑j : Int) = (↑j : Int), (P.getD j []).length = (rowAt P j).length ∧ (fun j_1 => [RV.int IntKind.i64 ((P.getD j []).getD j_1 (0 : Int))]) = fun j_1 => [RV.int IntKind.i64 ((rowAt P j).getD j_1 (0 : Int))], (M.getD ((P.getD j []).getD (Int.toNat (0 : Int)) (0 : Int)).toNat Con.zero).oddity = (at_ M ((rowAt P j).getD (0 : Nat) (0 : Int)).toNat).oddity, (P.getD j []).length = (rowAt P j).length ∧ (fun j_1 => [RV.int IntKind.i64 ((P.getD j []).getD j_1 (0 : Int))]) = fun j_1 => [RV.int IntKind.i64 ((rowAt P j).getD j_1 (0 : Int))], (↑(P.getD j []).length : Int) = (↑(rowAt P j).length : Int), M = M, Dec (trF (rowAt P j) (at_ M ((rowAt P j).getD (0 : Nat) (0 : Int)).toNat).oddity M).isSome false, ((P.getD j []).getD (Int.toNat (0 : Int)) (0 : Int)).toNat < M.length, (0 : Int) ≤ (P.getD j []).getD (Int.toNat (0 : Int)) (0 : Int) ∧ (P.getD j []).getD (Int.toNat (0 : Int)) (0 : Int) < (↑L.length : Int), (0 : Int) ≤ (0 : Int) ∧ (0 : Int) < (↑(P.getD j []).length : Int), (0 : Int) ≤ (↑j : Int) ∧ (↑j : Int) < (↑P.length : Int), Dec (decide ((↑j : Int) < (↑P.length : Int))) true], by kernel_rfl, ⟨?_, ?_, ?_, ?_, ?_, ?_, ?_, ?_, ?_, d2, ?_, ?_, ?_, ?_, d1⟩, rfl⟩⟩))
           (fun d1 => CtG.no ?_)
      all_goals first | (refine MuG.mk ?_; (simp only [decide_eq_true_eq] at d1; show P.length - (j + 1) < P.length - j; omega)) | (refine InG.mk ?_; (simp only [decide_eq_true_eq] at d1; have h0 := hP _ (rowAt_mem (P := P) (t := j) (by omega)); have h1 := some_getD d2; have h2 := trF_ok2 hM (by rw [hlen]; exact h0.2.1) h1; exact ⟨by omega, h2.1, h2.2.trans hlen, by rw [← hf]; exact (trG_1 (by omega) h1).symm, hs⟩)) | (refine CtG.mk ?_; (simp only [decide_eq_true_eq, decide_eq_false_iff_not] at d1; first | (rw [← hf, trG_3 (by omega)] at hs; cases hs; done) | (rw [← hf, trG_2 (by omega) (none_of d2)] at hs; cases hs; done))) | (first | (with_reducible rfl) | exact ⟨rfl, rfl⟩ | decide | ((try simp only [ek, Int.toNat_natCast, Int.toNat_zero, decide_eq_true_eq, decide_eq_false_iff_not] at *) <;> first | omega | (rw [← hf, trG_3 (by omega)]; rfl) | (have h0 := hP _ (rowAt_mem (P := P) (t := j) (by omega)); have h1 : 0 < (rowAt P j).length := List.length_pos_iff.2 h0.1; have h5 : 0 ≤ (P.getD j []).getD 0 0 ∧ (P.getD j []).getD 0 0 < (L.length : Int) := h0.2.1.at (t := 0) h1; have h7 : 0 < (P.getD j []).length := h1; first | omega)))
    · -- d = true
      obtain ⟨ht, hM, hlen, hf, hs⟩ := hI
      have ht : j ≤ P.length := ht
      have hM : okL M := hM
      have hlen : M.length = L.length := hlen
      have hf : trG (P.drop j) M = trG P L := hf
      have ek : IntKind.i64.wrap ((j : Int) + 1) = ((j + 1 : Nat) : Int) := by rw [w64 (by omega) (by omega)]; omega
      refine Or.elim (Bool.eq_false_or_eq_true (decide ((↑j : Int) < (↑P.length : Int)))) (fun d1 => Or.elim (Bool.eq_false_or_eq_true ((trF (rowAt P j) (at_ M ((rowAt P j).getD (0 : Nat) (0 : Int)).toNat).oddity M).isSome)) (fun d2 => ⟨[true, true], .inl ⟨(j + 1, (trF (rowAt P j) (at_ M ((rowAt P j).getD 0 0).toNat).oddity M).getD []), [L.length = L.length, P.length = P.length ∧ (fun i => [rI IntKind.i64 (P.getD i [])]) = fun i => [rI IntKind.i64 (P.getD i [])], (↑P.length : Int) = (↑P.length : Int), IntKind.i64.wrap ((↑j : Int) + (1 : Int)) = (↑(j + (1 : Nat)) : Int), (trF (rowAt P j) (at_ M ((rowAt P j).getD (0 : Nat) (0 : Int)).toNat).oddity M).getD [] = (trF (rowAt P j) (at_ M ((rowAt P j).getD (0 : Nat) (0 : Int)).toNat).oddity M).getD [], L.length = L.length, P.length = P.length ∧ (fun i => [rI IntKind.i64 (P.getD i [])]) = fun i => [rI IntKind.i64 (P.getD i [])], (↑P.length : Int) = (↑P.length : Int), (↑j : Int) = (↑j : Int), (P.getD j []).length = (rowAt P j).length ∧ (fun j_1 => [RV.int IntKind.i64 ((P.getD j []).getD j_1 (0 : Int))]) = fun j_1 => [RV.int IntKind.i64 ((rowAt P j).getD j_1 (0 : Int))], (M.getD ((P.getD j []).getD (Int.toNat (0 : Int)) (0 : Int)).toNat Con.zero).oddity = (at_ M ((rowAt P j).getD (0 : Nat) (0 : Int)).toNat).oddity, (P.getD j []).length = (rowAt P j).length ∧ (fun j_1 => [RV.int IntKind.i64 ((P.getD j []).getD j_1 (0 : Int))]) = fun j_1 => [RV.int IntKind.i64 ((rowAt P j).getD j_1 (0 : Int))], (↑(P.getD j []).length : Int) = (↑(rowAt P j).length : Int), M = M, Dec (trF (rowAt P j) (at_ M ((rowAt P j).getD (0 : Nat) (0 : Int)).toNat).oddity M).isSome true, ((P.getD j []).getD (Int.toNat (0 : Int)) (0 : Int)).toNat < M.length, (0 : Int) ≤ (P.getD j []).getD (Int.toNat (0 : Int)) (0 : Int) ∧ (P.getD j []).getD (Int.toNat (0 : Int)) (0 : Int) < (↑L.length : Int), (0 : Int) ≤ (0 : Int) ∧ (0 : Int) < (↑(P.getD j []).length : Int), (0 : Int) ≤ (↑j : Int) ∧ (↑j : Int) < (↑P.length : Int), Dec (decide ((↑j : Int) < (↑P.length : Int))) true], by kernel_rfl, ⟨?_, ?_, ?_, ?_, ?_, ?_, ?_, ?_, ?_, ?_, ?_, ?_, ?_, ?_, d2, ?_, ?_, ?_, ?_, d1⟩, MuG.out ?_, InG.out ?_⟩⟩)
           (fun d2 => CtG.no ?_))
           (fun d1 => ⟨[false], .inr ⟨[L.length = L.length, M = (trG P L).getD [], Dec (decide ((↑j : Int) < (↑P.length : Int))) false], by kernel_rfl, ⟨?_, ?_, d1⟩, rfl⟩⟩)
      all_goals first | (refine MuG.mk ?_; (simp only [decide_eq_true_eq] at d1; show P.length - (j + 1) < P.length - j; omega)) | (refine InG.mk ?_; (simp only [decide_eq_true_eq] at d1; have h0 := hP _ (rowAt_mem (P := P) (t := j) (by omega)); have h1 := some_getD d2; have h2 := trF_ok2 hM (by rw [hlen]; exact h0.2.1) h1; exact ⟨by omega, h2.1, h2.2.trans hlen, by rw [← hf]; exact (trG_1 (by omega) h1).symm, hs⟩)) | (refine CtG.mk ?_; (simp only [decide_eq_true_eq, decide_eq_false_iff_not] at d1; first | (rw [← hf, trG_3 (by omega)] at hs; cases hs; done) | (rw [← hf, trG_2 (by omega) (none_of d2)] at hs; cases hs; done))) | (first | (with_reducible rfl) | exact ⟨rfl, rfl⟩ | decide | ((try simp only [ek, Int.toNat_natCast, Int.toNat_zero, decide_eq_true_eq, decide_eq_false_iff_not] at *) <;> first | omega | (rw [← hf, trG_3 (by omega)]; rfl) | (have h0 := hP _ (rowAt_mem (P := P) (t := j) (by omega)); have h1 : 0 < (rowAt P j).length := List.length_pos_iff.2 h0.1; have h5 : 0 ≤ (P.getD j []).getD 0 0 ∧ (P.getD j []).getD 0 0 < (L.length : Int) := h0.2.1.at (t := 0) h1; have h7 : 0 < (P.getD j []).length := h1; first | omega)))
set_option maxRecDepth 100000 in
theorem tref_yes (L R : List Con) (hf : fusM 2 L = true) (hR : refM L = some R) (hlen : R.length = L.length) : PureC Tryz.prog [] 36 [.agg [.int .i64 2, roC L]] (.tup [.agg [.int .i64 2, roC R], .bool true]) := by
  have hL := fus_okL hf; have hl := hL.1; have hne := (fus_parts hf).2.1; have k1 : fusM 2 (consR L.length fun i => (L.getD i Con.zero).rvs) = true := (by rw [consR_ro]; exact hf); have k2 : L.length.beq 0 = false := (by cases h : L.length.beq 0 with | false => rfl | true => have := Nat.eq_of_beq_eq_true h; omega); have k0 : trG (partsM L) L = some R := (by rw [trG_refM hf]; exact hR); have k3 : (trG (partsM L) L).isSome = true := (by rw [k0]; rfl); have k4 : (trG (partsM L) L).getD [] = R := (by rw [k0]; rfl)
  have rr := fun (tp : List Bool) (ms : List Prop) h hm => pure_run evOk (callF_ok evOk (orcOf_ok entsTR_ok) 8) Tryz.func36 (A := [.agg [.int .i64 2, roC L]]) (N := Nat.max 1 Tryz.f36.ntmps) rfl (one_ann (tr_out L (partsM L) parts_rows (Nat.le_trans parts_len (fus_okL hf).1) (fus_okL hf))) rfl rfl evNg (tabs := []) (R := .tup [.agg [.int .i64 2, roC R], .bool true]) (tp := tp) (ms := ms) h hm
  refine rr [false, false, true] [(2 : Int) = (2 : Int), L.length = R.length ∧ L.length = ((trG (partsM L) L).getD []).length ∧ ∀ (i : Nat), i < L.length → (fun i => (R.getD i Con.zero).rvs) i = (((trG (partsM L) L).getD []).getD i Con.zero).rvs, true = true, L.length = L.length, (partsM (consR L.length fun i => (L.getD i Con.zero).rvs)).length = (partsM L).length ∧ (fun i => [rI IntKind.i64 ((partsM (consR L.length fun i => (L.getD i Con.zero).rvs)).getD i [])]) = fun i => [rI IntKind.i64 ((partsM L).getD i [])], (↑(partsM (consR L.length fun i => (L.getD i Con.zero).rvs)).length : Int) = (↑(partsM L).length : Int), (consR L.length fun i => (L.getD i Con.zero).rvs) = L, Dec (trG (partsM L) L).isSome true, (∀ (i : Nat), i < L.length → (fun i => (L.getD i Con.zero).rvs) i = (Con.ofR ((fun i => (L.getD i Con.zero).rvs) i)).rvs) ∧ okE (consR L.length fun i => (L.getD i Con.zero).rvs), (0 : Nat) < L.length ∧ L.length ≤ (1000000 : Nat), ∀ (i : Nat), i < L.length → (fun i => (L.getD i Con.zero).rvs) i = (Con.ofR ((fun i => (L.getD i Con.zero).rvs) i)).rvs, Dec (L.length.beq (0 : Nat)) false, (0 : Nat) < L.length, Dec (!fusM (2 : Int) (consR L.length fun i => (L.getD i Con.zero).rvs)) false, (∀ (i : Nat), i < L.length → (fun i => (L.getD i Con.zero).rvs) i = (Con.ofR ((fun i => (L.getD i Con.zero).rvs) i)).rvs) ∧ L.length ≤ (1000 : Nat)] (by kernel_rfl) ⟨?_, ?_, ?_, ?_, ?_, ?_, ?_, k3, ?_, ?_, ?_, k2, ?_, (dN k1), (?_ : (∀ (i : Nat), i < L.length → (fun i => (L.getD i Con.zero).rvs) i = (Con.ofR ((fun i => (L.getD i Con.zero).rvs) i)).rvs) ∧ L.length ≤ (1000 : Nat))⟩
  all_goals first | (first | (with_reducible rfl) | exact ⟨rfl, rfl⟩ | exact consR_ro L | exact ⟨hne, by omega⟩ | exact hne | exact fun _ _ => rfl | exact ⟨fun _ _ => rfl, by rw [consR_ro]; exact hL.e⟩ | exact ⟨fun _ _ => rfl, hl⟩ | (rw [consR_ro]; first | done | rfl | exact ⟨rfl, rfl⟩) | (rw [k4]; exact ⟨hlen.symm, hlen.symm, fun _ _ => rfl⟩) | exact (5 : Nat))
set_option maxRecDepth 100000 in
theorem tref_none (L : List Con) (hf : fusM 2 L = true) (hR : refM L = none) : PureC Tryz.prog [] 36 [.agg [.int .i64 2, roC L]] (.tup [.agg [.int .i64 0, roC []], .bool false]) := by
  have hL := fus_okL hf; have hl := hL.1; have hne := (fus_parts hf).2.1; have k1 : fusM 2 (consR L.length fun i => (L.getD i Con.zero).rvs) = true := (by rw [consR_ro]; exact hf); have k2 : L.length.beq 0 = false := (by cases h : L.length.beq 0 with | false => rfl | true => have := Nat.eq_of_beq_eq_true h; omega); have k0 : trG (partsM L) L = none := (by rw [trG_refM hf]; exact hR); have k3 : (trG (partsM L) L).isSome = false := (by rw [k0]; rfl)
  have rr := fun (tp : List Bool) (ms : List Prop) h hm => pure_run evOk (callF_ok evOk (orcOf_ok entsTR_ok) 8) Tryz.func36 (A := [.agg [.int .i64 2, roC L]]) (N := Nat.max 1 Tryz.f36.ntmps) rfl (one_ann (tr_out L (partsM L) parts_rows (Nat.le_trans parts_len (fus_okL hf).1) (fus_okL hf))) rfl rfl evNg (tabs := []) (R := .tup [.agg [.int .i64 0, roC []], .bool false]) (tp := tp) (ms := ms) h hm
  refine rr [false, false, false] [(0 : Int) = (0 : Int), (0 : Nat) = (0 : Nat), false = false, L.length = L.length, (partsM (consR L.length fun i => (L.getD i Con.zero).rvs)).length = (partsM L).length ∧ (fun i => [rI IntKind.i64 ((partsM (consR L.length fun i => (L.getD i Con.zero).rvs)).getD i [])]) = fun i => [rI IntKind.i64 ((partsM L).getD i [])], (↑(partsM (consR L.length fun i => (L.getD i Con.zero).rvs)).length : Int) = (↑(partsM L).length : Int), (consR L.length fun i => (L.getD i Con.zero).rvs) = L, Dec (trG (partsM L) L).isSome false, (∀ (i : Nat), i < L.length → (fun i => (L.getD i Con.zero).rvs) i = (Con.ofR ((fun i => (L.getD i Con.zero).rvs) i)).rvs) ∧ okE (consR L.length fun i => (L.getD i Con.zero).rvs), (0 : Nat) < L.length ∧ L.length ≤ (1000000 : Nat), ∀ (i : Nat), i < L.length → (fun i => (L.getD i Con.zero).rvs) i = (Con.ofR ((fun i => (L.getD i Con.zero).rvs) i)).rvs, Dec (L.length.beq (0 : Nat)) false, (0 : Nat) < L.length, Dec (!fusM (2 : Int) (consR L.length fun i => (L.getD i Con.zero).rvs)) false, (∀ (i : Nat), i < L.length → (fun i => (L.getD i Con.zero).rvs) i = (Con.ofR ((fun i => (L.getD i Con.zero).rvs) i)).rvs) ∧ L.length ≤ (1000 : Nat)] (by kernel_rfl) ⟨?_, ?_, ?_, ?_, ?_, ?_, ?_, k3, ?_, ?_, ?_, k2, ?_, (dN k1), (?_ : (∀ (i : Nat), i < L.length → (fun i => (L.getD i Con.zero).rvs) i = (Con.ofR ((fun i => (L.getD i Con.zero).rvs) i)).rvs) ∧ L.length ≤ (1000 : Nat))⟩
  all_goals first | (first | (with_reducible rfl) | exact ⟨rfl, rfl⟩ | exact consR_ro L | exact ⟨hne, by omega⟩ | exact hne | exact fun _ _ => rfl | exact ⟨fun _ _ => rfl, by rw [consR_ro]; exact hL.e⟩ | exact ⟨fun _ _ => rfl, hl⟩ | (rw [consR_ro]; first | done | rfl | exact ⟨rfl, rfl⟩) | exact (5 : Nat))
set_option maxRecDepth 100000 in
theorem tref_no (p : Int) (L : List Con) (hn : L.length ≤ 1000) (hv : fusM p L = false) : PureC Tryz.prog [] 36 [.agg [.int .i64 p, roC L]] (.tup [.agg [.int .i64 0, roC []], .bool false]) := by
  have k1 : fusM p (consR L.length fun i => (L.getD i Con.zero).rvs) = false := (by rw [consR_ro]; exact hv)
  have rr := fun (tp : List Bool) (ms : List Prop) h hm => pure_run evOk (callF_ok evOk (orcOf_ok entsTR_ok) 8) Tryz.func36 (A := [.agg [.int .i64 p, roC L]]) rfl none_ann rfl rfl evNg (tabs := []) (R := .tup [.agg [.int .i64 0, roC []], .bool false]) (tp := tp) (ms := ms) h hm
  refine rr [true] [(0 : Int) = (0 : Int), (0 : Nat) = (0 : Nat), false = false, Dec (!fusM p (consR L.length fun i => (L.getD i Con.zero).rvs)) true, (∀ (i : Nat), i < L.length → (fun i => (L.getD i Con.zero).rvs) i = (Con.ofR ((fun i => (L.getD i Con.zero).rvs) i)).rvs) ∧ L.length ≤ (1000 : Nat)] (by kernel_rfl) ⟨?_, ?_, ?_, (dN k1), (?_ : (∀ (i : Nat), i < L.length → (fun i => (L.getD i Con.zero).rvs) i = (Con.ofR ((fun i => (L.getD i Con.zero).rvs) i)).rvs) ∧ L.length ≤ (1000 : Nat))⟩
  all_goals first | (first | rfl | exact ⟨rfl, rfl⟩ | exact ⟨fun _ _ => rfl, hn⟩)
theorem tref_pure (p : Int) (L : List Con) (hn : L.length ≤ 1000) : PureC Tryz.prog [] 36 [.agg [.int .i64 p, roC L]] (.tup [.agg [.int .i64 (bP (rfB p L)), roC (bL (rfB p L) (rfL L))], .bool (rfB p L)]) := by
  unfold rfB
  cases h : fusM p L with
  | false => exact tref_no p L hn h
  | true =>
    have := fus_p h
    subst this
    cases hr : refM L with
    | none => exact tref_none L h hr
    | some R =>
      have e : rfL L = R := by unfold rfL; rw [hr]; rfl
      rw [e]
      exact tref_yes L R h hr (refM_len hr)
end Go.Proofs.YtcfdaddablojlaaGreatDoor.S

/- The tables that the rows list; a world that the rows speak of holds them. -/
namespace Go.Proofs.YtcfdaddablojlaaGreatDoor.S
open Go.ChangeShapes Go.WideShapes Go.ChangeAt Go.RowKit Go.QfSy

theorem own : ownKnob Tryz.prog.godebug = none := by kernel_rfl
theorem laidOut : laidOutB Tryz.prog = true := by kernel_rfl
def tabs : List Tb := [
  ⟨2, .u8, [0, 1, 28, 2, 29, 14, 24, 3, 30, 22, 20, 15, 25, 17, 4, 8, 31, 27, 13, 23, 21, 19, 16, 7, 26, 12, 18, 6, 11, 5, 10, 9], 197⟩,
  ⟨3, .u8, [0, 1, 56, 2, 57, 49, 28, 3, 61, 58, 42, 50, 38, 29, 17, 4, 62, 47, 59, 36, 45, 43, 51, 22, 53, 39, 33, 30, 24, 18, 12, 5, 63, 55, 48, 27, 60, 41, 37, 16, 46, 35, 44, 21, 52, 32, 23, 11, 54, 26, 40, 15, 34, 20, 31, 10, 25, 14, 19, 9, 13, 8, 7, 6], 198⟩,
  ⟨0, .u64, [1, 10, 100, 1000, 10000, 100000, 1000000, 10000000, 100000000, 1000000000, 10000000000, 100000000000, 1000000000000, 10000000000000, 100000000000000, 1000000000000000, 10000000000000000, 100000000000000000, 1000000000000000000, 10000000000000000000], 176⟩,
  ⟨1, .i64, [7, 11, 13, 17, 19, 23, 29, 31], 182⟩]
theorem gn0 : Tryz.prog.globalNamed "math/bits.deBruijn32tab" = some 2 := by kernel_rfl
theorem gt0 : (Tryz.prog.globals[2]?).map (·.type) = some 197 := by kernel_rfl
theorem gs0 : 2 < Tryz.prog.globals.size := by show Nat.lt _ _; exact Nat.le_of_ble_eq_true (by kernel_rfl)
theorem gc0 : Tryz.prog.cellsOf 197 = 32 := by kernel_rfl
theorem ge0 : Tryz.prog.cellsOf 5 = 1 := by kernel_rfl
theorem gr0 : (((begin Tryz.prog (fun _ _ => 0) default).world.heap[2]?).bind Obj.row?).map (·.2) = some 197 := by kernel_rfl
theorem gn1 : Tryz.prog.globalNamed "math/bits.deBruijn64tab" = some 3 := by kernel_rfl
theorem gt1 : (Tryz.prog.globals[3]?).map (·.type) = some 198 := by kernel_rfl
theorem gs1 : 3 < Tryz.prog.globals.size := by show Nat.lt _ _; exact Nat.le_of_ble_eq_true (by kernel_rfl)
theorem gc1 : Tryz.prog.cellsOf 198 = 64 := by kernel_rfl
theorem ge1 : Tryz.prog.cellsOf 5 = 1 := by kernel_rfl
theorem gr1 : (((begin Tryz.prog (fun _ _ => 0) default).world.heap[3]?).bind Obj.row?).map (·.2) = some 198 := by kernel_rfl
theorem gn2 : Tryz.prog.globalNamed "internal/strconv.uint64pow10" = some 0 := by kernel_rfl
theorem gt2 : (Tryz.prog.globals[0]?).map (·.type) = some 176 := by kernel_rfl
theorem gs2 : 0 < Tryz.prog.globals.size := by show Nat.lt _ _; exact Nat.le_of_ble_eq_true (by kernel_rfl)
theorem gc2 : Tryz.prog.cellsOf 176 = 20 := by kernel_rfl
theorem ge2 : Tryz.prog.cellsOf 148 = 1 := by kernel_rfl
theorem gr2 : (((begin Tryz.prog (fun _ _ => 0) default).world.heap[0]?).bind Obj.row?).map (·.2) = some 176 := by kernel_rfl
theorem gn3 : Tryz.prog.globalNamed "quadform/prime.offsets" = some 1 := by kernel_rfl
theorem gt3 : (Tryz.prog.globals[1]?).map (·.type) = some 182 := by kernel_rfl
theorem gs3 : 1 < Tryz.prog.globals.size := by show Nat.lt _ _; exact Nat.le_of_ble_eq_true (by kernel_rfl)
theorem gc3 : Tryz.prog.cellsOf 182 = 8 := by kernel_rfl
theorem ge3 : Tryz.prog.cellsOf 2 = 1 := by kernel_rfl
theorem gr3 : (((begin Tryz.prog (fun _ _ => 0) default).world.heap[1]?).bind Obj.row?).map (·.2) = some 182 := by kernel_rfl
theorem gl0 {W : World} {rest : List (String × DataW Unit)} (h : laidMet Tryz.prog (("math/bits.deBruijn32tab", Rows.laid_math_bits_deBruijn32tab) :: rest) W) (hS : W.ShapedOpen Tryz.prog) : W.heap[2]? = some (.cells (([0, 1, 28, 2, 29, 14, 24, 3, 30, 22, 20, 15, 25, 17, 4, 8, 31, 27, 13, 23, 21, 19, 16, 7, 26, 12, 18, 6, 11, 5, 10, 9] : List Int).map (Value.int .u8)).toArray 197 (0, 0)) := by
  have ht : Lib.TabIs Tryz.prog W "math/bits.deBruijn32tab" .u8 [0, 1, 28, 2, 29, 14, 24, 3, 30, 22, 20, 15, 25, 17, 4, 8, 31, 27, 13, 23, 21, 19, 16, 7, 26, 12, 18, 6, 11, 5, 10, 9] :=
    Lib.tabIs_of_head gn0 gt0 Tryz.underlying197 Tryz.underlying5 ge0 gc0 h
  obtain ⟨cs, t, h1, h2⟩ := row_of gs0 gr0 hS
  subst h2
  exact tab_block gn0 ht h1
theorem gl1 {W : World} {rest : List (String × DataW Unit)} (h : laidMet Tryz.prog (("math/bits.deBruijn64tab", Rows.laid_math_bits_deBruijn64tab) :: rest) W) (hS : W.ShapedOpen Tryz.prog) : W.heap[3]? = some (.cells (([0, 1, 56, 2, 57, 49, 28, 3, 61, 58, 42, 50, 38, 29, 17, 4, 62, 47, 59, 36, 45, 43, 51, 22, 53, 39, 33, 30, 24, 18, 12, 5, 63, 55, 48, 27, 60, 41, 37, 16, 46, 35, 44, 21, 52, 32, 23, 11, 54, 26, 40, 15, 34, 20, 31, 10, 25, 14, 19, 9, 13, 8, 7, 6] : List Int).map (Value.int .u8)).toArray 198 (0, 0)) := by
  have ht : Lib.TabIs Tryz.prog W "math/bits.deBruijn64tab" .u8 [0, 1, 56, 2, 57, 49, 28, 3, 61, 58, 42, 50, 38, 29, 17, 4, 62, 47, 59, 36, 45, 43, 51, 22, 53, 39, 33, 30, 24, 18, 12, 5, 63, 55, 48, 27, 60, 41, 37, 16, 46, 35, 44, 21, 52, 32, 23, 11, 54, 26, 40, 15, 34, 20, 31, 10, 25, 14, 19, 9, 13, 8, 7, 6] :=
    Lib.tabIs_of_head gn1 gt1 Tryz.underlying198 Tryz.underlying5 ge1 gc1 h
  obtain ⟨cs, t, h1, h2⟩ := row_of gs1 gr1 hS
  subst h2
  exact tab_block gn1 ht h1
theorem gl2 {W : World} {rest : List (String × DataW Unit)} (h : laidMet Tryz.prog (("internal/strconv.uint64pow10", Rows.laid_internal_strconv_uint64pow10) :: rest) W) (hS : W.ShapedOpen Tryz.prog) : W.heap[0]? = some (.cells (([1, 10, 100, 1000, 10000, 100000, 1000000, 10000000, 100000000, 1000000000, 10000000000, 100000000000, 1000000000000, 10000000000000, 100000000000000, 1000000000000000, 10000000000000000, 100000000000000000, 1000000000000000000, 10000000000000000000] : List Int).map (Value.int .u64)).toArray 176 (0, 0)) := by
  have ht : Lib.TabIs Tryz.prog W "internal/strconv.uint64pow10" .u64 [1, 10, 100, 1000, 10000, 100000, 1000000, 10000000, 100000000, 1000000000, 10000000000, 100000000000, 1000000000000, 10000000000000, 100000000000000, 1000000000000000, 10000000000000000, 100000000000000000, 1000000000000000000, 10000000000000000000] :=
    Lib.tabIs_of_head gn2 gt2 Tryz.underlying176 Tryz.underlying148 ge2 gc2 h
  obtain ⟨cs, t, h1, h2⟩ := row_of gs2 gr2 hS
  subst h2
  exact tab_block gn2 ht h1
theorem gl3 {W : World} {rest : List (String × DataW Unit)} (h : laidMet Tryz.prog (("quadform/prime.offsets", Rows.laid_quadform_prime_offsets) :: rest) W) (hS : W.ShapedOpen Tryz.prog) : W.heap[1]? = some (.cells (([7, 11, 13, 17, 19, 23, 29, 31] : List Int).map (Value.int .i64)).toArray 182 (0, 0)) := by
  have ht : Lib.TabIs Tryz.prog W "quadform/prime.offsets" .i64 [7, 11, 13, 17, 19, 23, 29, 31] :=
    Lib.tabIs_of_head gn3 gt3 Tryz.underlying182 Tryz.underlying2 ge3 gc3 h
  obtain ⟨cs, t, h1, h2⟩ := row_of gs3 gr3 hS
  subst h2
  exact tab_block gn3 ht h1
theorem tabs_of {W : World} (h : laidMet Tryz.prog [("math/bits.deBruijn32tab", Rows.laid_math_bits_deBruijn32tab), ("math/bits.deBruijn64tab", Rows.laid_math_bits_deBruijn64tab), ("internal/strconv.uint64pow10", Rows.laid_internal_strconv_uint64pow10), ("quadform/prime.offsets", Rows.laid_quadform_prime_offsets)] W) (hS : W.ShapedOpen Tryz.prog) : TabW tabs W := by
  intro t ht
  simp only [tabs, List.mem_cons, List.not_mem_nil, or_false] at ht
  rcases ht with rfl | rfl | rfl | rfl
  · exact gl0 h hS
  · exact gl1 (laidMet.tail h) hS
  · exact gl2 (laidMet.tail (laidMet.tail h)) hS
  · exact gl3 (laidMet.tail (laidMet.tail (laidMet.tail h))) hS
noncomputable def laidWorld (os : Os) : World := (layAt 1 Rows.laid_quadform_prime_offsets (layAt 0 Rows.laid_internal_strconv_uint64pow10 (layAt 3 Rows.laid_math_bits_deBruijn64tab (layAt 2 Rows.laid_math_bits_deBruijn32tab (World.holding Tryz.prog os ⟨#[], #[], []⟩)))))
end Go.Proofs.YtcfdaddablojlaaGreatDoor.S

/- awake of quadformlaw27 returns true. -/
namespace Go.Proofs.YtcfdaddablojlaaGreatDoor.S
open Go.QfSy Go.RowKit

set_option maxRecDepth 1000000 in
theorem awake_run : isT0 (bodyF EC (callF EC noOrc 60) noLo 17 (RV.avl []) ⟨trOf (tabList tabs), 1000, [], []⟩) = true := by kernel_rfl
theorem awake_pure : PureC Tryz.prog tabs 17 [] (.bool true) :=
  pure_true ecOk (callF_ok ecOk (noOrc_ok _ _) 60) rfl rfl ecNg awake_run
end Go.Proofs.YtcfdaddablojlaaGreatDoor.S

/- Parts of a symbol that is made, out of their rows; what such a list makes. -/
set_option linter.unusedSimpArgs false
set_option linter.unusedVariables false
namespace Go.Proofs.YtcfdaddablojlaaGreatDoor.S
open Go.QfSy Go.RowKit

/- a list of parts out of its rows -/
def Prt.ofR : List RV → Prt
  | [.int .u8 a, .int .u8 b, .int .u8 c, .int .u8 d, .int .u8 e] => ⟨a, b, c, d, e⟩
  | _ => Prt.zero
def prtR (n : Nat) (row : Nat → List RV) : List Prt := (List.range n).map fun i => Prt.ofR (row i)
theorem prtR_ro (L : List Prt) : prtR L.length (fun i => (L.getD i Prt.zero).rvs) = L := by
  apply List.ext_getElem
  · simp [prtR]
  · intro i h1 h2
    simp [prtR, h2]; rfl
theorem roP_ro {n : Nat} {row : Nat → List RV} (h : ∀ i, i < n → row i = (Prt.ofR (row i)).rvs) {F : Fz} {V : Value} (k : RRel F (.sl n 5 row) V) : RRel F (roP (prtR n row)) V := by
  unfold roP
  have hn : (prtR n row).length = n := by simp [prtR]
  rw [hn]
  refine k.rows (fun i hi => ?_)
  rw [h i hi]
  congr 1
  simp [prtR, hi]

theorem list_rows {pr most : Int} {two : Bool} {n : Nat} {row : Nat → List RV} (h1 : ∀ i, i < n → row i = (Prt.ofR (row i)).rvs) (h2 : ∀ p ∈ prtR n row, p.ok) (h3 : 1 ≤ most) (h4 : most ≤ 100) (h5 : n ≤ 1000) : PureC Tryz.prog [] 59 [.agg [.int .u8 pr, .sl n 5 row], .int .i64 most, .bool two] (roC (listV most two (prtR n row))) := by
  refine (list_pure pr _ most two h2 h3 h4 (by simpa [prtR] using h5)).args (fun F Args hr => ?_)
  cases hr with | cons k0 hr => cases k0 with | agg k0 => cases k0 with | cons a0 k0 => cases k0 with | cons a1 k0 =>
  cases k0
  exact .cons (.agg (.cons a0 (.cons (roP_ro h1 a1) .nil))) hr

theorem RImp.prt {n : Nat} {row : Nat → List RV} (h : ∀ i, i < n → row i = (Prt.ofR (row i)).rvs) : RImp (.sl n 5 row) (roP (prtR n row)) := fun F V k => roP_ro h k
theorem prtR_len {n : Nat} {row : Nat → List RV} : (prtR n row).length = n := by simp [prtR]
theorem listV_len {most : Int} {two : Bool} {X : List Prt} : (listV most two X).length ≤ X.length + 1 := by
  have key : ∀ (X : List Prt) (e n : Int), (listM most two X e n).length ≤ X.length := by
    intro X
    induction X with
    | nil => intro e n; simp [listM]
    | cons p l ih =>
      intro e n
      simp only [listM]
      split
      · simp
      · simp; exact ih _ _
  unfold listV
  cases (listF most two X).isEmpty
  · have := key X (-1) 0
    simp only [cond_false]; unfold listF; omega
  · simp
end Go.Proofs.YtcfdaddablojlaaGreatDoor.S

/- Lists of constituents in memory; quadformref24.SameList, quadformref26.Same of equal lists; OddPrime. -/
namespace Go.Proofs.YtcfdaddablojlaaGreatDoor.Q
open Go.RowKit

theorem below_drewN {B : Nat} {a w : World} (h : Below B a w) (n : Nat) : Below B a (w.drewN n) := ⟨h.os, h.tape, h.output, h.size, h.block⟩
theorem ret_i64 {a b : Int} (h : a = b) : Ending.returned (.int .i64 a) = .returned (.int .i64 b) := by rw [h]
structure Con where
  exp : Int
  dim : Int
  sign : Int
  odd : Bool
  oddity : Int
deriving DecidableEq

/-- Each number fits an int. -/
def I64 (n : Int) : Prop := -9223372036854775808 ≤ n ∧ n ≤ 9223372036854775807
def Con.fits (c : Con) : Prop := I64 c.exp ∧ I64 c.dim ∧ I64 c.sign ∧ I64 c.oddity
def Con.agg (c : Con) : Value := .agg #[.int .i64 c.exp, .int .i64 c.dim, .int .i64 c.sign, .bool c.odd, .int .i64 c.oddity]

/-- Five cells from o of block b hold c. -/
structure ConAt (w : World) (b o : Nat) (c : Con) : Prop where
  c0 : w.cell? ⟨b, o, none⟩ = some (.int .i64 c.exp)
  c1 : w.cell? ⟨b, o + 1, none⟩ = some (.int .i64 c.dim)
  c2 : w.cell? ⟨b, o + 2, none⟩ = some (.int .i64 c.sign)
  c3 : w.cell? ⟨b, o + 3, none⟩ = some (.bool c.odd)
  c4 : w.cell? ⟨b, o + 4, none⟩ = some (.int .i64 c.oddity)

theorem ConAt.below {w w' : World} {b o n : Nat} {c : Con} (h : ConAt w b o c) (hb : Below n w w') (hl : b < n) : ConAt w' b o c :=
  ⟨(hb.cell (p := ⟨b, _, none⟩) hl).trans h.c0, (hb.cell (p := ⟨b, _, none⟩) hl).trans h.c1, (hb.cell (p := ⟨b, _, none⟩) hl).trans h.c2, (hb.cell (p := ⟨b, _, none⟩) hl).trans h.c3, (hb.cell (p := ⟨b, _, none⟩) hl).trans h.c4⟩

/-- The slice value v holds the list l. -/
def Lst (w : World) (v : Value) (l : List Con) : Prop :=
  (l = [] ∧ ∃ a c, v = .slice a 0 c) ∨
  (l ≠ [] ∧ ∃ b o cap, v = .slice (some ⟨b, o, none⟩) l.length cap ∧ b < w.heap.size ∧ l.length ≤ cap ∧ (∀ i c, l[i]? = some c → ConAt w b (o + i * 5) c))

theorem Lst.below {w w' : World} {v : Value} {l : List Con} {n : Nat} (h : Lst w v l) (hb : Below n w w') (hn : w.heap.size ≤ n) : Lst w' v l := by
  rcases h with ⟨h1, h2⟩ | ⟨h1, b, o, cap, h2, h3, hcp, h4⟩
  · exact .inl ⟨h1, h2⟩
  · refine .inr ⟨h1, b, o, cap, h2, ?_, hcp, fun i c hi => (h4 i c hi).below hb (by omega)⟩
    have := hb.size; omega

theorem con_eql (c : Con) (w : World) : (binOp .neq 49 c.agg c.agg).run Tryz.prog w = .ok (.bool false) w := by
  have u3 := Tryz.underlying3
  have a3 := Tryz.isAgg3
  have z3 := Tryz.sizeOf3
  have u4 := Tryz.underlying4
  have a4 := Tryz.isAgg4
  have z4 := Tryz.sizeOf4
  have hS : Tryz.prog.underlying 49 = some (.struct (Tryz.prog.fieldsOf 49)) := by kernel_rfl
  have hp : Tryz.prog.stoodInHeld 49 = false := by kernel_rfl
  simp only [Con.agg]
  rw [run_neq_struct, show (10000 : Nat) = 9999 + 1 from rfl, run_equalIn_agg w 9999 49 _ _ hS hp]
  simp only [Program.fieldsOf, Tryz.underlying49]
  go_simp

set_option maxHeartbeats 4000000 in
theorem sameList_cons (l : List Con) (n b o cap b' o' cap' : Nat) (w : World) (hn : Hid (l.length = n)) (hn0 : 0 < n) (hn1 : n ≤ 1000) (hb : b < w.heap.size) (hb' : b' < w.heap.size)
    (hc : Hid (∀ i c, l[i]? = some c → ConAt w b (o + i * 5) c)) (hc' : Hid (∀ i c, l[i]? = some c → ConAt w b' (o' + i * 5) c)) :
    Calls Tryz.prog 52 #[.slice (some ⟨b, o, none⟩) n cap, .slice (some ⟨b', o', none⟩) n cap'] w fun e w' => e = .returned (.bool true) ∧ Below w.heap.size w w' := by
  go_enter Tryz.func52, Tryz.ntmps52
  go_wp2
  go_loopw [13] (fun i wr => ∃ (k : Nat), k ≤ n ∧ i = .int .i64 k ∧ Below w.heap.size w wr) (fun i _ => (n - (intOf i).toNat))
  case atStart => exact ⟨0, by omega, rfl, Below.refl _ _⟩
  case round =>
    obtain ⟨k, hk, rfl, hbe⟩ := hrel
    by_cases hlt : k < n
    · obtain ⟨c, hkc⟩ : ∃ c, l[k]? = some c := ⟨l[k]'(by rw [hn.out]; exact hlt), List.getElem?_eq_getElem _⟩
      obtain ⟨g0, g1, g2, g3, g4⟩ := (hc.out k c hkc).below hbe hb
      obtain ⟨f0, f1, f2, f3, f4⟩ := (hc'.out k c hkc).below hbe hb'
      have hix : (0 : Int) ≤ (k : Int) := by omega
      have hix' : (k : Int) < (n : Int) := by omega
      clear hkc
      have hneq := con_eql c
      unfold Con.agg at hneq
      go_wp2
      go_hide hQ
      go_quiet (fail)
      subst hQ
      go_wp2
      go_roundw
      case rel => exact ⟨k + 1, by omega, by go_num, below_drewN hbe _⟩
      case measure => simp [intOf]; omega
    · go_wp2
      go_ret
      exact ⟨rfl, hbe⟩
theorem sameList_nil (a a' : Option Addr) (cap cap' : Nat) (w : World) :
    Calls Tryz.prog 52 #[.slice a 0 cap, .slice a' 0 cap'] w fun e w' => e = .returned (.bool true) ∧ Below w.heap.size w w' := by
  go_enter Tryz.func52, Tryz.ntmps52
  go_wp2
  go_loopw [13] (fun i wr => i = .int .i64 0 ∧ wr = w) (fun _ _ => 0)
  case atStart => exact ⟨rfl, rfl⟩
  case round =>
    obtain ⟨rfl, rfl⟩ := hrel
    go_wp2
    go_ret
    exact ⟨rfl, Below.refl _ _⟩

theorem sameList_calls (l : List Con) (v v' : Value) (w : World) (h : Lst w v l) (h' : Lst w v' l) (hn : l.length ≤ 1000) :
    Calls Tryz.prog 52 #[v, v'] w fun e w' => e = .returned (.bool true) ∧ Below w.heap.size w w' := by
  rcases h with ⟨rfl, a, c, rfl⟩ | ⟨hne, b, o, cap, rfl, hb, hcp, hc⟩
  · rcases h' with ⟨_, a', c', rfl⟩ | ⟨hne, _⟩
    · exact sameList_nil a a' c c' w
    · exact absurd rfl hne
  · rcases h' with ⟨rfl, _⟩ | ⟨_, b', o', cap', rfl, hb', hcp', hc'⟩
    · exact absurd rfl hne
    · have hpos : 0 < l.length := by cases l; exact absurd rfl hne; simp
      exact sameList_cons l l.length b o cap b' o' cap' w rfl hpos hn hb hb' hc hc'

set_option maxRecDepth 100000 in
set_option maxHeartbeats 1000000 in
theorem same_calls (p : Int) (l : List Con) (a a' : Option Addr) (n n' c c' : Nat) (w : World) (h : Hid (Lst w (.slice a n c) l)) (h' : Hid (Lst w (.slice a' n' c') l)) (hn : Hid (l.length ≤ 1000)) :
    Calls Tryz.prog 21 #[.agg #[.int .i64 p, .slice a n c], .agg #[.int .i64 p, .slice a' n' c']] w fun e w' => e = .returned (.bool true) ∧ Below w.heap.size w w' := by
  have hcall := Lib.hid (fun (W : World) (hW : Below w.heap.size w W) => sameList_calls l (.slice a n c) (.slice a' n' c') W (h.out.below hW (Nat.le_refl _)) (h'.out.below hW (Nat.le_refl _)) hn.out)
  clear h h'
  go_enter Tryz.func21, Tryz.ntmps21
  go_wp2_with (go_at_call 52; refine (hcall.out _ ?_).mono ?_; (exact ((Below.refl _ _).alloc (Nat.le_refl _) _).alloc (by simp) _); rintro e w1 ⟨rfl, hb1⟩)
  go_ret
  exact ⟨rfl, (((Below.refl _ _).alloc (Nat.le_refl _) _).alloc (by simp) _).trans (hb1.mono (by simp; omega))⟩
def oddPr (k : Int) : Int := ([3, 5, 7, 11, 13, 17, 19, 23] : List Int).getD (k % 8).toNat 3

theorem oddPrime_calls (k : Int) (w : World) (h0 : 0 ≤ k) (h1 : k ≤ 255) : Calls Tryz.prog 86 #[.int .u8 k] w fun e w' => e = .returned (.int .i64 (oddPr k)) ∧ Below w.heap.size w w' := by
  have hk : k % 8 = 0 ∨ k % 8 = 1 ∨ k % 8 = 2 ∨ k % 8 = 3 ∨ k % 8 = 4 ∨ k % 8 = 5 ∨ k % 8 = 6 ∨ k % 8 = 7 := by omega
  rcases hk with h | h | h | h | h | h | h | h
  all_goals
    have HO := Lib.hid (show oddPr k = _ by unfold oddPr; rw [h])
    generalize oddPr k = r at HO ⊢
    go_enter Tryz.func86, Tryz.ntmps86
    go_wp2
    go_ret
    exact ⟨ret_i64 HO.out.symm, (Below.refl _ _).alloc (Nat.le_refl _) _⟩
end Go.Proofs.YtcfdaddablojlaaGreatDoor.Q

/- Same of equal lists and OddPrime as pure calls. -/
set_option linter.unusedSimpArgs false
set_option linter.unusedVariables false
namespace Go.Proofs.YtcfdaddablojlaaGreatDoor.S
open Go.QfSy Go.RowKit

def toQ (c : Con) : Q.Con := ⟨c.exp, c.dim, c.sign, c.odd, c.oddity⟩

theorem cell_of {F : Fz} {w : World} (hF : Vld F w) {B o : Nat} {v : Value} (h : FzAt F B o v) : w.cell? ⟨B, o, none⟩ = some v ∧ B < w.heap.size := by
  obtain ⟨cs, el, fr, h1, h2⟩ := h
  have h3 := hF _ _ h1
  refine ⟨?_, (Array.getElem?_eq_some_iff.1 h3).1⟩
  simp [World.cell?, h3, h2]

theorem rs5 {F : Fz} {c : Con} {Vs : List Value} (h : RsRel F c.rvs Vs) : Vs = [.int .i64 c.exp, .int .i64 c.dim, .int .i64 c.sign, .bool c.odd, .int .i64 c.oddity] := by
  unfold Con.rvs at h
  cases h with | cons h0 h => cases h with | cons h1 h => cases h with | cons h2 h => cases h with | cons h3 h => cases h with | cons h4 h =>
  cases h; cases h0; cases h1; cases h2; cases h3; cases h4
  rfl

theorem lst_of {F : Fz} {w : World} (hF : Vld F w) {L : List Con} {V : Value} (h : RRel F (roC L) V) : Q.Lst w V (L.map toQ) ∧ ∃ a n c, V = .slice a n c := by
  unfold roC at h
  cases h with
  | sl0 sz row a c hn =>
    have : L = [] := List.eq_nil_of_length_eq_zero hn
    subst this
    exact ⟨.inl ⟨rfl, a, c, rfl⟩, _, _, _, rfl⟩
  | @sl _ _ B o c _ cs hc hl hf h =>
    refine ⟨?_, _, _, _, rfl⟩
    cases L with
    | nil => exact .inl ⟨rfl, _, _, rfl⟩
    | cons c0 l =>
      have key : ∀ i, i < (c0 :: l).length → ∀ j v, ([.int .i64 ((c0 :: l).getD i Con.zero).exp, .int .i64 ((c0 :: l).getD i Con.zero).dim, .int .i64 ((c0 :: l).getD i Con.zero).sign, .bool ((c0 :: l).getD i Con.zero).odd, .int .i64 ((c0 :: l).getD i Con.zero).oddity] : List Value)[j]? = some v → w.cell? ⟨B, o + i * 5 + j, none⟩ = some v ∧ B < w.heap.size := by
        intro i hi j v hv
        have := rs5 (h i hi)
        exact cell_of hF (hf i j v hi (by rw [this]; exact hv))
      refine .inr ⟨by simp, B, o, c, by simp, (key 0 (by simp) 0 _ rfl).2, by simpa using hc, ?_⟩
      intro i q hq
      rw [List.getElem?_map] at hq
      cases hi : (c0 :: l)[i]? with
      | none => rw [hi] at hq; cases hq
      | some x =>
        rw [hi] at hq
        cases hq
        have hlt := (List.getElem?_eq_some_iff.1 hi).1
        have hx : (c0 :: l).getD i Con.zero = x := by rw [List.getD_eq_getElem?_getD, hi]; rfl
        have k := key i hlt
        rw [hx] at k
        exact ⟨(k 0 _ rfl).1, (k 1 _ rfl).1, (k 2 _ rfl).1, (k 3 _ rfl).1, (k 4 _ rfl).1⟩

/-- A result without slices makes a pure call. -/
theorem flat_pure {tabs : List Tb} {f : Nat} {A : List RV} {R : RV} {V : Value} (hR : ∀ F, RRel F R V) (hfn : ∃ fn, Tryz.prog.funcs[f]? = some fn ∧ fn.body.isSome = true)
    (h : ∀ (w : World) (F : Fz) (Args : List Value), TabW tabs w → Vld F w → RsRel F A Args → Calls Tryz.prog f Args.toArray w fun e w' => e = .returned V ∧ Below w.heap.size w w') : PureC Tryz.prog tabs f A R := by
  refine ⟨hfn, ?_⟩
  intro w F Args ht hF hr
  refine (h w F Args ht hF hr).mono ?_
  rintro e w' ⟨rfl, hb⟩
  exact ⟨V, F, rfl, fun _ _ h => h, hF.below hb, fun _ _ h => .inl h, hR F, hb⟩

theorem same_pure (p : Int) (L : List Con) (hn : L.length ≤ 1000) : PureC Tryz.prog [] 21 [.agg [.int .i64 p, roC L], .agg [.int .i64 p, roC L]] (.bool true) := by
  refine flat_pure (fun _ => .bool _) ⟨_, Tryz.func21, rfl⟩ ?_
  intro w F Args ht hF hr
  cases hr with | cons h0 hr => cases hr with | cons k0 hr => cases hr; cases h0 with | agg h0 => cases h0 with | cons h1 h0 => cases h1; cases h0 with | cons h2 h0 => cases h0; cases k0 with | agg k0 => cases k0 with | cons k1 k0 => cases k1; cases k0 with | cons k2 k0 =>
  cases k0
  obtain ⟨l1, a, n, c, rfl⟩ := lst_of hF h2
  obtain ⟨l2, a', n', c', rfl⟩ := lst_of hF k2
  exact Q.same_calls p _ a a' n n' c c' w (Lib.hid l1) (Lib.hid l2) (Lib.hid (by simpa using hn))

theorem oddPrime_pure (k : Int) (h0 : 0 ≤ k) (h1 : k ≤ 255) : PureC Tryz.prog [] 86 [.int .u8 k] (.int .i64 (Q.oddPr k)) := by
  refine flat_pure (fun _ => .int _ _) ⟨_, Tryz.func86, rfl⟩ ?_
  intro w F Args ht hF hr
  cases hr with | cons k0 hr =>
  cases hr; cases k0
  exact Q.oddPrime_calls k w h0 h1

end Go.Proofs.YtcfdaddablojlaaGreatDoor.S

/- quadformref26.Canonical. -/
set_option linter.unusedSimpArgs false
set_option linter.unusedVariables false
namespace Go.Proofs.YtcfdaddablojlaaGreatDoor.S
open Go.QfSy Go.RowKit

noncomputable def entsK : List OEnt := [
  ⟨56, [], fun A => match A with
    | [.agg [.int .i64 p, .sl n 5 row], .int .i64 a] => some (.agg [.int .i64 2, roC (stepM (consR n row) a.toNat)], [(∀ i, i < n → row i = (Con.ofR (row i)).rvs) ∧ p = 2 ∧ okL (consR n row) ∧ 1 ≤ a ∧ a < (n : Int)])
    | _ => none⟩,
  ⟨55, [], fun A => match A with
    | [.sl n 5 row, .int .i64 a] => some (.bool (linkM (consR n row) a.toNat), [(∀ i, i < n → row i = (Con.ofR (row i)).rvs) ∧ okL (consR n row) ∧ 1 ≤ a ∧ a < (n : Int)])
    | _ => none⟩,
  ⟨20, [], fun A => match A with
    | [.agg [.int .i64 p, .sl n 5 row]] => some (.tup [.agg [.int .i64 2, roC (fuseM (consR n row))], .bool true], [(∀ i, i < n → row i = (Con.ofR (row i)).rvs) ∧ p = 2 ∧ okL (consR n row) ∧ val2M 2 (consR n row) = true ∧ 0 < n])
    | _ => none⟩]
theorem entsK_ok : ∀ e ∈ entsK, EntOk Tryz.prog e := by
  intro e he
  simp only [entsK, List.mem_cons, List.not_mem_nil, or_false] at he
  rcases he with rfl | rfl | rfl
  all_goals
    intro A R ms h hm
    simp only at h
    split at h
    all_goals first | (cases h; done) | cases h
  · obtain ⟨h1, h2, h3, h4, h5⟩ := all_one hm
    rename_i a
    subst h2
    have e : ((a.toNat : Nat) : Int) = a := by omega
    have := step_pure _ a.toNat h3 (by omega) (by rw [consR_len]; omega)
    rw [e] at this
    exact PureC.imp this (.cons (.agg (.cons .same (.cons (.con h1) .nil))) (.cons .same .nil))
  · obtain ⟨h1, h3, h4, h5⟩ := all_one hm
    rename_i a
    have e : ((a.toNat : Nat) : Int) = a := by omega
    have := linked_pure _ a.toNat h3 (by omega) (by rw [consR_len]; omega)
    rw [e] at this
    exact PureC.imp this (.cons (.con h1) (.cons .same .nil))
  · obtain ⟨h1, h2, h4, h5, h6⟩ := all_one hm
    subst h2
    exact PureC.imp (fuse_yes _ h4 h5 (by rw [consR_len]; exact h6)) (.cons (.agg (.cons .same (.cons (.con h1) .nil))) .nil)
noncomputable def canAnn (L : List Con) : Ann := ⟨⟨[(2, .ptr 1001 0), (4, .ptr 1002 0), (6, .vint .i64 (IntKind.i64.wrap (((fuseM L).length : Int) - 1)))], [(1001, ⟨.plain [.int .i64 0, .nils], 24, 0, false, true⟩), (1002, ⟨.plain [.vint .i64 2, (roC (fuseM L)).av], 24, 0, false, true⟩)], 1010⟩, none, fun _ =>
  (.exit 0, ⟨[(2, .ptr 1001 0), (4, .ptr 1002 0)], [(1001, ⟨.plain [.int .i64 0, .nils], 24, 0, false, true⟩), (1002, ⟨.plain [.vint .i64 2, (roC (canM L)).av], 24, 0, false, true⟩)], 1010⟩)⟩
theorem canG_end {M : List Con} {k : Nat} (h : ¬ 1 ≤ k) : canG M k = M := by
  have : k = 0 := by omega
  subst this; rfl
theorem canG_no {M : List Con} {k : Nat} (h : 1 ≤ k) (hs : ((at_ M k).sign == -1 && linkM M k) = false) : canG M (k - 1) = canG M k := by
  obtain ⟨j, rfl⟩ : ∃ j, k = j + 1 := ⟨k - 1, by omega⟩
  show canG M j = canG (canS M (j + 1)) j
  rw [canS, hs]; rfl
theorem canG_yes {M : List Con} {k : Nat} (h : 1 ≤ k) (hs : ((at_ M k).sign == -1 && linkM M k) = true) : canG (stepM M k) (k - 1) = canG M k := by
  obtain ⟨j, rfl⟩ : ∃ j, k = j + 1 := ⟨k - 1, by omega⟩
  show canG (stepM M (j + 1)) j = canG (canS M (j + 1)) j
  rw [canS, hs]; rfl

set_option maxRecDepth 100000 in
theorem can_loop (L : List Con) (hL : okL (fuseM L)) (hne : 0 < (fuseM L).length) : AnnOk Tryz.prog EV.ng (Nat.max 1 Tryz.f23.ntmps) (bodyAt Tryz.f23 [0, 1, 0, 1, 1, 1]) (canAnn L) := by
  refine ann_of evOk (callF_ok evOk (orcOf_ok entsK_ok) 8) none_ann (by kernel_rfl) (by kernel_rfl) (fun i : Nat × List Con => (fun (k : Nat) (M : List Con) => (⟨[(2, .ptr 1001 0), (4, .ptr 1002 0), (6, .vint .i64 (k : Int))], [(1001, ⟨.plain [.int .i64 0, .nils], 24, 0, false, true⟩), (1002, ⟨.plain [.vint .i64 2, (roC M).av], 24, 0, false, true⟩)], 1010⟩ : St)) i.1 i.2) (fun i : Nat × List Con => (fun (k : Nat) (M : List Con) => (k : Nat)) i.1 i.2) (fun (d : Bool) (i : Nat × List Con) => (fun (k : Nat) (M : List Con) => (okL M ∧ k < M.length ∧ canG M k = canM L : Prop)) i.1 i.2) ?_ ?_
  · intro d hd
    exact ⟨((fuseM L).length - 1, fuseM L), [IntKind.i64.wrap ((↑(fuseM L).length : Int) - (1 : Int)) = (↑((fuseM L).length - (1 : Nat)) : Int), (2 : Int) = (2 : Int), (fuseM L).length = (fuseM L).length ∧ (fun i => ((fuseM L).getD i Con.zero).rvs) = fun i => ((fuseM L).getD i Con.zero).rvs], by kernel_rfl, (by refine ⟨?_, ?_, (?_ : (fuseM L).length = (fuseM L).length ∧ (fun i => ((fuseM L).getD i Con.zero).rvs) = fun i => ((fuseM L).getD i Con.zero).rvs)⟩ <;> (first | rfl | exact ⟨rfl, rfl⟩ | (have := hL.1; rw [w64 (by omega) (by omega)]; omega))), (by exact ⟨hL, Nat.sub_lt hne (by decide), rfl⟩)⟩
  · rintro d hd ⟨k, M⟩ hI
    cases d
    · -- d = false
      exact Bool.noConfusion (show false = true from hd)
    · -- d = true
      obtain ⟨hM, hk, hc⟩ := hI
      have hl := hM.1
      have ek : IntKind.i64.wrap ((k : Int) - 1) = (k : Int) - 1 := w64 (by omega) (by omega)
      refine Or.elim (Bool.eq_false_or_eq_true (decide ((↑k : Int) ≥ (1 : Int)))) (fun d1 => Or.elim (Bool.eq_false_or_eq_true ((M.getD k Con.zero).sign == (-1 : Int))) (fun d2 => Or.elim (Bool.eq_false_or_eq_true (linkM (consR M.length fun i => (M.getD i Con.zero).rvs) k)) (fun d3 => ⟨[true, true, true], .inl ⟨(k - 1, canS M k), [IntKind.i64.wrap ((↑k : Int) - (1 : Int)) = (↑(k - (1 : Nat)) : Int), (2 : Int) = (2 : Int), (stepM (consR M.length fun i => (M.getD i Con.zero).rvs) k).length = (canS M k).length ∧ (fun i => ((stepM (consR M.length fun i => (M.getD i Con.zero).rvs) k).getD i Con.zero).rvs) = fun i => ((canS M k).getD i Con.zero).rvs, (∀ (i : Nat), i < M.length → (fun i => (M.getD i Con.zero).rvs) i = (Con.ofR ((fun i => (M.getD i Con.zero).rvs) i)).rvs) ∧ (2 : Int) = (2 : Int) ∧ okL (consR M.length fun i => (M.getD i Con.zero).rvs) ∧ (1 : Int) ≤ (↑k : Int) ∧ (↑k : Int) < (↑M.length : Int), Dec (linkM (consR M.length fun i => (M.getD i Con.zero).rvs) k) true, (∀ (i : Nat), i < M.length → (fun i => (M.getD i Con.zero).rvs) i = (Con.ofR ((fun i => (M.getD i Con.zero).rvs) i)).rvs) ∧ okL (consR M.length fun i => (M.getD i Con.zero).rvs) ∧ (1 : Int) ≤ (↑k : Int) ∧ (↑k : Int) < (↑M.length : Int), Dec ((M.getD k Con.zero).sign == (-1 : Int)) true, (0 : Int) ≤ (↑k : Int) ∧ (↑k : Int) < (↑M.length : Int), Dec (decide ((↑k : Int) ≥ (1 : Int))) true], by kernel_rfl, ⟨?_, ?_, ?_, ?_, d3, ?_, d2, ?_, d1⟩, MuG.out ?_, InG.out ?_⟩⟩)
           (fun d3 => ⟨[true, true, false], .inl ⟨(k - 1, canS M k), [IntKind.i64.wrap ((↑k : Int) - (1 : Int)) = (↑(k - (1 : Nat)) : Int), (2 : Int) = (2 : Int), M.length = (canS M k).length ∧ (fun i => (M.getD i Con.zero).rvs) = fun i => ((canS M k).getD i Con.zero).rvs, Dec (linkM (consR M.length fun i => (M.getD i Con.zero).rvs) k) false, (∀ (i : Nat), i < M.length → (fun i => (M.getD i Con.zero).rvs) i = (Con.ofR ((fun i => (M.getD i Con.zero).rvs) i)).rvs) ∧ okL (consR M.length fun i => (M.getD i Con.zero).rvs) ∧ (1 : Int) ≤ (↑k : Int) ∧ (↑k : Int) < (↑M.length : Int), Dec ((M.getD k Con.zero).sign == (-1 : Int)) true, (0 : Int) ≤ (↑k : Int) ∧ (↑k : Int) < (↑M.length : Int), Dec (decide ((↑k : Int) ≥ (1 : Int))) true], by kernel_rfl, ⟨?_, ?_, ?_, d3, ?_, d2, ?_, d1⟩, MuG.out ?_, InG.out ?_⟩⟩))
           (fun d2 => ⟨[true, false], .inl ⟨(k - 1, canS M k), [IntKind.i64.wrap ((↑k : Int) - (1 : Int)) = (↑(k - (1 : Nat)) : Int), (2 : Int) = (2 : Int), M.length = (canS M k).length ∧ (fun i => (M.getD i Con.zero).rvs) = fun i => ((canS M k).getD i Con.zero).rvs, Dec ((M.getD k Con.zero).sign == (-1 : Int)) false, (0 : Int) ≤ (↑k : Int) ∧ (↑k : Int) < (↑M.length : Int), Dec (decide ((↑k : Int) ≥ (1 : Int))) true], by kernel_rfl, ⟨?_, ?_, ?_, d2, ?_, d1⟩, MuG.out ?_, InG.out ?_⟩⟩))
           (fun d1 => ⟨[false], .inr ⟨[(2 : Int) = (2 : Int), M.length = (canM L).length ∧ (fun i => (M.getD i Con.zero).rvs) = fun i => ((canM L).getD i Con.zero).rvs, Dec (decide ((↑k : Int) ≥ (1 : Int))) false], by kernel_rfl, ⟨?_, ?_, d1⟩, rfl⟩⟩)
      all_goals first | (refine MuG.mk ?_; (simp only [decide_eq_true_eq, ge_iff_le] at *; show k - 1 < k; omega)) | (refine InG.mk ?_; (simp only [decide_eq_true_eq, ge_iff_le] at *; refine ⟨canS_ok hM hk, by rw [canS_len]; omega, ?_⟩; rw [← hc]; unfold canS; cases hs : ((at_ M k).sign == -1 && linkM M k) with | true => exact canG_yes (by omega) hs | false => exact canG_no (by omega) hs)) | (refine CtG.mk ?_; (simp_all)) | (first | (with_reducible rfl) | exact ⟨rfl, rfl⟩ | ((try simp only [ek, consR_ro, Int.toNat_natCast, decide_eq_true_eq, decide_eq_false_iff_not, ge_iff_le] at *) <;> first | omega | rfl | exact ⟨fun _ _ => rfl, hM, by omega, by omega⟩ | exact ⟨fun _ _ => rfl, by trivial, hM, by omega, by omega⟩ | (rw [canS, show ((at_ M k).sign == -1 && linkM M k) = true from by simp_all [at_]]; exact ⟨rfl, rfl⟩) | (rw [canS, show ((at_ M k).sign == -1 && linkM M k) = false from by simp_all [at_]]; exact ⟨rfl, rfl⟩) | (rw [← hc, canG_end (by omega)]; exact ⟨rfl, rfl⟩)))
set_option maxRecDepth 100000 in
theorem can_yes (L : List Con) (hL : okL L) (hv : val2M 2 L = true) (hne : 0 < L.length) : PureC Tryz.prog [] 23 [.agg [.int .i64 2, roC L]] (.tup [.agg [.int .i64 2, roC (canM L)], .bool true]) := by
  have rr := fun (tp : List Bool) (ms : List Prop) h hm => pure_run evOk (callF_ok evOk (orcOf_ok entsK_ok) 8) Tryz.func23 (A := [.agg [.int .i64 2, roC L]]) (N := Nat.max 1 Tryz.f23.ntmps) rfl (one_ann (can_loop L (fuseM_ok hL) (by rw [fuseM_len]; exact hne))) rfl rfl evNg (tabs := []) (R := .tup [.agg [.int .i64 2, roC (canM L)], .bool true]) (tp := tp) (ms := ms) h hm
  refine rr [false] [(2 : Int) = (2 : Int), (canM L).length = (canM L).length ∧ (fun i => ((canM L).getD i Con.zero).rvs) = fun i => ((canM L).getD i Con.zero).rvs, true = true, IntKind.i64.wrap ((↑(fuseM (consR L.length fun i => (L.getD i Con.zero).rvs)).length : Int) - (1 : Int)) = IntKind.i64.wrap ((↑(fuseM L).length : Int) - (1 : Int)), (2 : Int) = (2 : Int), (fuseM (consR L.length fun i => (L.getD i Con.zero).rvs)).length = (fuseM L).length ∧ (fun i => ((fuseM (consR L.length fun i => (L.getD i Con.zero).rvs)).getD i Con.zero).rvs) = fun i => ((fuseM L).getD i Con.zero).rvs, Dec (!true) false, (∀ (i : Nat), i < L.length → (fun i => (L.getD i Con.zero).rvs) i = (Con.ofR ((fun i => (L.getD i Con.zero).rvs) i)).rvs) ∧ (2 : Int) = (2 : Int) ∧ okL (consR L.length fun i => (L.getD i Con.zero).rvs) ∧ val2M (2 : Int) (consR L.length fun i => (L.getD i Con.zero).rvs) = true ∧ (0 : Nat) < L.length] (by kernel_rfl) ⟨?_, ?_, ?_, ?_, ?_, ?_, (dN rfl), (?_ : (∀ (i : Nat), i < L.length → (fun i => (L.getD i Con.zero).rvs) i = (Con.ofR ((fun i => (L.getD i Con.zero).rvs) i)).rvs) ∧ (2 : Int) = (2 : Int) ∧ okL (consR L.length fun i => (L.getD i Con.zero).rvs) ∧ val2M (2 : Int) (consR L.length fun i => (L.getD i Con.zero).rvs) = true ∧ (0 : Nat) < L.length)⟩
  all_goals first | (first | (with_reducible rfl) | exact ⟨rfl, rfl⟩ | exact ⟨fun _ _ => rfl, rfl, by rw [consR_ro]; exact hL, by rw [consR_ro]; exact hv, hne⟩ | (rw [consR_ro]; first | done | rfl | exact ⟨rfl, rfl⟩))
end Go.Proofs.YtcfdaddablojlaaGreatDoor.S

/- (quadformscene.Symbol).Any and quadformscene.Bent. -/
set_option linter.unusedSimpArgs false
set_option linter.unusedVariables false
namespace Go.Proofs.YtcfdaddablojlaaGreatDoor.S
open Go.QfSy Go.RowKit

noncomputable def entsA : List OEnt := [
  ⟨59, [], fun A => match A with
    | [.agg [.int .u8 pr, .sl n 5 row], .int .i64 most, .bool two] => some (roC (listV most two (prtR n row)), [(∀ i, i < n → row i = (Prt.ofR (row i)).rvs) ∧ (∀ p ∈ prtR n row, p.ok) ∧ 1 ≤ most ∧ most ≤ 100 ∧ n ≤ 1000])
    | _ => none⟩,
  ⟨86, [], fun A => match A with
    | [.int .u8 k] => some (.int .i64 (Q.oddPr k), [0 ≤ k ∧ k ≤ 255])
    | _ => none⟩,
  ⟨20, [], fun A => match A with
    | [.agg [.int .i64 p, .sl n 5 row]] => some (.tup [.agg [.int .i64 2, roC (fuseM (consR n row))], .bool true], [(∀ i, i < n → row i = (Con.ofR (row i)).rvs) ∧ p = 2 ∧ val2M 2 (consR n row) = true])
    | _ => none⟩,
  ⟨23, [], fun A => match A with
    | [.agg [.int .i64 p, .sl n 5 row]] => some (.tup [.agg [.int .i64 2, roC (canM (consR n row))], .bool true], [(∀ i, i < n → row i = (Con.ofR (row i)).rvs) ∧ p = 2 ∧ val2M 2 (consR n row) = true])
    | _ => none⟩]
theorem entsA_ok : ∀ e ∈ entsA, EntOk Tryz.prog e := by
  intro e he
  simp only [entsA, List.mem_cons, List.not_mem_nil, or_false] at he
  rcases he with rfl | rfl | rfl | rfl
  all_goals
    intro A R ms h hm
    simp only at h
    split at h
    all_goals first | (cases h; done) | cases h
  · obtain ⟨h1, h2, h3, h4, h5⟩ := all_one hm
    exact list_rows h1 h2 h3 h4 h5
  · obtain ⟨h1, h2⟩ := all_one hm
    exact oddPrime_pure _ h1 h2
  · obtain ⟨h1, h2, h3⟩ := all_one hm
    subst h2
    obtain ⟨a, b, c, d⟩ := val2_ok h3
    exact PureC.imp (fuse_yes _ a h3 c) (.cons (.agg (.cons .same (.cons (.con h1) .nil))) .nil)
  · obtain ⟨h1, h2, h3⟩ := all_one hm
    subst h2
    obtain ⟨a, b, c, d⟩ := val2_ok h3
    exact PureC.imp (can_yes _ a h3 c) (.cons (.agg (.cons .same (.cons (.con h1) .nil))) .nil)

noncomputable def anyP (pr : Int) : Int := bif decide (pr % 8 < 3) then Q.oddPr pr else 2
noncomputable def anyL (pr : Int) (X : List Prt) (most : Int) : List Con := bif decide (pr % 8 < 3) then listV most false X else bif decide (pr % 8 < 5) then listV most true X else bif pr % 8 == 5 then fuseM (listV most true X) else canM (listV most true X)

theorem anyP_1 {pr : Int} (h : pr % 8 < 3) : anyP pr = Q.oddPr pr := by unfold anyP; rw [decide_eq_true h]; rfl
theorem anyP_2 {pr : Int} (h : ¬ pr % 8 < 3) : anyP pr = 2 := by unfold anyP; rw [decide_eq_false h]; rfl
theorem anyL_1 {pr : Int} {X : List Prt} {most : Int} (h : pr % 8 < 3) : anyL pr X most = listV most false X := by unfold anyL; rw [decide_eq_true h]; rfl
theorem anyL_2 {pr : Int} {X : List Prt} {most : Int} (h : ¬ pr % 8 < 3) (h2 : pr % 8 < 5) : anyL pr X most = listV most true X := by unfold anyL; rw [decide_eq_false h, decide_eq_true h2]; rfl
theorem anyL_3 {pr : Int} {X : List Prt} {most : Int} (h : pr % 8 = 5) : anyL pr X most = fuseM (listV most true X) := by unfold anyL; rw [decide_eq_false (by omega), decide_eq_false (by omega), h]; rfl
theorem anyL_4 {pr : Int} {X : List Prt} {most : Int} (h : ¬ pr % 8 < 5) (h2 : ¬ pr % 8 = 5) : anyL pr X most = canM (listV most true X) := by unfold anyL; rw [decide_eq_false (by omega), decide_eq_false h, beq_eq_false_iff_ne.2 h2]; rfl

set_option maxRecDepth 100000 in
theorem any_pure (pr : Int) (X : List Prt) (most : Int) (hp : U8 pr) (hX : ∀ p ∈ X, p.ok) (hn : X.length ≤ 900) (hm1 : 1 ≤ most) (hm2 : most ≤ 8) : PureC Tryz.prog [] 46 [.agg [.int .u8 pr, roP X], .int .i64 most] (.agg [.int .i64 (anyP pr), roC (anyL pr X most)]) := by
  obtain ⟨p1, p2⟩ := hp; have et : pr.tmod 8 = pr % 8 := Int.tmod_eq_emod_of_nonneg p1; have hv := val2_listV hm1 hm2 hX; have hl := listV_len (most := most) (two := true) (X := X)
  have rr := fun (tp : List Bool) (ms : List Prop) h hm => pure_run evOk (callF_ok evOk (orcOf_ok entsA_ok) 8) Tryz.func46 (A := [.agg [.int .u8 pr, roP X], .int .i64 most]) rfl none_ann rfl rfl evNg (tabs := []) (R := .agg [.int .i64 (anyP pr), roC (anyL pr X most)]) (tp := tp) (ms := ms) h hm
  refine Or.elim (Bool.eq_false_or_eq_true (pr.tmod (8 : Int) == (0 : Int))) (fun d1 => rr [true, true] [Q.oddPr pr = anyP pr, (listV most false (prtR X.length fun i => (X.getD i Prt.zero).rvs)).length = (anyL pr X most).length ∧ (fun i => ((listV most false (prtR X.length fun i => (X.getD i Prt.zero).rvs)).getD i Con.zero).rvs) = fun i => ((anyL pr X most).getD i Con.zero).rvs, (∀ (i : Nat), i < X.length → (fun i => (X.getD i Prt.zero).rvs) i = (Prt.ofR ((fun i => (X.getD i Prt.zero).rvs) i)).rvs) ∧ (∀ (p : Prt), (p ∈ prtR X.length fun i => (X.getD i Prt.zero).rvs) → p.ok) ∧ (1 : Int) ≤ most ∧ most ≤ (100 : Int) ∧ X.length ≤ (1000 : Nat), pr = pr, X.length = X.length ∧ (fun i => (X.getD i Prt.zero).rvs) = fun i => (X.getD i Prt.zero).rvs, (0 : Int) ≤ pr ∧ pr ≤ (255 : Int), Dec (pr.tmod (8 : Int) == (0 : Int)) true, Dec (pr.tmod (8 : Int) == (0 : Int)) true, (8 : Int) ≠ (0 : Int)] (by kernel_rfl) ⟨?_, ?_, ?_, ?_, ?_, ?_, d1, d1, (?_ : (8 : Int) ≠ (0 : Int))⟩)
           (fun d1 => Or.elim (Bool.eq_false_or_eq_true (pr.tmod (8 : Int) == (1 : Int))) (fun d2 => rr [false, true, true] [Q.oddPr pr = anyP pr, (listV most false (prtR X.length fun i => (X.getD i Prt.zero).rvs)).length = (anyL pr X most).length ∧ (fun i => ((listV most false (prtR X.length fun i => (X.getD i Prt.zero).rvs)).getD i Con.zero).rvs) = fun i => ((anyL pr X most).getD i Con.zero).rvs, (∀ (i : Nat), i < X.length → (fun i => (X.getD i Prt.zero).rvs) i = (Prt.ofR ((fun i => (X.getD i Prt.zero).rvs) i)).rvs) ∧ (∀ (p : Prt), (p ∈ prtR X.length fun i => (X.getD i Prt.zero).rvs) → p.ok) ∧ (1 : Int) ≤ most ∧ most ≤ (100 : Int) ∧ X.length ≤ (1000 : Nat), pr = pr, X.length = X.length ∧ (fun i => (X.getD i Prt.zero).rvs) = fun i => (X.getD i Prt.zero).rvs, (0 : Int) ≤ pr ∧ pr ≤ (255 : Int), Dec (pr.tmod (8 : Int) == (1 : Int)) true, Dec (pr.tmod (8 : Int) == (1 : Int)) true, Dec (pr.tmod (8 : Int) == (0 : Int)) false, (8 : Int) ≠ (0 : Int)] (by kernel_rfl) ⟨?_, ?_, ?_, ?_, ?_, ?_, d2, d2, d1, (?_ : (8 : Int) ≠ (0 : Int))⟩)
           (fun d2 => Or.elim (Bool.eq_false_or_eq_true (pr.tmod (8 : Int) == (2 : Int))) (fun d3 => rr [false, false, true] [Q.oddPr pr = anyP pr, (listV most false (prtR X.length fun i => (X.getD i Prt.zero).rvs)).length = (anyL pr X most).length ∧ (fun i => ((listV most false (prtR X.length fun i => (X.getD i Prt.zero).rvs)).getD i Con.zero).rvs) = fun i => ((anyL pr X most).getD i Con.zero).rvs, (∀ (i : Nat), i < X.length → (fun i => (X.getD i Prt.zero).rvs) i = (Prt.ofR ((fun i => (X.getD i Prt.zero).rvs) i)).rvs) ∧ (∀ (p : Prt), (p ∈ prtR X.length fun i => (X.getD i Prt.zero).rvs) → p.ok) ∧ (1 : Int) ≤ most ∧ most ≤ (100 : Int) ∧ X.length ≤ (1000 : Nat), pr = pr, X.length = X.length ∧ (fun i => (X.getD i Prt.zero).rvs) = fun i => (X.getD i Prt.zero).rvs, (0 : Int) ≤ pr ∧ pr ≤ (255 : Int), Dec (pr.tmod (8 : Int) == (2 : Int)) true, Dec (pr.tmod (8 : Int) == (1 : Int)) false, Dec (pr.tmod (8 : Int) == (0 : Int)) false, (8 : Int) ≠ (0 : Int)] (by kernel_rfl) ⟨?_, ?_, ?_, ?_, ?_, ?_, d3, d2, d1, (?_ : (8 : Int) ≠ (0 : Int))⟩)
           (fun d3 => Or.elim (Bool.eq_false_or_eq_true (pr.tmod (8 : Int) == (3 : Int))) (fun d4 => rr [false, false, false, true, true] [(2 : Int) = anyP pr, (listV most true (prtR X.length fun i => (X.getD i Prt.zero).rvs)).length = (anyL pr X most).length ∧ (fun i => ((listV most true (prtR X.length fun i => (X.getD i Prt.zero).rvs)).getD i Con.zero).rvs) = fun i => ((anyL pr X most).getD i Con.zero).rvs, (∀ (i : Nat), i < X.length → (fun i => (X.getD i Prt.zero).rvs) i = (Prt.ofR ((fun i => (X.getD i Prt.zero).rvs) i)).rvs) ∧ (∀ (p : Prt), (p ∈ prtR X.length fun i => (X.getD i Prt.zero).rvs) → p.ok) ∧ (1 : Int) ≤ most ∧ most ≤ (100 : Int) ∧ X.length ≤ (1000 : Nat), Dec (pr.tmod (8 : Int) == (3 : Int)) true, Dec (pr.tmod (8 : Int) == (3 : Int)) true, Dec (pr.tmod (8 : Int) == (2 : Int)) false, Dec (pr.tmod (8 : Int) == (1 : Int)) false, Dec (pr.tmod (8 : Int) == (0 : Int)) false, (8 : Int) ≠ (0 : Int)] (by kernel_rfl) ⟨?_, ?_, ?_, d4, d4, d3, d2, d1, (?_ : (8 : Int) ≠ (0 : Int))⟩)
           (fun d4 => Or.elim (Bool.eq_false_or_eq_true (pr.tmod (8 : Int) == (4 : Int))) (fun d5 => rr [false, false, false, false, true] [(2 : Int) = anyP pr, (listV most true (prtR X.length fun i => (X.getD i Prt.zero).rvs)).length = (anyL pr X most).length ∧ (fun i => ((listV most true (prtR X.length fun i => (X.getD i Prt.zero).rvs)).getD i Con.zero).rvs) = fun i => ((anyL pr X most).getD i Con.zero).rvs, (∀ (i : Nat), i < X.length → (fun i => (X.getD i Prt.zero).rvs) i = (Prt.ofR ((fun i => (X.getD i Prt.zero).rvs) i)).rvs) ∧ (∀ (p : Prt), (p ∈ prtR X.length fun i => (X.getD i Prt.zero).rvs) → p.ok) ∧ (1 : Int) ≤ most ∧ most ≤ (100 : Int) ∧ X.length ≤ (1000 : Nat), Dec (pr.tmod (8 : Int) == (4 : Int)) true, Dec (pr.tmod (8 : Int) == (3 : Int)) false, Dec (pr.tmod (8 : Int) == (2 : Int)) false, Dec (pr.tmod (8 : Int) == (1 : Int)) false, Dec (pr.tmod (8 : Int) == (0 : Int)) false, (8 : Int) ≠ (0 : Int)] (by kernel_rfl) ⟨?_, ?_, ?_, d5, d4, d3, d2, d1, (?_ : (8 : Int) ≠ (0 : Int))⟩)
           (fun d5 => Or.elim (Bool.eq_false_or_eq_true (pr.tmod (8 : Int) == (5 : Int))) (fun d6 => rr [false, false, false, false, false, true] [(2 : Int) = anyP pr, (fuseM (consR (listV most true (prtR X.length fun i => (X.getD i Prt.zero).rvs)).length fun i => ((listV most true (prtR X.length fun i => (X.getD i Prt.zero).rvs)).getD i Con.zero).rvs)).length = (anyL pr X most).length ∧ (fun i => ((fuseM (consR (listV most true (prtR X.length fun i => (X.getD i Prt.zero).rvs)).length fun i => ((listV most true (prtR X.length fun i => (X.getD i Prt.zero).rvs)).getD i Con.zero).rvs)).getD i Con.zero).rvs) = fun i => ((anyL pr X most).getD i Con.zero).rvs, (∀ (i : Nat), i < (listV most true (prtR X.length fun i => (X.getD i Prt.zero).rvs)).length → (fun i => ((listV most true (prtR X.length fun i => (X.getD i Prt.zero).rvs)).getD i Con.zero).rvs) i = (Con.ofR ((fun i => ((listV most true (prtR X.length fun i => (X.getD i Prt.zero).rvs)).getD i Con.zero).rvs) i)).rvs) ∧ (2 : Int) = (2 : Int) ∧ val2M (2 : Int) (consR (listV most true (prtR X.length fun i => (X.getD i Prt.zero).rvs)).length fun i => ((listV most true (prtR X.length fun i => (X.getD i Prt.zero).rvs)).getD i Con.zero).rvs) = true, (∀ (i : Nat), i < X.length → (fun i => (X.getD i Prt.zero).rvs) i = (Prt.ofR ((fun i => (X.getD i Prt.zero).rvs) i)).rvs) ∧ (∀ (p : Prt), (p ∈ prtR X.length fun i => (X.getD i Prt.zero).rvs) → p.ok) ∧ (1 : Int) ≤ most ∧ most ≤ (100 : Int) ∧ X.length ≤ (1000 : Nat), Dec (pr.tmod (8 : Int) == (5 : Int)) true, Dec (pr.tmod (8 : Int) == (4 : Int)) false, Dec (pr.tmod (8 : Int) == (3 : Int)) false, Dec (pr.tmod (8 : Int) == (2 : Int)) false, Dec (pr.tmod (8 : Int) == (1 : Int)) false, Dec (pr.tmod (8 : Int) == (0 : Int)) false, (8 : Int) ≠ (0 : Int)] (by kernel_rfl) ⟨?_, ?_, ?_, ?_, d6, d5, d4, d3, d2, d1, (?_ : (8 : Int) ≠ (0 : Int))⟩)
           (fun d6 => rr [false, false, false, false, false, false] [(2 : Int) = anyP pr, (canM (consR (listV most true (prtR X.length fun i => (X.getD i Prt.zero).rvs)).length fun i => ((listV most true (prtR X.length fun i => (X.getD i Prt.zero).rvs)).getD i Con.zero).rvs)).length = (anyL pr X most).length ∧ (fun i => ((canM (consR (listV most true (prtR X.length fun i => (X.getD i Prt.zero).rvs)).length fun i => ((listV most true (prtR X.length fun i => (X.getD i Prt.zero).rvs)).getD i Con.zero).rvs)).getD i Con.zero).rvs) = fun i => ((anyL pr X most).getD i Con.zero).rvs, (∀ (i : Nat), i < (listV most true (prtR X.length fun i => (X.getD i Prt.zero).rvs)).length → (fun i => ((listV most true (prtR X.length fun i => (X.getD i Prt.zero).rvs)).getD i Con.zero).rvs) i = (Con.ofR ((fun i => ((listV most true (prtR X.length fun i => (X.getD i Prt.zero).rvs)).getD i Con.zero).rvs) i)).rvs) ∧ (2 : Int) = (2 : Int) ∧ val2M (2 : Int) (consR (listV most true (prtR X.length fun i => (X.getD i Prt.zero).rvs)).length fun i => ((listV most true (prtR X.length fun i => (X.getD i Prt.zero).rvs)).getD i Con.zero).rvs) = true, (∀ (i : Nat), i < X.length → (fun i => (X.getD i Prt.zero).rvs) i = (Prt.ofR ((fun i => (X.getD i Prt.zero).rvs) i)).rvs) ∧ (∀ (p : Prt), (p ∈ prtR X.length fun i => (X.getD i Prt.zero).rvs) → p.ok) ∧ (1 : Int) ≤ most ∧ most ≤ (100 : Int) ∧ X.length ≤ (1000 : Nat), Dec (pr.tmod (8 : Int) == (5 : Int)) false, Dec (pr.tmod (8 : Int) == (4 : Int)) false, Dec (pr.tmod (8 : Int) == (3 : Int)) false, Dec (pr.tmod (8 : Int) == (2 : Int)) false, Dec (pr.tmod (8 : Int) == (1 : Int)) false, Dec (pr.tmod (8 : Int) == (0 : Int)) false, (8 : Int) ≠ (0 : Int)] (by kernel_rfl) ⟨?_, ?_, ?_, ?_, d6, d5, d4, d3, d2, d1, (?_ : (8 : Int) ≠ (0 : Int))⟩))))))
  all_goals first | (first | (with_reducible rfl) | (with_reducible exact ⟨rfl, rfl⟩) | exact ⟨p1, p2⟩ | (exact (by decide : (8 : Int) ≠ 0)) | exact ⟨fun _ _ => rfl, by rw [prtR_ro]; exact hX, hm1, by omega, by omega⟩ | exact ⟨fun _ _ => rfl, rfl, by rw [consR_ro, prtR_ro]; exact hv⟩ | (simp only [et, prtR_ro, consR_ro, beq_iff_eq, beq_eq_false_iff_ne, ne_eq] at * <;> first | (rw [anyP_1 (by omega)]; done) | (rw [anyP_2 (by omega)]; done) | (rw [anyL_1 (by omega)]; exact ⟨rfl, rfl⟩) | (rw [anyL_2 (by omega) (by omega)]; exact ⟨rfl, rfl⟩) | (rw [anyL_3 (by omega)]; exact ⟨rfl, rfl⟩) | (rw [anyL_4 (by omega) (by omega)]; exact ⟨rfl, rfl⟩)))
noncomputable def bentI (L : List Con) (a : Int) : Nat := ((IntKind.i64.wrap a).tmod (L.length : Int)).toNat
noncomputable def bentP (p : Int) (L : List Con) (f n : Int) : Int := bif decide (0 < L.length) && (f % 8 == 6) then IntKind.i64.wrap (p + IntKind.i64.wrap (n.tmod 2)) else p
noncomputable def bentL (L : List Con) (a f n : Int) : List Con :=
  bif f % 8 == 0 then updE L (bentI L a) (IntKind.i64.wrap ((L.getD (bentI L a) Con.zero).exp + IntKind.i64.wrap (n.tmod 3)))
  else bif f % 8 == 1 then updD L (bentI L a) (IntKind.i64.wrap ((L.getD (bentI L a) Con.zero).dim + IntKind.i64.wrap (n.tmod 3)))
  else bif f % 8 == 2 then updS L (bentI L a) (IntKind.i64.wrap (n.tmod 3))
  else bif f % 8 == 3 then updO L (bentI L a) (!(L.getD (bentI L a) Con.zero).odd)
  else bif decide (f % 8 < 6) then updT L (bentI L a) (IntKind.i64.wrap ((L.getD (bentI L a) Con.zero).oddity + IntKind.i64.wrap (n.tmod 9)))
  else L
theorem bentL_len {L : List Con} {a f n : Int} : (bentL L a f n).length = L.length := by
  unfold bentL
  cases f % 8 == 0
  · cases f % 8 == 1
    · cases f % 8 == 2
      · cases f % 8 == 3
        · cases decide (f % 8 < 6) <;> simp [updT]
        · simp [updO]
      · simp [updS]
    · simp [updD]
  · simp [updE]
theorem bent_0 {L : List Con} {a f n : Int} (h : f % 8 = 0) : bentL L a f n = updE L (bentI L a) (IntKind.i64.wrap ((L.getD (bentI L a) Con.zero).exp + IntKind.i64.wrap (n.tmod 3))) := by unfold bentL; rw [h]; rfl
theorem bent_1 {L : List Con} {a f n : Int} (h : f % 8 = 1) : bentL L a f n = updD L (bentI L a) (IntKind.i64.wrap ((L.getD (bentI L a) Con.zero).dim + IntKind.i64.wrap (n.tmod 3))) := by unfold bentL; rw [h]; rfl
theorem bent_2 {L : List Con} {a f n : Int} (h : f % 8 = 2) : bentL L a f n = updS L (bentI L a) (IntKind.i64.wrap (n.tmod 3)) := by unfold bentL; rw [h]; rfl
theorem bent_3 {L : List Con} {a f n : Int} (h : f % 8 = 3) : bentL L a f n = updO L (bentI L a) (!(L.getD (bentI L a) Con.zero).odd) := by unfold bentL; rw [h]; rfl
theorem bent_4 {L : List Con} {a f n : Int} (h : f % 8 = 4 ∨ f % 8 = 5) : bentL L a f n = updT L (bentI L a) (IntKind.i64.wrap ((L.getD (bentI L a) Con.zero).oddity + IntKind.i64.wrap (n.tmod 9))) := by unfold bentL; rcases h with h | h <;> (rw [h]; rfl)
theorem bent_6 {L : List Con} {a f n : Int} (h : ¬ f % 8 < 6) : bentL L a f n = L := by
  unfold bentL
  rw [beq_eq_false_iff_ne.2 (by omega), beq_eq_false_iff_ne.2 (by omega), beq_eq_false_iff_ne.2 (by omega), beq_eq_false_iff_ne.2 (by omega), decide_eq_false h]; rfl
theorem bentP_y {p f n : Int} {L : List Con} (h : 0 < L.length) (h6 : f % 8 = 6) : bentP p L f n = IntKind.i64.wrap (p + IntKind.i64.wrap (n.tmod 2)) := by unfold bentP; rw [decide_eq_true h, h6]; rfl
theorem bentP_n {p f n : Int} {L : List Con} (h6 : ¬ f % 8 = 6) : bentP p L f n = p := by unfold bentP; rw [beq_eq_false_iff_ne.2 h6, Bool.and_false]; rfl
theorem bentP_0 {p f n : Int} {L : List Con} (h : ¬ 0 < L.length) : bentP p L f n = p := by unfold bentP; rw [decide_eq_false h]; rfl
theorem bentI_b {L : List Con} {a : Int} (ha : U8 a) (h : 0 < L.length) : 0 ≤ (IntKind.i64.wrap a).tmod (L.length : Int) ∧ (IntKind.i64.wrap a).tmod (L.length : Int) < (L.length : Int) := by
  obtain ⟨h1, h2⟩ := ha
  rw [w64 (by omega) (by omega), Int.tmod_eq_emod_of_nonneg h1]
  exact ⟨Int.emod_nonneg _ (by omega), Int.emod_lt_of_pos _ (by omega)⟩

set_option maxHeartbeats 2000000 in
set_option maxRecDepth 100000 in
theorem bent_pure (p : Int) (L : List Con) (a f n : Int) (hn : L.length ≤ 1000) (ha : U8 a) (hf : U8 f) : PureC Tryz.prog [] 45 [.agg [.int .i64 p, roC L], .int .u8 a, .int .u8 f, .int .i8 n] (.agg [.int .i64 (bentP p L f n), roC (bentL L a f n)]) := by
  have ft : f.tmod 8 = f % 8 := Int.tmod_eq_emod_of_nonneg hf.1; have f7 : 0 ≤ f % 8 ∧ f % 8 < 8 := (by omega); have hb := bentI_b (L := L) ha; have lE : ∀ v, (updE L (bentI L a) v).length = L.length := (fun v => by simp [updE]); have lD : ∀ v, (updD L (bentI L a) v).length = L.length := (fun v => by simp [updD]); have lS : ∀ v, (updS L (bentI L a) v).length = L.length := (fun v => by simp [updS]); have lO : ∀ v, (updO L (bentI L a) v).length = L.length := (fun v => by simp [updO]); have lT : ∀ v, (updT L (bentI L a) v).length = L.length := (fun v => by simp [updT])
  have rr := fun (tp : List Bool) (ms : List Prop) h hm => pure_run evOk (callF_ok evOk (noOrc_ok _ _) 8) Tryz.func45 (A := [.agg [.int .i64 p, roC L], .int .u8 a, .int .u8 f, .int .i8 n]) rfl none_ann rfl rfl evNg (tabs := []) (R := .agg [.int .i64 (bentP p L f n), roC (bentL L a f n)]) (tp := tp) (ms := ms) h hm
  refine Or.elim (Bool.eq_false_or_eq_true (L.length.beq (0 : Nat))) (fun d1 => rr [true] [p = bentP p L f n, (bentL L a f n).length = (0 : Nat), p = p, ∀ (i : Nat), i < L.length → (fun i => (L.getD i Con.zero).rvs) i = (Con.ofR ((fun i => (L.getD i Con.zero).rvs) i)).rvs, Dec (L.length.beq (0 : Nat)) true] (by kernel_rfl) ⟨?_, ?_, ?_, ?_, d1⟩)
           (fun d1 => Or.elim (Bool.eq_false_or_eq_true ((↑L.length : Int) == (0 : Int))) (fun d2 => rr [false, true] [p = bentP p L f n, L.length = (bentL L a f n).length ∧ L.length = (consR L.length fun i => (L.getD i Con.zero).rvs).length ∧ ∀ (i : Nat), i < L.length → (fun i => ((bentL L a f n).getD i Con.zero).rvs) i = ((consR L.length fun i => (L.getD i Con.zero).rvs).getD i Con.zero).rvs, Dec ((↑L.length : Int) == (0 : Int)) true, p = p, (0 : Nat) < L.length ∧ L.length ≤ (1000000 : Nat), ∀ (i : Nat), i < L.length → (fun i => (L.getD i Con.zero).rvs) i = (Con.ofR ((fun i => (L.getD i Con.zero).rvs) i)).rvs, Dec (L.length.beq (0 : Nat)) false] (by kernel_rfl) ⟨?_, ?_, d2, ?_, ?_, ?_, d1⟩)
           (fun d2 => Or.elim (Bool.eq_false_or_eq_true (f.tmod (8 : Int) == (0 : Int))) (fun d3 => rr [false, false, true] [p = bentP p L f n, L.length = (bentL L a f n).length ∧ L.length = (updE (consR L.length fun i => (L.getD i Con.zero).rvs) ((IntKind.i64.wrap a).tmod (↑L.length : Int)).toNat (IntKind.i64.wrap (((consR L.length fun i => (L.getD i Con.zero).rvs).getD ((IntKind.i64.wrap a).tmod (↑L.length : Int)).toNat Con.zero).exp + IntKind.i64.wrap (n.tmod (3 : Int))))).length ∧ ∀ (i : Nat), i < L.length → (fun i => ((bentL L a f n).getD i Con.zero).rvs) i = ((updE (consR L.length fun i => (L.getD i Con.zero).rvs) ((IntKind.i64.wrap a).tmod (↑L.length : Int)).toNat (IntKind.i64.wrap (((consR L.length fun i => (L.getD i Con.zero).rvs).getD ((IntKind.i64.wrap a).tmod (↑L.length : Int)).toNat Con.zero).exp + IntKind.i64.wrap (n.tmod (3 : Int))))).getD i Con.zero).rvs, ((IntKind.i64.wrap a).tmod (↑L.length : Int)).toNat < (consR L.length fun i => (L.getD i Con.zero).rvs).length, (3 : Int) ≠ (0 : Int), ((IntKind.i64.wrap a).tmod (↑L.length : Int)).toNat < (consR L.length fun i => (L.getD i Con.zero).rvs).length, Dec (f.tmod (8 : Int) == (0 : Int)) true, (8 : Int) ≠ (0 : Int), (0 : Int) ≤ (IntKind.i64.wrap a).tmod (↑L.length : Int) ∧ (IntKind.i64.wrap a).tmod (↑L.length : Int) < (↑L.length : Int), (↑L.length : Int) ≠ (0 : Int), Dec ((↑L.length : Int) == (0 : Int)) false, p = p, (0 : Nat) < L.length ∧ L.length ≤ (1000000 : Nat), ∀ (i : Nat), i < L.length → (fun i => (L.getD i Con.zero).rvs) i = (Con.ofR ((fun i => (L.getD i Con.zero).rvs) i)).rvs, Dec (L.length.beq (0 : Nat)) false] (by kernel_rfl) ⟨?_, ?_, ?_, ?_, ?_, d3, ?_, ?_, ?_, d2, ?_, ?_, ?_, d1⟩)
           (fun d3 => Or.elim (Bool.eq_false_or_eq_true (f.tmod (8 : Int) == (1 : Int))) (fun d4 => rr [false, false, false, true] [p = bentP p L f n, L.length = (bentL L a f n).length ∧ L.length = (updD (consR L.length fun i => (L.getD i Con.zero).rvs) ((IntKind.i64.wrap a).tmod (↑L.length : Int)).toNat (IntKind.i64.wrap (((consR L.length fun i => (L.getD i Con.zero).rvs).getD ((IntKind.i64.wrap a).tmod (↑L.length : Int)).toNat Con.zero).dim + IntKind.i64.wrap (n.tmod (3 : Int))))).length ∧ ∀ (i : Nat), i < L.length → (fun i => ((bentL L a f n).getD i Con.zero).rvs) i = ((updD (consR L.length fun i => (L.getD i Con.zero).rvs) ((IntKind.i64.wrap a).tmod (↑L.length : Int)).toNat (IntKind.i64.wrap (((consR L.length fun i => (L.getD i Con.zero).rvs).getD ((IntKind.i64.wrap a).tmod (↑L.length : Int)).toNat Con.zero).dim + IntKind.i64.wrap (n.tmod (3 : Int))))).getD i Con.zero).rvs, ((IntKind.i64.wrap a).tmod (↑L.length : Int)).toNat < (consR L.length fun i => (L.getD i Con.zero).rvs).length, (3 : Int) ≠ (0 : Int), ((IntKind.i64.wrap a).tmod (↑L.length : Int)).toNat < (consR L.length fun i => (L.getD i Con.zero).rvs).length, Dec (f.tmod (8 : Int) == (1 : Int)) true, Dec (f.tmod (8 : Int) == (0 : Int)) false, (8 : Int) ≠ (0 : Int), (0 : Int) ≤ (IntKind.i64.wrap a).tmod (↑L.length : Int) ∧ (IntKind.i64.wrap a).tmod (↑L.length : Int) < (↑L.length : Int), (↑L.length : Int) ≠ (0 : Int), Dec ((↑L.length : Int) == (0 : Int)) false, p = p, (0 : Nat) < L.length ∧ L.length ≤ (1000000 : Nat), ∀ (i : Nat), i < L.length → (fun i => (L.getD i Con.zero).rvs) i = (Con.ofR ((fun i => (L.getD i Con.zero).rvs) i)).rvs, Dec (L.length.beq (0 : Nat)) false] (by kernel_rfl) ⟨?_, ?_, ?_, ?_, ?_, d4, d3, ?_, ?_, ?_, d2, ?_, ?_, ?_, d1⟩)
           (fun d4 => Or.elim (Bool.eq_false_or_eq_true (f.tmod (8 : Int) == (2 : Int))) (fun d5 => rr [false, false, false, false, true] [p = bentP p L f n, L.length = (bentL L a f n).length ∧ L.length = (updS (consR L.length fun i => (L.getD i Con.zero).rvs) ((IntKind.i64.wrap a).tmod (↑L.length : Int)).toNat (IntKind.i64.wrap (n.tmod (3 : Int)))).length ∧ ∀ (i : Nat), i < L.length → (fun i => ((bentL L a f n).getD i Con.zero).rvs) i = ((updS (consR L.length fun i => (L.getD i Con.zero).rvs) ((IntKind.i64.wrap a).tmod (↑L.length : Int)).toNat (IntKind.i64.wrap (n.tmod (3 : Int)))).getD i Con.zero).rvs, ((IntKind.i64.wrap a).tmod (↑L.length : Int)).toNat < (consR L.length fun i => (L.getD i Con.zero).rvs).length, (3 : Int) ≠ (0 : Int), Dec (f.tmod (8 : Int) == (2 : Int)) true, Dec (f.tmod (8 : Int) == (1 : Int)) false, Dec (f.tmod (8 : Int) == (0 : Int)) false, (8 : Int) ≠ (0 : Int), (0 : Int) ≤ (IntKind.i64.wrap a).tmod (↑L.length : Int) ∧ (IntKind.i64.wrap a).tmod (↑L.length : Int) < (↑L.length : Int), (↑L.length : Int) ≠ (0 : Int), Dec ((↑L.length : Int) == (0 : Int)) false, p = p, (0 : Nat) < L.length ∧ L.length ≤ (1000000 : Nat), ∀ (i : Nat), i < L.length → (fun i => (L.getD i Con.zero).rvs) i = (Con.ofR ((fun i => (L.getD i Con.zero).rvs) i)).rvs, Dec (L.length.beq (0 : Nat)) false] (by kernel_rfl) ⟨?_, ?_, ?_, ?_, d5, d4, d3, ?_, ?_, ?_, d2, ?_, ?_, ?_, d1⟩)
           (fun d5 => Or.elim (Bool.eq_false_or_eq_true (f.tmod (8 : Int) == (3 : Int))) (fun d6 => rr [false, false, false, false, false, true] [p = bentP p L f n, L.length = (bentL L a f n).length ∧ L.length = (updO (consR L.length fun i => (L.getD i Con.zero).rvs) ((IntKind.i64.wrap a).tmod (↑L.length : Int)).toNat !((consR L.length fun i => (L.getD i Con.zero).rvs).getD ((IntKind.i64.wrap a).tmod (↑L.length : Int)).toNat Con.zero).odd).length ∧ ∀ (i : Nat), i < L.length → (fun i => ((bentL L a f n).getD i Con.zero).rvs) i = ((updO (consR L.length fun i => (L.getD i Con.zero).rvs) ((IntKind.i64.wrap a).tmod (↑L.length : Int)).toNat !((consR L.length fun i => (L.getD i Con.zero).rvs).getD ((IntKind.i64.wrap a).tmod (↑L.length : Int)).toNat Con.zero).odd).getD i Con.zero).rvs, ((IntKind.i64.wrap a).tmod (↑L.length : Int)).toNat < (consR L.length fun i => (L.getD i Con.zero).rvs).length, ((IntKind.i64.wrap a).tmod (↑L.length : Int)).toNat < (consR L.length fun i => (L.getD i Con.zero).rvs).length, Dec (f.tmod (8 : Int) == (3 : Int)) true, Dec (f.tmod (8 : Int) == (2 : Int)) false, Dec (f.tmod (8 : Int) == (1 : Int)) false, Dec (f.tmod (8 : Int) == (0 : Int)) false, (8 : Int) ≠ (0 : Int), (0 : Int) ≤ (IntKind.i64.wrap a).tmod (↑L.length : Int) ∧ (IntKind.i64.wrap a).tmod (↑L.length : Int) < (↑L.length : Int), (↑L.length : Int) ≠ (0 : Int), Dec ((↑L.length : Int) == (0 : Int)) false, p = p, (0 : Nat) < L.length ∧ L.length ≤ (1000000 : Nat), ∀ (i : Nat), i < L.length → (fun i => (L.getD i Con.zero).rvs) i = (Con.ofR ((fun i => (L.getD i Con.zero).rvs) i)).rvs, Dec (L.length.beq (0 : Nat)) false] (by kernel_rfl) ⟨?_, ?_, ?_, ?_, d6, d5, d4, d3, ?_, ?_, ?_, d2, ?_, ?_, ?_, d1⟩)
           (fun d6 => Or.elim (Bool.eq_false_or_eq_true (f.tmod (8 : Int) == (4 : Int))) (fun d7 => rr [false, false, false, false, false, false, true, true] [p = bentP p L f n, L.length = (bentL L a f n).length ∧ L.length = (updT (consR L.length fun i => (L.getD i Con.zero).rvs) ((IntKind.i64.wrap a).tmod (↑L.length : Int)).toNat (IntKind.i64.wrap (((consR L.length fun i => (L.getD i Con.zero).rvs).getD ((IntKind.i64.wrap a).tmod (↑L.length : Int)).toNat Con.zero).oddity + IntKind.i64.wrap (n.tmod (9 : Int))))).length ∧ ∀ (i : Nat), i < L.length → (fun i => ((bentL L a f n).getD i Con.zero).rvs) i = ((updT (consR L.length fun i => (L.getD i Con.zero).rvs) ((IntKind.i64.wrap a).tmod (↑L.length : Int)).toNat (IntKind.i64.wrap (((consR L.length fun i => (L.getD i Con.zero).rvs).getD ((IntKind.i64.wrap a).tmod (↑L.length : Int)).toNat Con.zero).oddity + IntKind.i64.wrap (n.tmod (9 : Int))))).getD i Con.zero).rvs, ((IntKind.i64.wrap a).tmod (↑L.length : Int)).toNat < (consR L.length fun i => (L.getD i Con.zero).rvs).length, (9 : Int) ≠ (0 : Int), ((IntKind.i64.wrap a).tmod (↑L.length : Int)).toNat < (consR L.length fun i => (L.getD i Con.zero).rvs).length, Dec (f.tmod (8 : Int) == (4 : Int)) true, Dec (f.tmod (8 : Int) == (4 : Int)) true, Dec (f.tmod (8 : Int) == (3 : Int)) false, Dec (f.tmod (8 : Int) == (2 : Int)) false, Dec (f.tmod (8 : Int) == (1 : Int)) false, Dec (f.tmod (8 : Int) == (0 : Int)) false, (8 : Int) ≠ (0 : Int), (0 : Int) ≤ (IntKind.i64.wrap a).tmod (↑L.length : Int) ∧ (IntKind.i64.wrap a).tmod (↑L.length : Int) < (↑L.length : Int), (↑L.length : Int) ≠ (0 : Int), Dec ((↑L.length : Int) == (0 : Int)) false, p = p, (0 : Nat) < L.length ∧ L.length ≤ (1000000 : Nat), ∀ (i : Nat), i < L.length → (fun i => (L.getD i Con.zero).rvs) i = (Con.ofR ((fun i => (L.getD i Con.zero).rvs) i)).rvs, Dec (L.length.beq (0 : Nat)) false] (by kernel_rfl) ⟨?_, ?_, ?_, ?_, ?_, d7, d7, d6, d5, d4, d3, ?_, ?_, ?_, d2, ?_, ?_, ?_, d1⟩)
           (fun d7 => Or.elim (Bool.eq_false_or_eq_true (f.tmod (8 : Int) == (5 : Int))) (fun d8 => rr [false, false, false, false, false, false, false, true] [p = bentP p L f n, L.length = (bentL L a f n).length ∧ L.length = (updT (consR L.length fun i => (L.getD i Con.zero).rvs) ((IntKind.i64.wrap a).tmod (↑L.length : Int)).toNat (IntKind.i64.wrap (((consR L.length fun i => (L.getD i Con.zero).rvs).getD ((IntKind.i64.wrap a).tmod (↑L.length : Int)).toNat Con.zero).oddity + IntKind.i64.wrap (n.tmod (9 : Int))))).length ∧ ∀ (i : Nat), i < L.length → (fun i => ((bentL L a f n).getD i Con.zero).rvs) i = ((updT (consR L.length fun i => (L.getD i Con.zero).rvs) ((IntKind.i64.wrap a).tmod (↑L.length : Int)).toNat (IntKind.i64.wrap (((consR L.length fun i => (L.getD i Con.zero).rvs).getD ((IntKind.i64.wrap a).tmod (↑L.length : Int)).toNat Con.zero).oddity + IntKind.i64.wrap (n.tmod (9 : Int))))).getD i Con.zero).rvs, ((IntKind.i64.wrap a).tmod (↑L.length : Int)).toNat < (consR L.length fun i => (L.getD i Con.zero).rvs).length, (9 : Int) ≠ (0 : Int), ((IntKind.i64.wrap a).tmod (↑L.length : Int)).toNat < (consR L.length fun i => (L.getD i Con.zero).rvs).length, Dec (f.tmod (8 : Int) == (5 : Int)) true, Dec (f.tmod (8 : Int) == (4 : Int)) false, Dec (f.tmod (8 : Int) == (3 : Int)) false, Dec (f.tmod (8 : Int) == (2 : Int)) false, Dec (f.tmod (8 : Int) == (1 : Int)) false, Dec (f.tmod (8 : Int) == (0 : Int)) false, (8 : Int) ≠ (0 : Int), (0 : Int) ≤ (IntKind.i64.wrap a).tmod (↑L.length : Int) ∧ (IntKind.i64.wrap a).tmod (↑L.length : Int) < (↑L.length : Int), (↑L.length : Int) ≠ (0 : Int), Dec ((↑L.length : Int) == (0 : Int)) false, p = p, (0 : Nat) < L.length ∧ L.length ≤ (1000000 : Nat), ∀ (i : Nat), i < L.length → (fun i => (L.getD i Con.zero).rvs) i = (Con.ofR ((fun i => (L.getD i Con.zero).rvs) i)).rvs, Dec (L.length.beq (0 : Nat)) false] (by kernel_rfl) ⟨?_, ?_, ?_, ?_, ?_, d8, d7, d6, d5, d4, d3, ?_, ?_, ?_, d2, ?_, ?_, ?_, d1⟩)
           (fun d8 => Or.elim (Bool.eq_false_or_eq_true (f.tmod (8 : Int) == (6 : Int))) (fun d9 => rr [false, false, false, false, false, false, false, false, true] [IntKind.i64.wrap (p + IntKind.i64.wrap (n.tmod (2 : Int))) = bentP p L f n, L.length = (bentL L a f n).length ∧ L.length = (consR L.length fun i => (L.getD i Con.zero).rvs).length ∧ ∀ (i : Nat), i < L.length → (fun i => ((bentL L a f n).getD i Con.zero).rvs) i = ((consR L.length fun i => (L.getD i Con.zero).rvs).getD i Con.zero).rvs, (2 : Int) ≠ (0 : Int), Dec (f.tmod (8 : Int) == (6 : Int)) true, Dec (f.tmod (8 : Int) == (5 : Int)) false, Dec (f.tmod (8 : Int) == (4 : Int)) false, Dec (f.tmod (8 : Int) == (3 : Int)) false, Dec (f.tmod (8 : Int) == (2 : Int)) false, Dec (f.tmod (8 : Int) == (1 : Int)) false, Dec (f.tmod (8 : Int) == (0 : Int)) false, (8 : Int) ≠ (0 : Int), (0 : Int) ≤ (IntKind.i64.wrap a).tmod (↑L.length : Int) ∧ (IntKind.i64.wrap a).tmod (↑L.length : Int) < (↑L.length : Int), (↑L.length : Int) ≠ (0 : Int), Dec ((↑L.length : Int) == (0 : Int)) false, p = p, (0 : Nat) < L.length ∧ L.length ≤ (1000000 : Nat), ∀ (i : Nat), i < L.length → (fun i => (L.getD i Con.zero).rvs) i = (Con.ofR ((fun i => (L.getD i Con.zero).rvs) i)).rvs, Dec (L.length.beq (0 : Nat)) false] (by kernel_rfl) ⟨?_, ?_, ?_, d9, d8, d7, d6, d5, d4, d3, ?_, ?_, ?_, d2, ?_, ?_, ?_, d1⟩)
           (fun d9 => rr [false, false, false, false, false, false, false, false, false] [p = bentP p L f n, L.length = (bentL L a f n).length ∧ L.length = (consR L.length fun i => (L.getD i Con.zero).rvs).length ∧ ∀ (i : Nat), i < L.length → (fun i => ((bentL L a f n).getD i Con.zero).rvs) i = ((consR L.length fun i => (L.getD i Con.zero).rvs).getD i Con.zero).rvs, Dec (f.tmod (8 : Int) == (6 : Int)) false, Dec (f.tmod (8 : Int) == (5 : Int)) false, Dec (f.tmod (8 : Int) == (4 : Int)) false, Dec (f.tmod (8 : Int) == (3 : Int)) false, Dec (f.tmod (8 : Int) == (2 : Int)) false, Dec (f.tmod (8 : Int) == (1 : Int)) false, Dec (f.tmod (8 : Int) == (0 : Int)) false, (8 : Int) ≠ (0 : Int), (0 : Int) ≤ (IntKind.i64.wrap a).tmod (↑L.length : Int) ∧ (IntKind.i64.wrap a).tmod (↑L.length : Int) < (↑L.length : Int), (↑L.length : Int) ≠ (0 : Int), Dec ((↑L.length : Int) == (0 : Int)) false, p = p, (0 : Nat) < L.length ∧ L.length ≤ (1000000 : Nat), ∀ (i : Nat), i < L.length → (fun i => (L.getD i Con.zero).rvs) i = (Con.ofR ((fun i => (L.getD i Con.zero).rvs) i)).rvs, Dec (L.length.beq (0 : Nat)) false] (by kernel_rfl) ⟨?_, ?_, d9, d8, d7, d6, d5, d4, d3, ?_, ?_, ?_, d2, ?_, ?_, ?_, d1⟩)))))))))
  all_goals first | (first | (with_reducible rfl) | (with_reducible exact ⟨rfl, rfl⟩) | exact fun _ _ => rfl | (exact (by decide : (8 : Int) ≠ 0)) | (exact (by decide : (3 : Int) ≠ 0)) | (exact (by decide : (9 : Int) ≠ 0)) | (exact (by decide : (2 : Int) ≠ 0)) | (simp only [ft, consR_ro, Nat.beq_eq_true_eq, beq_iff_eq, beq_eq_false_iff_ne, ne_eq] at * <;> (have e0 : L.length = 0 ∨ 0 < L.length := Nat.eq_zero_or_pos _); first | omega | (have h0 := Nat.ne_of_beq_eq_false d1; exact ⟨by omega, by omega⟩) | (have h0 := Nat.ne_of_beq_eq_false d1; exact hb (by omega)) | (have h0 := Nat.ne_of_beq_eq_false d1; have := hb (by omega); omega) | (have h0 := Nat.ne_of_beq_eq_false d1; omega) | (have h0 := Nat.eq_of_beq_eq_true d1; first | (rw [bentP_0 (by omega)]; done) | (rw [bentL_len]; exact h0)) | (rw [bentP_n (by omega)]; done) | (have h0 := Nat.ne_of_beq_eq_false d1; rw [bentP_y (by omega) (by omega)]; done) | (rw [bent_0 (by omega)]; exact ⟨(lE _).symm, (lE _).symm, fun _ _ => rfl⟩) | (rw [bent_1 (by omega)]; exact ⟨(lD _).symm, (lD _).symm, fun _ _ => rfl⟩) | (rw [bent_2 (by omega)]; exact ⟨(lS _).symm, (lS _).symm, fun _ _ => rfl⟩) | (rw [bent_3 (by omega)]; exact ⟨(lO _).symm, (lO _).symm, fun _ _ => rfl⟩) | (rw [bent_4 (by omega)]; exact ⟨(lT _).symm, (lT _).symm, fun _ _ => rfl⟩) | (rw [bent_6 (by omega)]; exact ⟨by trivial, by trivial, fun _ _ => rfl⟩) | (exfalso; have h0 := Nat.ne_of_beq_eq_false d1; omega)))
end Go.Proofs.YtcfdaddablojlaaGreatDoor.S

/- Plain: lengths. -/
set_option linter.unusedSimpArgs false
set_option linter.unusedVariables false
namespace Go.Proofs.YtcfdaddablojlaaGreatDoor.S
open Go.QfSy Go.RowKit

theorem canM_len {L : List Con} : (canM L).length = L.length := by unfold canM; rw [canG_len, fuseM_len]
theorem anyL_len' {pr : Int} {X : List Prt} {most : Int} : (anyL pr X most).length ≤ X.length + 1 := by
  have h1 := listV_len (most := most) (two := false) (X := X)
  have h2 := listV_len (most := most) (two := true) (X := X)
  unfold anyL
  cases decide (pr % 8 < 3)
  · cases decide (pr % 8 < 5)
    · cases pr % 8 == 5
      · simp only [cond_false]; rw [canM_len]; exact h2
      · simp only [cond_false, cond_true]; rw [fuseM_len]; exact h2
    · exact h2
  · exact h1
end Go.Proofs.YtcfdaddablojlaaGreatDoor.S

