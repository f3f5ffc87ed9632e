/- A part of the proof of TiedTrainCanonicalIs: VW, YW, YX, VL, VF, TJ, VH, RD, TK, RA, RE, RG, TL, LI, CardTrainCanonicalIs, TiedTrainCanonicalIs. -/
import Derived.Test.YtcfdaddablojlaaGreatDoorPkC1
import Derived.Test.YtcfdaddablojlaaGreatDoorPkCB2
import Derived.Test.YtcfdaddablojlaaGreatDoorPkCB3
set_option linter.unusedSimpArgs false
set_option linter.unusedVariables false
/- IsCanonical, of package train and of the reference; First. -/
set_option linter.unusedSimpArgs false
set_option linter.unusedVariables false
namespace Go.Proofs.YtcfdaddablojlaaGreatDoor.S
open Go.QfSy Go.RowKit

def sgR (L : List Con) (l : List Int) : Bool := l.all fun i => !((at_ L i.toNat).sign == -1)
def fstM (L : List Con) (P : List (List Int)) : Bool := P.all fun l => sgR L (l.drop 1)
theorem sgR_1 {L : List Con} {l : List Int} {k : Nat} (hk : k < l.length) (h : ((at_ L (l.getD k 0).toNat).sign == -1) = false) : sgR L (l.drop k) = sgR L (l.drop (k + 1)) := by
  rw [drop_int hk]; unfold sgR; rw [List.all_cons, h]; rfl
theorem sgR_2 {L : List Con} {l : List Int} {k : Nat} (hk : k < l.length) (h : ((at_ L (l.getD k 0).toNat).sign == -1) = true) : sgR L (l.drop k) = false := by
  rw [drop_int hk]; unfold sgR; rw [List.all_cons, h]; rfl
theorem sgR_3 {L : List Con} {l : List Int} {k : Nat} (hk : l.length ≤ k) : sgR L (l.drop k) = true := by rw [List.drop_eq_nil_of_le hk]; rfl
theorem fst_1 {L : List Con} {P : List (List Int)} {j : Nat} (hj : j < P.length) (h : sgR L ((rowAt P j).drop 1) = true) : fstM L (P.drop j) = fstM L (P.drop (j + 1)) := by
  rw [drop_row hj]; unfold fstM; rw [List.all_cons, h]; rfl
theorem fst_2 {L : List Con} {P : List (List Int)} {j : Nat} (hj : j < P.length) (h : sgR L ((rowAt P j).drop 1) = false) : fstM L (P.drop j) = false := by
  rw [drop_row hj]; unfold fstM; rw [List.all_cons, h]; rfl
theorem fst_3 {L : List Con} {P : List (List Int)} {j : Nat} (hj : P.length ≤ j) : fstM L (P.drop j) = true := by rw [List.drop_eq_nil_of_le hj]; rfl
noncomputable def dI (l : List Int) : AV := .ro (l.length - 1) 1 fun i => [.int .i64 (l.getD (i + 1) 0)]
noncomputable def fiT (L : List Con) (j : AV) : List (Nat × AV) := [(1, .ptr 1000 0), (9, (roR .i64 (chainsM L)).av), (10, .vint .i64 (chainsM L).length), (11, j)]
noncomputable def fiH (p : Int) (L : List Con) : List (Nat × Blk) := [(1000, ⟨.plain [.vint .i64 p, (roC L).av], 24, 0, false, true⟩)]
noncomputable def fiI (L : List Con) (j : Nat) (k : AV) : List (Nat × AV) := fiT L (.vint .i64 (j : Int)) ++ [(16, dI (rowAt (chainsM L) j)), (17, .vint .i64 (((rowAt (chainsM L) j).length - 1 : Nat) : Int)), (18, k)]
noncomputable def fiIn (p : Int) (L : List Con) (j : Nat) : Ann := ⟨⟨fiI L j (.int .i64 0), fiH p L, 1020⟩, some (sgR L ((rowAt (chainsM L) j).drop 1)), fun d => match d with
  | true => (.exit 2, ⟨fiT L (.vint .i64 (j : Int)), fiH p L, 1020⟩)
  | false => (.ret, ⟨[(2, .bool false)], fiH p L, 1020⟩)⟩
set_option maxRecDepth 100000 in
theorem fi_in (p : Int) (L : List Con) (j : Nat) (hr : inR L.length (rowAt (chainsM L) j)) (hn : (rowAt (chainsM L) j).length ≤ 1000) : AnnOk Tryz.prog EV.ng (Nat.max 1 Tryz.f67.ntmps) (bodyAt Tryz.f67 [0, 1, 1, 0, 0, 1, 1, 0, 0, 1, 0, 1]) (fiIn p L j) := by
  refine ann_of evOk (callF_ok evOk (noOrc_ok _ _) 8) none_ann (by kernel_rfl) (by kernel_rfl) (fun i : Nat => (fun (k : Nat) => (⟨fiI L j (.vint .i64 (k : Int)), fiH p L, 1020⟩ : St)) i) (fun i : Nat => (fun (k : Nat) => ((rowAt (chainsM L) j).length - k : Nat)) i) (fun (d : Bool) (i : Nat) => (fun (k : Nat) => (k ≤ (rowAt (chainsM L) j).length - 1 ∧ sgR L ((rowAt (chainsM L) j).drop (k + 1)) = sgR L ((rowAt (chainsM L) j).drop 1) ∧ sgR L ((rowAt (chainsM L) j).drop 1) = d : Prop)) i) ?_ ?_
  · intro d hd
    exact ⟨(0), [(chainsM L).length = (chainsM L).length ∧ (fun i => [rI IntKind.i64 ((chainsM L).getD i [])]) = fun i => [rI IntKind.i64 ((chainsM L).getD i [])], (↑(chainsM L).length : Int) = (↑(chainsM L).length : Int), (↑j : Int) = (↑j : Int), (rowAt (chainsM L) j).length - (1 : Nat) = (rowAt (chainsM L) j).length - (1 : Nat) ∧ (fun i => [RV.int IntKind.i64 ((rowAt (chainsM L) j).getD (i + (1 : Nat)) (0 : Int))]) = fun i => [RV.int IntKind.i64 ((rowAt (chainsM L) j).getD (i + (1 : Nat)) (0 : Int))], (↑((rowAt (chainsM L) j).length - (1 : Nat)) : Int) = (↑((rowAt (chainsM L) j).length - (1 : Nat)) : Int), (0 : Int) = (↑(0 : Nat) : Int), p = p, L.length = L.length ∧ (fun i => (L.getD i Con.zero).rvs) = fun i => (L.getD i Con.zero).rvs], by kernel_rfl, (by refine ⟨?_, ?_, ?_, ?_, ?_, ?_, ?_, (?_ : L.length = L.length ∧ (fun i => (L.getD i Con.zero).rvs) = fun i => (L.getD i Con.zero).rvs)⟩ <;> (first | rfl | assumption | omega | simp_all)), (by exact ⟨Nat.zero_le _, rfl, hd⟩)⟩
  · rintro d hd k hI
    cases d
    · -- d = false
      obtain ⟨ht, hf, hs⟩ := hI
      have ht : k ≤ (rowAt (chainsM L) j).length - 1 := ht
      have hf : sgR L ((rowAt (chainsM L) j).drop (k + 1)) = sgR L ((rowAt (chainsM L) j).drop 1) := hf
      have ek : IntKind.i64.wrap ((k : Int) + 1) = ((k + 1 : Nat) : Int) := by rw [w64 (by omega) (by omega)]; omega
      refine Or.elim (Bool.eq_false_or_eq_true (decide ((↑k : Int) < (↑((rowAt (chainsM L) j).length - (1 : Nat)) : Int)))) (fun d1 => Or.elim (Bool.eq_false_or_eq_true ((L.getD ((rowAt (chainsM L) j).getD (k + (1 : Nat)) (0 : Int)).toNat Con.zero).sign == (-1 : Int))) (fun d2 => ⟨[true, true], .inr ⟨[p = p, L.length = L.length ∧ (fun i => (L.getD i Con.zero).rvs) = fun i => (L.getD i Con.zero).rvs, Dec ((L.getD ((rowAt (chainsM L) j).getD (k + (1 : Nat)) (0 : Int)).toNat Con.zero).sign == (-1 : Int)) true, (0 : Int) ≤ (rowAt (chainsM L) j).getD (k + (1 : Nat)) (0 : Int) ∧ (rowAt (chainsM L) j).getD (k + (1 : Nat)) (0 : Int) < (↑L.length : Int), (0 : Int) ≤ (↑k : Int) ∧ (↑k : Int) < (↑((rowAt (chainsM L) j).length - (1 : Nat)) : Int), Dec (decide ((↑k : Int) < (↑((rowAt (chainsM L) j).length - (1 : Nat)) : Int))) true], by kernel_rfl, ⟨?_, ?_, d2, ?_, ?_, d1⟩, rfl⟩⟩)
           (fun d2 => ⟨[true, false], .inl ⟨(k + 1), [(chainsM L).length = (chainsM L).length ∧ (fun i => [rI IntKind.i64 ((chainsM L).getD i [])]) = fun i => [rI IntKind.i64 ((chainsM L).getD i [])], (↑(chainsM L).length : Int) = (↑(chainsM L).length : Int), (↑j : Int) = (↑j : Int), (rowAt (chainsM L) j).length - (1 : Nat) = (rowAt (chainsM L) j).length - (1 : Nat) ∧ (fun i => [RV.int IntKind.i64 ((rowAt (chainsM L) j).getD (i + (1 : Nat)) (0 : Int))]) = fun i => [RV.int IntKind.i64 ((rowAt (chainsM L) j).getD (i + (1 : Nat)) (0 : Int))], (↑((rowAt (chainsM L) j).length - (1 : Nat)) : Int) = (↑((rowAt (chainsM L) j).length - (1 : Nat)) : Int), IntKind.i64.wrap ((↑k : Int) + (1 : Int)) = (↑(k + (1 : Nat)) : Int), p = p, L.length = L.length ∧ (fun i => (L.getD i Con.zero).rvs) = fun i => (L.getD i Con.zero).rvs, Dec ((L.getD ((rowAt (chainsM L) j).getD (k + (1 : Nat)) (0 : Int)).toNat Con.zero).sign == (-1 : Int)) false, (0 : Int) ≤ (rowAt (chainsM L) j).getD (k + (1 : Nat)) (0 : Int) ∧ (rowAt (chainsM L) j).getD (k + (1 : Nat)) (0 : Int) < (↑L.length : Int), (0 : Int) ≤ (↑k : Int) ∧ (↑k : Int) < (↑((rowAt (chainsM L) j).length - (1 : Nat)) : Int), Dec (decide ((↑k : Int) < (↑((rowAt (chainsM L) j).length - (1 : Nat)) : Int))) true], by kernel_rfl, ⟨?_, ?_, ?_, ?_, ?_, ?_, ?_, ?_, d2, ?_, ?_, d1⟩, MuG.out ?_, InG.out ?_⟩⟩))
           (fun d1 => CtG.no ?_)
      all_goals first | (refine MuG.mk ?_; (simp only [decide_eq_true_eq] at d1; show (rowAt (chainsM L) j).length - (k + 1) < (rowAt (chainsM L) j).length - k; omega)) | (refine InG.mk ?_; (simp only [ek, decide_eq_true_eq] at *; exact ⟨by omega, by rw [← hf, sgR_1 (by omega) d2], hs⟩)) | (refine CtG.mk ?_; (simp only [decide_eq_true_eq, decide_eq_false_iff_not] at *; first | (rw [← hf, sgR_3 (by omega)] at hs; cases hs; done) | (rw [← hf, sgR_2 (by omega) d2] at hs; cases hs; done))) | (first | (with_reducible rfl) | exact ⟨rfl, rfl⟩ | decide | ((try simp only [ek, Int.toNat_natCast, decide_eq_true_eq, decide_eq_false_iff_not] at *) <;> first | omega | (rw [← hf, sgR_3 (by omega)]; done) | (rw [← hf, sgR_2 (by omega) d2]; done) | (have h2 := hr.at (t := k + 1) (by omega); omega)))
    · -- d = true
      obtain ⟨ht, hf, hs⟩ := hI
      have ht : k ≤ (rowAt (chainsM L) j).length - 1 := ht
      have hf : sgR L ((rowAt (chainsM L) j).drop (k + 1)) = sgR L ((rowAt (chainsM L) j).drop 1) := hf
      have ek : IntKind.i64.wrap ((k : Int) + 1) = ((k + 1 : Nat) : Int) := by rw [w64 (by omega) (by omega)]; omega
      refine Or.elim (Bool.eq_false_or_eq_true (decide ((↑k : Int) < (↑((rowAt (chainsM L) j).length - (1 : Nat)) : Int)))) (fun d1 => Or.elim (Bool.eq_false_or_eq_true ((L.getD ((rowAt (chainsM L) j).getD (k + (1 : Nat)) (0 : Int)).toNat Con.zero).sign == (-1 : Int))) (fun d2 => CtG.no ?_)
           (fun d2 => ⟨[true, false], .inl ⟨(k + 1), [(chainsM L).length = (chainsM L).length ∧ (fun i => [rI IntKind.i64 ((chainsM L).getD i [])]) = fun i => [rI IntKind.i64 ((chainsM L).getD i [])], (↑(chainsM L).length : Int) = (↑(chainsM L).length : Int), (↑j : Int) = (↑j : Int), (rowAt (chainsM L) j).length - (1 : Nat) = (rowAt (chainsM L) j).length - (1 : Nat) ∧ (fun i => [RV.int IntKind.i64 ((rowAt (chainsM L) j).getD (i + (1 : Nat)) (0 : Int))]) = fun i => [RV.int IntKind.i64 ((rowAt (chainsM L) j).getD (i + (1 : Nat)) (0 : Int))], (↑((rowAt (chainsM L) j).length - (1 : Nat)) : Int) = (↑((rowAt (chainsM L) j).length - (1 : Nat)) : Int), IntKind.i64.wrap ((↑k : Int) + (1 : Int)) = (↑(k + (1 : Nat)) : Int), p = p, L.length = L.length ∧ (fun i => (L.getD i Con.zero).rvs) = fun i => (L.getD i Con.zero).rvs, Dec ((L.getD ((rowAt (chainsM L) j).getD (k + (1 : Nat)) (0 : Int)).toNat Con.zero).sign == (-1 : Int)) false, (0 : Int) ≤ (rowAt (chainsM L) j).getD (k + (1 : Nat)) (0 : Int) ∧ (rowAt (chainsM L) j).getD (k + (1 : Nat)) (0 : Int) < (↑L.length : Int), (0 : Int) ≤ (↑k : Int) ∧ (↑k : Int) < (↑((rowAt (chainsM L) j).length - (1 : Nat)) : Int), Dec (decide ((↑k : Int) < (↑((rowAt (chainsM L) j).length - (1 : Nat)) : Int))) true], by kernel_rfl, ⟨?_, ?_, ?_, ?_, ?_, ?_, ?_, ?_, d2, ?_, ?_, d1⟩, MuG.out ?_, InG.out ?_⟩⟩))
           (fun d1 => ⟨[false], .inr ⟨[(chainsM L).length = (chainsM L).length ∧ (fun i => [rI IntKind.i64 ((chainsM L).getD i [])]) = fun i => [rI IntKind.i64 ((chainsM L).getD i [])], (↑(chainsM L).length : Int) = (↑(chainsM L).length : Int), (↑j : Int) = (↑j : Int), p = p, L.length = L.length ∧ (fun i => (L.getD i Con.zero).rvs) = fun i => (L.getD i Con.zero).rvs, Dec (decide ((↑k : Int) < (↑((rowAt (chainsM L) j).length - (1 : Nat)) : Int))) false], by kernel_rfl, ⟨?_, ?_, ?_, ?_, ?_, d1⟩, rfl⟩⟩)
      all_goals first | (refine MuG.mk ?_; (simp only [decide_eq_true_eq] at d1; show (rowAt (chainsM L) j).length - (k + 1) < (rowAt (chainsM L) j).length - k; omega)) | (refine InG.mk ?_; (simp only [ek, decide_eq_true_eq] at *; exact ⟨by omega, by rw [← hf, sgR_1 (by omega) d2], hs⟩)) | (refine CtG.mk ?_; (simp only [decide_eq_true_eq, decide_eq_false_iff_not] at *; first | (rw [← hf, sgR_3 (by omega)] at hs; cases hs; done) | (rw [← hf, sgR_2 (by omega) d2] at hs; cases hs; done))) | (first | (with_reducible rfl) | exact ⟨rfl, rfl⟩ | decide | ((try simp only [ek, Int.toNat_natCast, decide_eq_true_eq, decide_eq_false_iff_not] at *) <;> first | omega | (rw [← hf, sgR_3 (by omega)]; done) | (rw [← hf, sgR_2 (by omega) d2]; done) | (have h2 := hr.at (t := k + 1) (by omega); omega)))
noncomputable def fiOut (p : Int) (L : List Con) : Ann := ⟨⟨fiT L (.int .i64 0), fiH p L, 1020⟩, some (fstM L (chainsM L)), fun d => match d with
  | true => (.exit 0, ⟨[], fiH p L, 1020⟩)
  | false => (.ret, ⟨[(2, .bool false)], fiH p L, 1020⟩)⟩
set_option maxRecDepth 100000 in
theorem fi_out (p : Int) (L : List Con) (hL : okL L) : AnnOk Tryz.prog EV.ng (Nat.max 1 Tryz.f67.ntmps) (bodyAt Tryz.f67 [0, 1, 0, 1]) (fiOut p L) := by
  refine ann_ofI evOk (callF_ok evOk (noOrc_ok _ _) 8) (by kernel_rfl) (by kernel_rfl) (fun i : Nat => (fun (j : Nat) => (⟨fiT L (.vint .i64 (j : Int)), fiH p L, 1020⟩ : St)) i) (fun i : Nat => (fun (j : Nat) => ((chainsM L).length - j : Nat)) i) (fun (d : Bool) (i : Nat) => (fun (j : Nat) => (j ≤ (chainsM L).length ∧ fstM L ((chainsM L).drop j) = fstM L (chainsM L) ∧ fstM L (chainsM L) = d : Prop)) i) (fun i : Nat => (fun (j : Nat) => ([([0, 1, 1, 0, 0, 1, 1, 0, 0, 1, 0, 1], fiIn p L j)] : List (List Nat × Ann))) i) ?_ ?_ ?_
  · rintro d hd j hI
    have hr : inR L.length (rowAt (chainsM L) j) ∧ (rowAt (chainsM L) j).length ≤ 1000 := by
      have := hL.1
      rcases Nat.lt_or_ge j (chainsM L).length with h | h
      · have h1 := chains_rows _ (rowAt_mem h)
        exact ⟨h1.2.1, by omega⟩
      · have e : rowAt (chainsM L) j = [] := by simp [rowAt, h]
        rw [e]; exact ⟨fun x hx => by simp at hx, by simp⟩
    exact one_ann (fi_in p L j hr.1 hr.2)
  · intro d hd
    exact ⟨(0), [(chainsM L).length = (chainsM L).length ∧ (fun i => [rI IntKind.i64 ((chainsM L).getD i [])]) = fun i => [rI IntKind.i64 ((chainsM L).getD i [])], (↑(chainsM L).length : Int) = (↑(chainsM L).length : Int), (0 : Int) = (↑(0 : Nat) : Int), p = p, L.length = L.length ∧ (fun i => (L.getD i Con.zero).rvs) = fun i => (L.getD i Con.zero).rvs], by kernel_rfl, (by refine ⟨?_, ?_, ?_, ?_, (?_ : L.length = L.length ∧ (fun i => (L.getD i Con.zero).rvs) = fun i => (L.getD i Con.zero).rvs)⟩ <;> (first | rfl | assumption | omega | simp_all)), (by exact ⟨Nat.zero_le _, rfl, hd⟩)⟩
  · rintro d hd j hI
    cases d
    · -- d = false
      obtain ⟨ht, hf, hs⟩ := hI
      have ht : j ≤ (chainsM L).length := ht
      have hf : fstM L ((chainsM L).drop j) = fstM L (chainsM L) := hf
      have hl := hL.1
      have hc := chains_len (L := L)
      have ek : IntKind.i64.wrap ((j : Int) + 1) = ((j + 1 : Nat) : Int) := by rw [w64 (by omega) (by omega)]; omega
      refine Or.elim (Bool.eq_false_or_eq_true (decide ((↑j : Int) < (↑(chainsM L).length : Int)))) (fun d1 => Or.elim (Bool.eq_false_or_eq_true (sgR L (List.drop (1 : Nat) (rowAt (chainsM L) j)))) (fun d2 => ⟨[true, true], .inl ⟨(j + 1), [(chainsM L).length = (chainsM L).length ∧ (fun i => [rI IntKind.i64 ((chainsM L).getD i [])]) = fun i => [rI IntKind.i64 ((chainsM L).getD i [])], (↑(chainsM L).length : Int) = (↑(chainsM L).length : Int), IntKind.i64.wrap ((↑j : Int) + (1 : Int)) = (↑(j + (1 : Nat)) : Int), p = p, L.length = L.length ∧ (fun i => (L.getD i Con.zero).rvs) = fun i => (L.getD i Con.zero).rvs, (chainsM L).length = (chainsM L).length ∧ (fun i => [rI IntKind.i64 ((chainsM L).getD i [])]) = fun i => [rI IntKind.i64 ((chainsM L).getD i [])], (↑(chainsM L).length : Int) = (↑(chainsM L).length : Int), (↑j : Int) = (↑j : Int), ((chainsM L).getD j []).length - Int.toNat (1 : Int) = (rowAt (chainsM L) j).length - (1 : Nat) ∧ (fun i => (fun j_1 => [RV.int IntKind.i64 (((chainsM L).getD j []).getD j_1 (0 : Int))]) (i + Int.toNat (1 : Int))) = fun i => [RV.int IntKind.i64 ((rowAt (chainsM L) j).getD (i + (1 : Nat)) (0 : Int))], (↑(((chainsM L).getD j []).length - Int.toNat (1 : Int)) : Int) = (↑((rowAt (chainsM L) j).length - (1 : Nat)) : Int), p = p, L.length = L.length ∧ (fun i => (L.getD i Con.zero).rvs) = fun i => (L.getD i Con.zero).rvs, Dec (sgR L (List.drop (1 : Nat) (rowAt (chainsM L) j))) true, (0 : Int) ≤ (1 : Int) ∧ (1 : Int) ≤ (↑((chainsM L).getD j []).length : Int), (0 : Int) ≤ (↑j : Int) ∧ (↑j : Int) < (↑(chainsM L).length : Int), Dec (decide ((↑j : Int) < (↑(chainsM L).length : Int))) true], by kernel_rfl, ⟨?_, ?_, ?_, ?_, ?_, ?_, ?_, ?_, ?_, ?_, ?_, ?_, d2, ?_, ?_, d1⟩, MuG.out ?_, InG.out ?_⟩⟩)
           (fun d2 => ⟨[true, false], .inr ⟨[p = p, L.length = L.length ∧ (fun i => (L.getD i Con.zero).rvs) = fun i => (L.getD i Con.zero).rvs, (chainsM L).length = (chainsM L).length ∧ (fun i => [rI IntKind.i64 ((chainsM L).getD i [])]) = fun i => [rI IntKind.i64 ((chainsM L).getD i [])], (↑(chainsM L).length : Int) = (↑(chainsM L).length : Int), (↑j : Int) = (↑j : Int), ((chainsM L).getD j []).length - Int.toNat (1 : Int) = (rowAt (chainsM L) j).length - (1 : Nat) ∧ (fun i => (fun j_1 => [RV.int IntKind.i64 (((chainsM L).getD j []).getD j_1 (0 : Int))]) (i + Int.toNat (1 : Int))) = fun i => [RV.int IntKind.i64 ((rowAt (chainsM L) j).getD (i + (1 : Nat)) (0 : Int))], (↑(((chainsM L).getD j []).length - Int.toNat (1 : Int)) : Int) = (↑((rowAt (chainsM L) j).length - (1 : Nat)) : Int), p = p, L.length = L.length ∧ (fun i => (L.getD i Con.zero).rvs) = fun i => (L.getD i Con.zero).rvs, Dec (sgR L (List.drop (1 : Nat) (rowAt (chainsM L) j))) false, (0 : Int) ≤ (1 : Int) ∧ (1 : Int) ≤ (↑((chainsM L).getD j []).length : Int), (0 : Int) ≤ (↑j : Int) ∧ (↑j : Int) < (↑(chainsM L).length : Int), Dec (decide ((↑j : Int) < (↑(chainsM L).length : Int))) true], by kernel_rfl, ⟨?_, ?_, ?_, ?_, ?_, ?_, ?_, ?_, ?_, d2, ?_, ?_, d1⟩, rfl⟩⟩))
           (fun d1 => CtG.no ?_)
      all_goals first | (refine MuG.mk ?_; (simp only [decide_eq_true_eq] at d1; show (chainsM L).length - (j + 1) < (chainsM L).length - j; omega)) | (refine InG.mk ?_; (simp only [decide_eq_true_eq] at d1; exact ⟨by omega, by rw [← hf]; exact (fst_1 (by omega) d2).symm, hs⟩)) | (refine CtG.mk ?_; (simp only [decide_eq_true_eq, decide_eq_false_iff_not] at d1; first | (rw [← hf, fst_3 (by omega)] at hs; cases hs; done) | (rw [← hf, fst_2 (by omega) d2] at hs; cases hs; done))) | (first | (with_reducible rfl) | exact ⟨rfl, rfl⟩ | decide | ((try simp only [ek, Int.toNat_natCast, Int.toNat_zero, decide_eq_true_eq, decide_eq_false_iff_not] at *) <;> first | omega | (rw [← hf, fst_3 (by omega)]; done) | (rw [← hf, fst_2 (by omega) d2]; done) | (have h0 := chains_rows _ (rowAt_mem (P := chainsM L) (t := j) (by omega)); have h1 : 0 < (rowAt (chainsM L) j).length := List.length_pos_iff.2 h0.1; have h2 : 0 < ((chainsM L).getD j []).length := h1; first | omega | rfl)))
    · -- d = true
      obtain ⟨ht, hf, hs⟩ := hI
      have ht : j ≤ (chainsM L).length := ht
      have hf : fstM L ((chainsM L).drop j) = fstM L (chainsM L) := hf
      have hl := hL.1
      have hc := chains_len (L := L)
      have ek : IntKind.i64.wrap ((j : Int) + 1) = ((j + 1 : Nat) : Int) := by rw [w64 (by omega) (by omega)]; omega
      refine Or.elim (Bool.eq_false_or_eq_true (decide ((↑j : Int) < (↑(chainsM L).length : Int)))) (fun d1 => Or.elim (Bool.eq_false_or_eq_true (sgR L (List.drop (1 : Nat) (rowAt (chainsM L) j)))) (fun d2 => ⟨[true, true], .inl ⟨(j + 1), [(chainsM L).length = (chainsM L).length ∧ (fun i => [rI IntKind.i64 ((chainsM L).getD i [])]) = fun i => [rI IntKind.i64 ((chainsM L).getD i [])], (↑(chainsM L).length : Int) = (↑(chainsM L).length : Int), IntKind.i64.wrap ((↑j : Int) + (1 : Int)) = (↑(j + (1 : Nat)) : Int), p = p, L.length = L.length ∧ (fun i => (L.getD i Con.zero).rvs) = fun i => (L.getD i Con.zero).rvs, (chainsM L).length = (chainsM L).length ∧ (fun i => [rI IntKind.i64 ((chainsM L).getD i [])]) = fun i => [rI IntKind.i64 ((chainsM L).getD i [])], (↑(chainsM L).length : Int) = (↑(chainsM L).length : Int), (↑j : Int) = (↑j : Int), ((chainsM L).getD j []).length - Int.toNat (1 : Int) = (rowAt (chainsM L) j).length - (1 : Nat) ∧ (fun i => (fun j_1 => [RV.int IntKind.i64 (((chainsM L).getD j []).getD j_1 (0 : Int))]) (i + Int.toNat (1 : Int))) = fun i => [RV.int IntKind.i64 ((rowAt (chainsM L) j).getD (i + (1 : Nat)) (0 : Int))], (↑(((chainsM L).getD j []).length - Int.toNat (1 : Int)) : Int) = (↑((rowAt (chainsM L) j).length - (1 : Nat)) : Int), p = p, L.length = L.length ∧ (fun i => (L.getD i Con.zero).rvs) = fun i => (L.getD i Con.zero).rvs, Dec (sgR L (List.drop (1 : Nat) (rowAt (chainsM L) j))) true, (0 : Int) ≤ (1 : Int) ∧ (1 : Int) ≤ (↑((chainsM L).getD j []).length : Int), (0 : Int) ≤ (↑j : Int) ∧ (↑j : Int) < (↑(chainsM L).length : Int), Dec (decide ((↑j : Int) < (↑(chainsM L).length : Int))) true], by kernel_rfl, ⟨?_, ?_, ?_, ?_, ?_, ?_, ?_, ?_, ?_, ?_, ?_, ?_, d2, ?_, ?_, d1⟩, MuG.out ?_, InG.out ?_⟩⟩)
           (fun d2 => CtG.no ?_))
           (fun d1 => ⟨[false], .inr ⟨[p = p, L.length = L.length ∧ (fun i => (L.getD i Con.zero).rvs) = fun i => (L.getD i Con.zero).rvs, Dec (decide ((↑j : Int) < (↑(chainsM L).length : Int))) false], by kernel_rfl, ⟨?_, ?_, d1⟩, rfl⟩⟩)
      all_goals first | (refine MuG.mk ?_; (simp only [decide_eq_true_eq] at d1; show (chainsM L).length - (j + 1) < (chainsM L).length - j; omega)) | (refine InG.mk ?_; (simp only [decide_eq_true_eq] at d1; exact ⟨by omega, by rw [← hf]; exact (fst_1 (by omega) d2).symm, hs⟩)) | (refine CtG.mk ?_; (simp only [decide_eq_true_eq, decide_eq_false_iff_not] at d1; first | (rw [← hf, fst_3 (by omega)] at hs; cases hs; done) | (rw [← hf, fst_2 (by omega) d2] at hs; cases hs; done))) | (first | (with_reducible rfl) | exact ⟨rfl, rfl⟩ | decide | ((try simp only [ek, Int.toNat_natCast, Int.toNat_zero, decide_eq_true_eq, decide_eq_false_iff_not] at *) <;> first | omega | (rw [← hf, fst_3 (by omega)]; done) | (rw [← hf, fst_2 (by omega) d2]; done) | (have h0 := chains_rows _ (rowAt_mem (P := chainsM L) (t := j) (by omega)); have h1 : 0 < (rowAt (chainsM L) j).length := List.length_pos_iff.2 h0.1; have h2 : 0 < ((chainsM L).getD j []).length := h1; first | omega | rfl)))
noncomputable def icM (p : Int) (L : List Con) : Bool := fusM p L && (fstM L (chainsM L) && (refM L).isSome)
noncomputable def entsIC : List OEnt := entsJT ++ [
  ⟨36, [], fun A => match A with
    | [.agg [.int .i64 p, .sl n 5 row]] => some (.tup [.agg [.int .i64 (bP (rfB p (consR n row))), roC (bL (rfB p (consR n row)) (rfL (consR n row)))], .bool (rfB p (consR n row))], [(∀ i, i < n → row i = (Con.ofR (row i)).rvs) ∧ n ≤ 1000])
    | _ => none⟩]
theorem entsIC_ok : ∀ e ∈ entsIC, EntOk Tryz.prog e := by
  intro e he
  rcases List.mem_append.1 he with he | he
  · exact entsJT_ok e he
  · rw [List.mem_singleton.1 he]
    intro A R ms h hm
    simp only at h
    split at h
    · cases h
      obtain ⟨h1, h2⟩ := all_one hm
      exact PureC.imp (tref_pure _ _ (by rw [consR_len]; exact h2)) (.cons (.agg (.cons .same (.cons (.con h1) .nil))) .nil)
    · cases h
noncomputable def icT (L : List Con) (j : AV) : List (Nat × AV) := [(1, .ptr 1000 0), (13, (roR .i64 (chainsM L)).av), (14, .vint .i64 (chainsM L).length), (15, j)]
noncomputable def icI (L : List Con) (j : Nat) (k : AV) : List (Nat × AV) := icT L (.vint .i64 (j : Int)) ++ [(20, dI (rowAt (chainsM L) j)), (21, .vint .i64 (((rowAt (chainsM L) j).length - 1 : Nat) : Int)), (22, k)]
noncomputable def icIn (p : Int) (L : List Con) (j : Nat) : Ann := ⟨⟨icI L j (.int .i64 0), fiH p L, 1020⟩, some (sgR L ((rowAt (chainsM L) j).drop 1)), fun d => match d with
  | true => (.exit 2, ⟨icT L (.vint .i64 (j : Int)), fiH p L, 1020⟩)
  | false => (.ret, ⟨[(2, .bool false)], fiH p L, 1020⟩)⟩
set_option maxRecDepth 100000 in
theorem ic_in (p : Int) (L : List Con) (j : Nat) (hr : inR L.length (rowAt (chainsM L) j)) (hn : (rowAt (chainsM L) j).length ≤ 1000) : AnnOk Tryz.prog EV.ng (Nat.max 1 Tryz.f41.ntmps) (bodyAt Tryz.f41 [0, 1, 1, 0, 0, 1, 1, 0, 0, 1, 0, 1, 1]) (icIn p L j) := by
  refine ann_of evOk (callF_ok evOk (noOrc_ok _ _) 8) none_ann (by kernel_rfl) (by kernel_rfl) (fun i : Nat => (fun (k : Nat) => (⟨icI L j (.vint .i64 (k : Int)), fiH p L, 1020⟩ : St)) i) (fun i : Nat => (fun (k : Nat) => ((rowAt (chainsM L) j).length - k : Nat)) i) (fun (d : Bool) (i : Nat) => (fun (k : Nat) => (k ≤ (rowAt (chainsM L) j).length - 1 ∧ sgR L ((rowAt (chainsM L) j).drop (k + 1)) = sgR L ((rowAt (chainsM L) j).drop 1) ∧ sgR L ((rowAt (chainsM L) j).drop 1) = d : Prop)) i) ?_ ?_
  · intro d hd
    exact ⟨(0), [(chainsM L).length = (chainsM L).length ∧ (fun i => [rI IntKind.i64 ((chainsM L).getD i [])]) = fun i => [rI IntKind.i64 ((chainsM L).getD i [])], (↑(chainsM L).length : Int) = (↑(chainsM L).length : Int), (↑j : Int) = (↑j : Int), (rowAt (chainsM L) j).length - (1 : Nat) = (rowAt (chainsM L) j).length - (1 : Nat) ∧ (fun i => [RV.int IntKind.i64 ((rowAt (chainsM L) j).getD (i + (1 : Nat)) (0 : Int))]) = fun i => [RV.int IntKind.i64 ((rowAt (chainsM L) j).getD (i + (1 : Nat)) (0 : Int))], (↑((rowAt (chainsM L) j).length - (1 : Nat)) : Int) = (↑((rowAt (chainsM L) j).length - (1 : Nat)) : Int), (0 : Int) = (↑(0 : Nat) : Int), p = p, L.length = L.length ∧ (fun i => (L.getD i Con.zero).rvs) = fun i => (L.getD i Con.zero).rvs], by kernel_rfl, (by refine ⟨?_, ?_, ?_, ?_, ?_, ?_, ?_, (?_ : L.length = L.length ∧ (fun i => (L.getD i Con.zero).rvs) = fun i => (L.getD i Con.zero).rvs)⟩ <;> (first | rfl | assumption | omega | simp_all)), (by exact ⟨Nat.zero_le _, rfl, hd⟩)⟩
  · rintro d hd k hI
    cases d
    · -- d = false
      obtain ⟨ht, hf, hs⟩ := hI
      have ht : k ≤ (rowAt (chainsM L) j).length - 1 := ht
      have hf : sgR L ((rowAt (chainsM L) j).drop (k + 1)) = sgR L ((rowAt (chainsM L) j).drop 1) := hf
      have ek : IntKind.i64.wrap ((k : Int) + 1) = ((k + 1 : Nat) : Int) := by rw [w64 (by omega) (by omega)]; omega
      refine Or.elim (Bool.eq_false_or_eq_true (decide ((↑k : Int) < (↑((rowAt (chainsM L) j).length - (1 : Nat)) : Int)))) (fun d1 => Or.elim (Bool.eq_false_or_eq_true ((L.getD ((rowAt (chainsM L) j).getD (k + (1 : Nat)) (0 : Int)).toNat Con.zero).sign == (-1 : Int))) (fun d2 => ⟨[true, true], .inr ⟨[p = p, L.length = L.length ∧ (fun i => (L.getD i Con.zero).rvs) = fun i => (L.getD i Con.zero).rvs, Dec ((L.getD ((rowAt (chainsM L) j).getD (k + (1 : Nat)) (0 : Int)).toNat Con.zero).sign == (-1 : Int)) true, (0 : Int) ≤ (rowAt (chainsM L) j).getD (k + (1 : Nat)) (0 : Int) ∧ (rowAt (chainsM L) j).getD (k + (1 : Nat)) (0 : Int) < (↑L.length : Int), (0 : Int) ≤ (↑k : Int) ∧ (↑k : Int) < (↑((rowAt (chainsM L) j).length - (1 : Nat)) : Int), Dec (decide ((↑k : Int) < (↑((rowAt (chainsM L) j).length - (1 : Nat)) : Int))) true], by kernel_rfl, ⟨?_, ?_, d2, ?_, ?_, d1⟩, rfl⟩⟩)
           (fun d2 => ⟨[true, false], .inl ⟨(k + 1), [(chainsM L).length = (chainsM L).length ∧ (fun i => [rI IntKind.i64 ((chainsM L).getD i [])]) = fun i => [rI IntKind.i64 ((chainsM L).getD i [])], (↑(chainsM L).length : Int) = (↑(chainsM L).length : Int), (↑j : Int) = (↑j : Int), (rowAt (chainsM L) j).length - (1 : Nat) = (rowAt (chainsM L) j).length - (1 : Nat) ∧ (fun i => [RV.int IntKind.i64 ((rowAt (chainsM L) j).getD (i + (1 : Nat)) (0 : Int))]) = fun i => [RV.int IntKind.i64 ((rowAt (chainsM L) j).getD (i + (1 : Nat)) (0 : Int))], (↑((rowAt (chainsM L) j).length - (1 : Nat)) : Int) = (↑((rowAt (chainsM L) j).length - (1 : Nat)) : Int), IntKind.i64.wrap ((↑k : Int) + (1 : Int)) = (↑(k + (1 : Nat)) : Int), p = p, L.length = L.length ∧ (fun i => (L.getD i Con.zero).rvs) = fun i => (L.getD i Con.zero).rvs, Dec ((L.getD ((rowAt (chainsM L) j).getD (k + (1 : Nat)) (0 : Int)).toNat Con.zero).sign == (-1 : Int)) false, (0 : Int) ≤ (rowAt (chainsM L) j).getD (k + (1 : Nat)) (0 : Int) ∧ (rowAt (chainsM L) j).getD (k + (1 : Nat)) (0 : Int) < (↑L.length : Int), (0 : Int) ≤ (↑k : Int) ∧ (↑k : Int) < (↑((rowAt (chainsM L) j).length - (1 : Nat)) : Int), Dec (decide ((↑k : Int) < (↑((rowAt (chainsM L) j).length - (1 : Nat)) : Int))) true], by kernel_rfl, ⟨?_, ?_, ?_, ?_, ?_, ?_, ?_, ?_, d2, ?_, ?_, d1⟩, MuG.out ?_, InG.out ?_⟩⟩))
           (fun d1 => CtG.no ?_)
      all_goals first | (refine MuG.mk ?_; (simp only [decide_eq_true_eq] at d1; show (rowAt (chainsM L) j).length - (k + 1) < (rowAt (chainsM L) j).length - k; omega)) | (refine InG.mk ?_; (simp only [ek, decide_eq_true_eq] at *; exact ⟨by omega, by rw [← hf, sgR_1 (by omega) d2], hs⟩)) | (refine CtG.mk ?_; (simp only [decide_eq_true_eq, decide_eq_false_iff_not] at *; first | (rw [← hf, sgR_3 (by omega)] at hs; cases hs; done) | (rw [← hf, sgR_2 (by omega) d2] at hs; cases hs; done))) | (first | (with_reducible rfl) | exact ⟨rfl, rfl⟩ | decide | ((try simp only [ek, Int.toNat_natCast, decide_eq_true_eq, decide_eq_false_iff_not] at *) <;> first | omega | (rw [← hf, sgR_3 (by omega)]; done) | (rw [← hf, sgR_2 (by omega) d2]; done) | (have h2 := hr.at (t := k + 1) (by omega); omega)))
    · -- d = true
      obtain ⟨ht, hf, hs⟩ := hI
      have ht : k ≤ (rowAt (chainsM L) j).length - 1 := ht
      have hf : sgR L ((rowAt (chainsM L) j).drop (k + 1)) = sgR L ((rowAt (chainsM L) j).drop 1) := hf
      have ek : IntKind.i64.wrap ((k : Int) + 1) = ((k + 1 : Nat) : Int) := by rw [w64 (by omega) (by omega)]; omega
      refine Or.elim (Bool.eq_false_or_eq_true (decide ((↑k : Int) < (↑((rowAt (chainsM L) j).length - (1 : Nat)) : Int)))) (fun d1 => Or.elim (Bool.eq_false_or_eq_true ((L.getD ((rowAt (chainsM L) j).getD (k + (1 : Nat)) (0 : Int)).toNat Con.zero).sign == (-1 : Int))) (fun d2 => CtG.no ?_)
           (fun d2 => ⟨[true, false], .inl ⟨(k + 1), [(chainsM L).length = (chainsM L).length ∧ (fun i => [rI IntKind.i64 ((chainsM L).getD i [])]) = fun i => [rI IntKind.i64 ((chainsM L).getD i [])], (↑(chainsM L).length : Int) = (↑(chainsM L).length : Int), (↑j : Int) = (↑j : Int), (rowAt (chainsM L) j).length - (1 : Nat) = (rowAt (chainsM L) j).length - (1 : Nat) ∧ (fun i => [RV.int IntKind.i64 ((rowAt (chainsM L) j).getD (i + (1 : Nat)) (0 : Int))]) = fun i => [RV.int IntKind.i64 ((rowAt (chainsM L) j).getD (i + (1 : Nat)) (0 : Int))], (↑((rowAt (chainsM L) j).length - (1 : Nat)) : Int) = (↑((rowAt (chainsM L) j).length - (1 : Nat)) : Int), IntKind.i64.wrap ((↑k : Int) + (1 : Int)) = (↑(k + (1 : Nat)) : Int), p = p, L.length = L.length ∧ (fun i => (L.getD i Con.zero).rvs) = fun i => (L.getD i Con.zero).rvs, Dec ((L.getD ((rowAt (chainsM L) j).getD (k + (1 : Nat)) (0 : Int)).toNat Con.zero).sign == (-1 : Int)) false, (0 : Int) ≤ (rowAt (chainsM L) j).getD (k + (1 : Nat)) (0 : Int) ∧ (rowAt (chainsM L) j).getD (k + (1 : Nat)) (0 : Int) < (↑L.length : Int), (0 : Int) ≤ (↑k : Int) ∧ (↑k : Int) < (↑((rowAt (chainsM L) j).length - (1 : Nat)) : Int), Dec (decide ((↑k : Int) < (↑((rowAt (chainsM L) j).length - (1 : Nat)) : Int))) true], by kernel_rfl, ⟨?_, ?_, ?_, ?_, ?_, ?_, ?_, ?_, d2, ?_, ?_, d1⟩, MuG.out ?_, InG.out ?_⟩⟩))
           (fun d1 => ⟨[false], .inr ⟨[(chainsM L).length = (chainsM L).length ∧ (fun i => [rI IntKind.i64 ((chainsM L).getD i [])]) = fun i => [rI IntKind.i64 ((chainsM L).getD i [])], (↑(chainsM L).length : Int) = (↑(chainsM L).length : Int), (↑j : Int) = (↑j : Int), p = p, L.length = L.length ∧ (fun i => (L.getD i Con.zero).rvs) = fun i => (L.getD i Con.zero).rvs, Dec (decide ((↑k : Int) < (↑((rowAt (chainsM L) j).length - (1 : Nat)) : Int))) false], by kernel_rfl, ⟨?_, ?_, ?_, ?_, ?_, d1⟩, rfl⟩⟩)
      all_goals first | (refine MuG.mk ?_; (simp only [decide_eq_true_eq] at d1; show (rowAt (chainsM L) j).length - (k + 1) < (rowAt (chainsM L) j).length - k; omega)) | (refine InG.mk ?_; (simp only [ek, decide_eq_true_eq] at *; exact ⟨by omega, by rw [← hf, sgR_1 (by omega) d2], hs⟩)) | (refine CtG.mk ?_; (simp only [decide_eq_true_eq, decide_eq_false_iff_not] at *; first | (rw [← hf, sgR_3 (by omega)] at hs; cases hs; done) | (rw [← hf, sgR_2 (by omega) d2] at hs; cases hs; done))) | (first | (with_reducible rfl) | exact ⟨rfl, rfl⟩ | decide | ((try simp only [ek, Int.toNat_natCast, decide_eq_true_eq, decide_eq_false_iff_not] at *) <;> first | omega | (rw [← hf, sgR_3 (by omega)]; done) | (rw [← hf, sgR_2 (by omega) d2]; done) | (have h2 := hr.at (t := k + 1) (by omega); omega)))
noncomputable def icOut (p : Int) (L : List Con) : Ann := ⟨⟨icT L (.int .i64 0), fiH p L, 1020⟩, some (fstM L (chainsM L)), fun d => match d with
  | true => (.exit 0, ⟨[(1, .ptr 1000 0)], fiH p L, 1020⟩)
  | false => (.ret, ⟨[(2, .bool false)], fiH p L, 1020⟩)⟩
set_option maxRecDepth 100000 in
theorem ic_out (p : Int) (L : List Con) (hL : okL L) : AnnOk Tryz.prog EV.ng (Nat.max 1 Tryz.f41.ntmps) (bodyAt Tryz.f41 [0, 1, 0, 1, 1]) (icOut p L) := by
  refine ann_ofI evOk (callF_ok evOk (noOrc_ok _ _) 8) (by kernel_rfl) (by kernel_rfl) (fun i : Nat => (fun (j : Nat) => (⟨icT L (.vint .i64 (j : Int)), fiH p L, 1020⟩ : St)) i) (fun i : Nat => (fun (j : Nat) => ((chainsM L).length - j : Nat)) i) (fun (d : Bool) (i : Nat) => (fun (j : Nat) => (j ≤ (chainsM L).length ∧ fstM L ((chainsM L).drop j) = fstM L (chainsM L) ∧ fstM L (chainsM L) = d : Prop)) i) (fun i : Nat => (fun (j : Nat) => ([([0, 1, 1, 0, 0, 1, 1, 0, 0, 1, 0, 1, 1], icIn p L j)] : List (List Nat × Ann))) i) ?_ ?_ ?_
  · rintro d hd j hI
    have hr : inR L.length (rowAt (chainsM L) j) ∧ (rowAt (chainsM L) j).length ≤ 1000 := by
      have := hL.1
      rcases Nat.lt_or_ge j (chainsM L).length with h | h
      · have h1 := chains_rows _ (rowAt_mem h)
        exact ⟨h1.2.1, by omega⟩
      · have e : rowAt (chainsM L) j = [] := by simp [rowAt, h]
        rw [e]; exact ⟨fun x hx => by simp at hx, by simp⟩
    exact one_ann (ic_in p L j hr.1 hr.2)
  · intro d hd
    exact ⟨(0), [(chainsM L).length = (chainsM L).length ∧ (fun i => [rI IntKind.i64 ((chainsM L).getD i [])]) = fun i => [rI IntKind.i64 ((chainsM L).getD i [])], (↑(chainsM L).length : Int) = (↑(chainsM L).length : Int), (0 : Int) = (↑(0 : Nat) : Int), p = p, L.length = L.length ∧ (fun i => (L.getD i Con.zero).rvs) = fun i => (L.getD i Con.zero).rvs], by kernel_rfl, (by refine ⟨?_, ?_, ?_, ?_, (?_ : L.length = L.length ∧ (fun i => (L.getD i Con.zero).rvs) = fun i => (L.getD i Con.zero).rvs)⟩ <;> (first | rfl | assumption | omega | simp_all)), (by exact ⟨Nat.zero_le _, rfl, hd⟩)⟩
  · rintro d hd j hI
    cases d
    · -- d = false
      obtain ⟨ht, hf, hs⟩ := hI
      have ht : j ≤ (chainsM L).length := ht
      have hf : fstM L ((chainsM L).drop j) = fstM L (chainsM L) := hf
      have hl := hL.1
      have hc := chains_len (L := L)
      have ek : IntKind.i64.wrap ((j : Int) + 1) = ((j + 1 : Nat) : Int) := by rw [w64 (by omega) (by omega)]; omega
      refine Or.elim (Bool.eq_false_or_eq_true (decide ((↑j : Int) < (↑(chainsM L).length : Int)))) (fun d1 => Or.elim (Bool.eq_false_or_eq_true (sgR L (List.drop (1 : Nat) (rowAt (chainsM L) j)))) (fun d2 => ⟨[true, true], .inl ⟨(j + 1), [(chainsM L).length = (chainsM L).length ∧ (fun i => [rI IntKind.i64 ((chainsM L).getD i [])]) = fun i => [rI IntKind.i64 ((chainsM L).getD i [])], (↑(chainsM L).length : Int) = (↑(chainsM L).length : Int), IntKind.i64.wrap ((↑j : Int) + (1 : Int)) = (↑(j + (1 : Nat)) : Int), p = p, L.length = L.length ∧ (fun i => (L.getD i Con.zero).rvs) = fun i => (L.getD i Con.zero).rvs, (chainsM L).length = (chainsM L).length ∧ (fun i => [rI IntKind.i64 ((chainsM L).getD i [])]) = fun i => [rI IntKind.i64 ((chainsM L).getD i [])], (↑(chainsM L).length : Int) = (↑(chainsM L).length : Int), (↑j : Int) = (↑j : Int), ((chainsM L).getD j []).length - Int.toNat (1 : Int) = (rowAt (chainsM L) j).length - (1 : Nat) ∧ (fun i => (fun j_1 => [RV.int IntKind.i64 (((chainsM L).getD j []).getD j_1 (0 : Int))]) (i + Int.toNat (1 : Int))) = fun i => [RV.int IntKind.i64 ((rowAt (chainsM L) j).getD (i + (1 : Nat)) (0 : Int))], (↑(((chainsM L).getD j []).length - Int.toNat (1 : Int)) : Int) = (↑((rowAt (chainsM L) j).length - (1 : Nat)) : Int), p = p, L.length = L.length ∧ (fun i => (L.getD i Con.zero).rvs) = fun i => (L.getD i Con.zero).rvs, Dec (sgR L (List.drop (1 : Nat) (rowAt (chainsM L) j))) true, (0 : Int) ≤ (1 : Int) ∧ (1 : Int) ≤ (↑((chainsM L).getD j []).length : Int), (0 : Int) ≤ (↑j : Int) ∧ (↑j : Int) < (↑(chainsM L).length : Int), Dec (decide ((↑j : Int) < (↑(chainsM L).length : Int))) true], by kernel_rfl, ⟨?_, ?_, ?_, ?_, ?_, ?_, ?_, ?_, ?_, ?_, ?_, ?_, d2, ?_, ?_, d1⟩, MuG.out ?_, InG.out ?_⟩⟩)
           (fun d2 => ⟨[true, false], .inr ⟨[p = p, L.length = L.length ∧ (fun i => (L.getD i Con.zero).rvs) = fun i => (L.getD i Con.zero).rvs, (chainsM L).length = (chainsM L).length ∧ (fun i => [rI IntKind.i64 ((chainsM L).getD i [])]) = fun i => [rI IntKind.i64 ((chainsM L).getD i [])], (↑(chainsM L).length : Int) = (↑(chainsM L).length : Int), (↑j : Int) = (↑j : Int), ((chainsM L).getD j []).length - Int.toNat (1 : Int) = (rowAt (chainsM L) j).length - (1 : Nat) ∧ (fun i => (fun j_1 => [RV.int IntKind.i64 (((chainsM L).getD j []).getD j_1 (0 : Int))]) (i + Int.toNat (1 : Int))) = fun i => [RV.int IntKind.i64 ((rowAt (chainsM L) j).getD (i + (1 : Nat)) (0 : Int))], (↑(((chainsM L).getD j []).length - Int.toNat (1 : Int)) : Int) = (↑((rowAt (chainsM L) j).length - (1 : Nat)) : Int), p = p, L.length = L.length ∧ (fun i => (L.getD i Con.zero).rvs) = fun i => (L.getD i Con.zero).rvs, Dec (sgR L (List.drop (1 : Nat) (rowAt (chainsM L) j))) false, (0 : Int) ≤ (1 : Int) ∧ (1 : Int) ≤ (↑((chainsM L).getD j []).length : Int), (0 : Int) ≤ (↑j : Int) ∧ (↑j : Int) < (↑(chainsM L).length : Int), Dec (decide ((↑j : Int) < (↑(chainsM L).length : Int))) true], by kernel_rfl, ⟨?_, ?_, ?_, ?_, ?_, ?_, ?_, ?_, ?_, d2, ?_, ?_, d1⟩, rfl⟩⟩))
           (fun d1 => CtG.no ?_)
      all_goals first | (refine MuG.mk ?_; (simp only [decide_eq_true_eq] at d1; show (chainsM L).length - (j + 1) < (chainsM L).length - j; omega)) | (refine InG.mk ?_; (simp only [decide_eq_true_eq] at d1; exact ⟨by omega, by rw [← hf]; exact (fst_1 (by omega) d2).symm, hs⟩)) | (refine CtG.mk ?_; (simp only [decide_eq_true_eq, decide_eq_false_iff_not] at d1; first | (rw [← hf, fst_3 (by omega)] at hs; cases hs; done) | (rw [← hf, fst_2 (by omega) d2] at hs; cases hs; done))) | (first | (with_reducible rfl) | exact ⟨rfl, rfl⟩ | decide | ((try simp only [ek, Int.toNat_natCast, Int.toNat_zero, decide_eq_true_eq, decide_eq_false_iff_not] at *) <;> first | omega | (rw [← hf, fst_3 (by omega)]; done) | (rw [← hf, fst_2 (by omega) d2]; done) | (have h0 := chains_rows _ (rowAt_mem (P := chainsM L) (t := j) (by omega)); have h1 : 0 < (rowAt (chainsM L) j).length := List.length_pos_iff.2 h0.1; have h2 : 0 < ((chainsM L).getD j []).length := h1; first | omega | rfl)))
    · -- d = true
      obtain ⟨ht, hf, hs⟩ := hI
      have ht : j ≤ (chainsM L).length := ht
      have hf : fstM L ((chainsM L).drop j) = fstM L (chainsM L) := hf
      have hl := hL.1
      have hc := chains_len (L := L)
      have ek : IntKind.i64.wrap ((j : Int) + 1) = ((j + 1 : Nat) : Int) := by rw [w64 (by omega) (by omega)]; omega
      refine Or.elim (Bool.eq_false_or_eq_true (decide ((↑j : Int) < (↑(chainsM L).length : Int)))) (fun d1 => Or.elim (Bool.eq_false_or_eq_true (sgR L (List.drop (1 : Nat) (rowAt (chainsM L) j)))) (fun d2 => ⟨[true, true], .inl ⟨(j + 1), [(chainsM L).length = (chainsM L).length ∧ (fun i => [rI IntKind.i64 ((chainsM L).getD i [])]) = fun i => [rI IntKind.i64 ((chainsM L).getD i [])], (↑(chainsM L).length : Int) = (↑(chainsM L).length : Int), IntKind.i64.wrap ((↑j : Int) + (1 : Int)) = (↑(j + (1 : Nat)) : Int), p = p, L.length = L.length ∧ (fun i => (L.getD i Con.zero).rvs) = fun i => (L.getD i Con.zero).rvs, (chainsM L).length = (chainsM L).length ∧ (fun i => [rI IntKind.i64 ((chainsM L).getD i [])]) = fun i => [rI IntKind.i64 ((chainsM L).getD i [])], (↑(chainsM L).length : Int) = (↑(chainsM L).length : Int), (↑j : Int) = (↑j : Int), ((chainsM L).getD j []).length - Int.toNat (1 : Int) = (rowAt (chainsM L) j).length - (1 : Nat) ∧ (fun i => (fun j_1 => [RV.int IntKind.i64 (((chainsM L).getD j []).getD j_1 (0 : Int))]) (i + Int.toNat (1 : Int))) = fun i => [RV.int IntKind.i64 ((rowAt (chainsM L) j).getD (i + (1 : Nat)) (0 : Int))], (↑(((chainsM L).getD j []).length - Int.toNat (1 : Int)) : Int) = (↑((rowAt (chainsM L) j).length - (1 : Nat)) : Int), p = p, L.length = L.length ∧ (fun i => (L.getD i Con.zero).rvs) = fun i => (L.getD i Con.zero).rvs, Dec (sgR L (List.drop (1 : Nat) (rowAt (chainsM L) j))) true, (0 : Int) ≤ (1 : Int) ∧ (1 : Int) ≤ (↑((chainsM L).getD j []).length : Int), (0 : Int) ≤ (↑j : Int) ∧ (↑j : Int) < (↑(chainsM L).length : Int), Dec (decide ((↑j : Int) < (↑(chainsM L).length : Int))) true], by kernel_rfl, ⟨?_, ?_, ?_, ?_, ?_, ?_, ?_, ?_, ?_, ?_, ?_, ?_, d2, ?_, ?_, d1⟩, MuG.out ?_, InG.out ?_⟩⟩)
           (fun d2 => CtG.no ?_))
           (fun d1 => ⟨[false], .inr ⟨[p = p, L.length = L.length ∧ (fun i => (L.getD i Con.zero).rvs) = fun i => (L.getD i Con.zero).rvs, Dec (decide ((↑j : Int) < (↑(chainsM L).length : Int))) false], by kernel_rfl, ⟨?_, ?_, d1⟩, rfl⟩⟩)
      all_goals first | (refine MuG.mk ?_; (simp only [decide_eq_true_eq] at d1; show (chainsM L).length - (j + 1) < (chainsM L).length - j; omega)) | (refine InG.mk ?_; (simp only [decide_eq_true_eq] at d1; exact ⟨by omega, by rw [← hf]; exact (fst_1 (by omega) d2).symm, hs⟩)) | (refine CtG.mk ?_; (simp only [decide_eq_true_eq, decide_eq_false_iff_not] at d1; first | (rw [← hf, fst_3 (by omega)] at hs; cases hs; done) | (rw [← hf, fst_2 (by omega) d2] at hs; cases hs; done))) | (first | (with_reducible rfl) | exact ⟨rfl, rfl⟩ | decide | ((try simp only [ek, Int.toNat_natCast, Int.toNat_zero, decide_eq_true_eq, decide_eq_false_iff_not] at *) <;> first | omega | (rw [← hf, fst_3 (by omega)]; done) | (rw [← hf, fst_2 (by omega) d2]; done) | (have h0 := chains_rows _ (rowAt_mem (P := chainsM L) (t := j) (by omega)); have h1 : 0 < (rowAt (chainsM L) j).length := List.length_pos_iff.2 h0.1; have h2 : 0 < ((chainsM L).getD j []).length := h1; first | omega | rfl)))
set_option maxRecDepth 100000 in
theorem tic_yes (p : Int) (L : List Con) (hL : okL L) (hne : 0 < L.length) (hf : fusM p L = true) : PureC Tryz.prog [] 41 [.agg [.int .i64 p, roC L]] (.bool (fstM L (chainsM L) && (refM L).isSome)) := by
  have hl := hL.1; have k1 : fusM p (consR L.length fun i => (L.getD i Con.zero).rvs) = true := (by rw [consR_ro]; exact hf)
  have rr := fun (tp : List Bool) (ms : List Prop) h hm => pure_run evOk (callF_ok evOk (orcOf_ok entsIC_ok) 8) Tryz.func41 (A := [.agg [.int .i64 p, roC L]]) (N := Nat.max 1 Tryz.f41.ntmps) rfl (one_ann (ic_out p L hL)) rfl rfl evNg (tabs := []) (R := .bool (fstM L (chainsM L) && (refM L).isSome)) (tp := tp) (ms := ms) h hm
  refine Or.elim (Bool.eq_false_or_eq_true (fstM L (chainsM L))) (fun d1 => rr [false, true] [rfB p (consR L.length fun i => (L.getD i Con.zero).rvs) = (fstM L (chainsM L) && (refM L).isSome), (∀ (i : Nat), i < L.length → (fun i => (L.getD i Con.zero).rvs) i = (Con.ofR ((fun i => (L.getD i Con.zero).rvs) i)).rvs) ∧ L.length ≤ (1000 : Nat), (chainsM (consR L.length fun i => (L.getD i Con.zero).rvs)).length = (chainsM L).length ∧ (fun i => [rI IntKind.i64 ((chainsM (consR L.length fun i => (L.getD i Con.zero).rvs)).getD i [])]) = fun i => [rI IntKind.i64 ((chainsM L).getD i [])], (↑(chainsM (consR L.length fun i => (L.getD i Con.zero).rvs)).length : Int) = (↑(chainsM L).length : Int), p = p, L.length = L.length ∧ (fun i => (L.getD i Con.zero).rvs) = fun i => (L.getD i Con.zero).rvs, Dec (fstM L (chainsM L)) true, (∀ (i : Nat), i < L.length → (fun i => (L.getD i Con.zero).rvs) i = (Con.ofR ((fun i => (L.getD i Con.zero).rvs) i)).rvs) ∧ okL (consR L.length fun i => (L.getD i Con.zero).rvs) ∧ (0 : Nat) < L.length, Dec (!fusM p (consR L.length fun i => (L.getD i Con.zero).rvs)) false, (∀ (i : Nat), i < L.length → (fun i => (L.getD i Con.zero).rvs) i = (Con.ofR ((fun i => (L.getD i Con.zero).rvs) i)).rvs) ∧ L.length ≤ (1000 : Nat)] (by kernel_rfl) ⟨?_, ?_, ?_, ?_, ?_, ?_, d1, ?_, (dN k1), (?_ : (∀ (i : Nat), i < L.length → (fun i => (L.getD i Con.zero).rvs) i = (Con.ofR ((fun i => (L.getD i Con.zero).rvs) i)).rvs) ∧ L.length ≤ (1000 : Nat))⟩)
           (fun d1 => rr [false, false] [false = (fstM L (chainsM L) && (refM L).isSome), (chainsM (consR L.length fun i => (L.getD i Con.zero).rvs)).length = (chainsM L).length ∧ (fun i => [rI IntKind.i64 ((chainsM (consR L.length fun i => (L.getD i Con.zero).rvs)).getD i [])]) = fun i => [rI IntKind.i64 ((chainsM L).getD i [])], (↑(chainsM (consR L.length fun i => (L.getD i Con.zero).rvs)).length : Int) = (↑(chainsM L).length : Int), p = p, L.length = L.length ∧ (fun i => (L.getD i Con.zero).rvs) = fun i => (L.getD i Con.zero).rvs, Dec (fstM L (chainsM L)) false, (∀ (i : Nat), i < L.length → (fun i => (L.getD i Con.zero).rvs) i = (Con.ofR ((fun i => (L.getD i Con.zero).rvs) i)).rvs) ∧ okL (consR L.length fun i => (L.getD i Con.zero).rvs) ∧ (0 : Nat) < L.length, Dec (!fusM p (consR L.length fun i => (L.getD i Con.zero).rvs)) false, (∀ (i : Nat), i < L.length → (fun i => (L.getD i Con.zero).rvs) i = (Con.ofR ((fun i => (L.getD i Con.zero).rvs) i)).rvs) ∧ L.length ≤ (1000 : Nat)] (by kernel_rfl) ⟨?_, ?_, ?_, ?_, ?_, d1, ?_, (dN k1), (?_ : (∀ (i : Nat), i < L.length → (fun i => (L.getD i Con.zero).rvs) i = (Con.ofR ((fun i => (L.getD i Con.zero).rvs) i)).rvs) ∧ L.length ≤ (1000 : Nat))⟩)
  all_goals first | (first | (with_reducible rfl) | exact ⟨rfl, rfl⟩ | exact ⟨fun _ _ => rfl, hl⟩ | exact ⟨fun _ _ => rfl, by rw [consR_ro]; exact hL, hne⟩ | (rw [d1]; rfl) | (rw [d1, Bool.true_and, consR_ro]; unfold rfB; rw [hf, Bool.true_and]; done) | (rw [consR_ro]; exact ⟨rfl, rfl⟩) | (rw [consR_ro]; done) | exact (5 : Nat))
set_option maxRecDepth 100000 in
theorem tic_no (p : Int) (L : List Con) (hn : L.length ≤ 1000) (hf : fusM p L = false) : PureC Tryz.prog [] 41 [.agg [.int .i64 p, roC L]] (.bool false) := by
  have k1 : fusM p (consR L.length fun i => (L.getD i Con.zero).rvs) = false := (by rw [consR_ro]; exact hf)
  have rr := fun (tp : List Bool) (ms : List Prop) h hm => pure_run evOk (callF_ok evOk (orcOf_ok entsIC_ok) 8) Tryz.func41 (A := [.agg [.int .i64 p, roC L]]) rfl none_ann rfl rfl evNg (tabs := []) (R := .bool false) (tp := tp) (ms := ms) h hm
  refine rr [true] [false = false, Dec (!fusM p (consR L.length fun i => (L.getD i Con.zero).rvs)) true, (∀ (i : Nat), i < L.length → (fun i => (L.getD i Con.zero).rvs) i = (Con.ofR ((fun i => (L.getD i Con.zero).rvs) i)).rvs) ∧ L.length ≤ (1000 : Nat)] (by kernel_rfl) ⟨?_, (dN k1), (?_ : (∀ (i : Nat), i < L.length → (fun i => (L.getD i Con.zero).rvs) i = (Con.ofR ((fun i => (L.getD i Con.zero).rvs) i)).rvs) ∧ L.length ≤ (1000 : Nat))⟩
  all_goals first | (first | rfl | exact ⟨rfl, rfl⟩ | exact ⟨fun _ _ => rfl, hn⟩)
theorem tic_pure (p : Int) (L : List Con) (hn : L.length ≤ 1000) : PureC Tryz.prog [] 41 [.agg [.int .i64 p, roC L]] (.bool (icM p L)) := by
  unfold icM
  cases h : fusM p L with
  | false => exact tic_no p L hn h
  | true =>
    have := fus_p h
    subst this
    exact tic_yes 2 L (fus_okL h) (fus_parts h).2.1 h
end Go.Proofs.YtcfdaddablojlaaGreatDoor.S

/- quadformref26.Canonical. -/
set_option linter.unusedSimpArgs false
set_option linter.unusedVariables false
namespace Go.Proofs.YtcfdaddablojlaaGreatDoor.S
open Go.QfSy Go.RowKit

theorem canG_end {M : List Con} {k : Nat} (h : ¬ 1 ≤ k) : canG M k = M := by
  have : k = 0 := by omega
  subst this; rfl
theorem canG_no {M : List Con} {k : Nat} (h : 1 ≤ k) (hs : ((at_ M k).sign == -1 && linkM M k) = false) : canG M (k - 1) = canG M k := by
  obtain ⟨j, rfl⟩ : ∃ j, k = j + 1 := ⟨k - 1, by omega⟩
  show canG M j = canG (canS M (j + 1)) j
  rw [canS, hs]; rfl
theorem canG_yes {M : List Con} {k : Nat} (h : 1 ≤ k) (hs : ((at_ M k).sign == -1 && linkM M k) = true) : canG (stepM M k) (k - 1) = canG M k := by
  obtain ⟨j, rfl⟩ : ∃ j, k = j + 1 := ⟨k - 1, by omega⟩
  show canG (stepM M (j + 1)) j = canG (canS M (j + 1)) j
  rw [canS, hs]; rfl

end Go.Proofs.YtcfdaddablojlaaGreatDoor.S

/- (quadformscene.Symbol).Any and quadformscene.Bent. -/
set_option linter.unusedSimpArgs false
set_option linter.unusedVariables false
namespace Go.Proofs.YtcfdaddablojlaaGreatDoor.S
open Go.QfSy Go.RowKit

end Go.Proofs.YtcfdaddablojlaaGreatDoor.S

/- Plain: lengths. -/
set_option linter.unusedSimpArgs false
set_option linter.unusedVariables false
namespace Go.Proofs.YtcfdaddablojlaaGreatDoor.S
open Go.QfSy Go.RowKit

end Go.Proofs.YtcfdaddablojlaaGreatDoor.S

/- train.Canonical; both Fuses and both Canonicals, whatever they are given. -/
set_option linter.unusedSimpArgs false
set_option linter.unusedVariables false
namespace Go.Proofs.YtcfdaddablojlaaGreatDoor.S
open Go.QfSy Go.RowKit

noncomputable def entsVK : List OEnt := [
  ⟨54, [], fun A => match A with
    | [.agg [.int .i64 p, .sl n 5 row], .int .i64 a] => some (.agg [.int .i64 2, roC (stepM (consR n row) a.toNat)], [(∀ i, i < n → row i = (Con.ofR (row i)).rvs) ∧ p = 2 ∧ okL (consR n row) ∧ 1 ≤ a ∧ a < (n : Int)])
    | _ => none⟩,
  ⟨53, [], fun A => match A with
    | [.agg [.int .i64 p, .sl n 5 row], .int .i64 a] => some (.bool (linkM (consR n row) a.toNat), [(∀ i, i < n → row i = (Con.ofR (row i)).rvs) ∧ okL (consR n row) ∧ 1 ≤ a ∧ a < (n : Int)])
    | _ => none⟩,
  ⟨19, [], fun A => match A with
    | [.agg [.int .i64 p, .sl n 5 row]] => some (.tup [.agg [.int .i64 2, roC (fuseM (consR n row))], .bool true], [(∀ i, i < n → row i = (Con.ofR (row i)).rvs) ∧ p = 2 ∧ okL (consR n row) ∧ val2M 2 (consR n row) = true ∧ 0 < n])
    | _ => none⟩]
theorem entsVK_ok : ∀ e ∈ entsVK, EntOk Tryz.prog e := by
  intro e he
  simp only [entsVK, List.mem_cons, List.not_mem_nil, or_false] at he
  rcases he with rfl | rfl | rfl
  all_goals
    intro A R ms h hm
    simp only at h
    split at h
    all_goals first | (cases h; done) | cases h
  · obtain ⟨h1, h2, h3, h4, h5⟩ := all_one hm
    rename_i a
    subst h2
    have e : ((a.toNat : Nat) : Int) = a := by omega
    have := twalk_pure _ a.toNat h3 (by omega) (by rw [consR_len]; omega)
    rw [e] at this
    exact PureC.imp this (.cons (.agg (.cons .same (.cons (.con h1) .nil))) (.cons .same .nil))
  · obtain ⟨h1, h3, h4, h5⟩ := all_one hm
    rename_i p _ _ a
    have e : ((a.toNat : Nat) : Int) = a := by omega
    have := tlinked_pure p _ a.toNat h3 (by omega) (by rw [consR_len]; omega)
    rw [e] at this
    exact PureC.imp this (.cons (.agg (.cons .same (.cons (.con h1) .nil))) (.cons .same .nil))
  · obtain ⟨h1, h2, h4, h5, h6⟩ := all_one hm
    subst h2
    exact PureC.imp (tfuse_yes _ h4 h5 (by rw [consR_len]; exact h6)) (.cons (.agg (.cons .same (.cons (.con h1) .nil))) .nil)
noncomputable def tcnH (M : List Con) : List (Nat × Blk) := [(1001, ⟨.plain [.int .i64 0, .nils], 24, 0, false, true⟩), (1002, ⟨.plain [.vint .i64 2, (roC M).av], 24, 0, false, true⟩)]
noncomputable def tcnAnn (L : List Con) : Ann := ⟨⟨[(2, .ptr 1001 0), (4, .ptr 1002 0), (6, .vint .i64 (IntKind.i64.wrap (((fuseM L).length : Int) - 1)))], tcnH (fuseM L), 1020⟩, none, fun _ =>
  (.exit 0, ⟨[(2, .ptr 1001 0), (4, .ptr 1002 0)], tcnH (canM L), 1020⟩)⟩
set_option maxRecDepth 100000 in
theorem tcn_loop (L : List Con) (hL : okL (fuseM L)) (hne : 0 < (fuseM L).length) : AnnOk Tryz.prog EV.ng (Nat.max 1 Tryz.f22.ntmps) (bodyAt Tryz.f22 [0, 1, 0, 1, 1, 1]) (tcnAnn L) := by
  refine ann_of evOk (callF_ok evOk (orcOf_ok entsVK_ok) 8) none_ann (by kernel_rfl) (by kernel_rfl) (fun i : Nat × List Con => (fun (k : Nat) (M : List Con) => (⟨[(2, .ptr 1001 0), (4, .ptr 1002 0), (6, .vint .i64 (k : Int))], tcnH M, 1020⟩ : St)) i.1 i.2) (fun i : Nat × List Con => (fun (k : Nat) (M : List Con) => (k : Nat)) i.1 i.2) (fun (d : Bool) (i : Nat × List Con) => (fun (k : Nat) (M : List Con) => (okL M ∧ k < M.length ∧ canG M k = canM L : Prop)) i.1 i.2) ?_ ?_
  · intro d hd
    exact ⟨((fuseM L).length - 1, fuseM L), [IntKind.i64.wrap ((↑(fuseM L).length : Int) - (1 : Int)) = (↑((fuseM L).length - (1 : Nat)) : Int), (2 : Int) = (2 : Int), (fuseM L).length = (fuseM L).length ∧ (fun i => ((fuseM L).getD i Con.zero).rvs) = fun i => ((fuseM L).getD i Con.zero).rvs], by kernel_rfl, (by refine ⟨?_, ?_, (?_ : (fuseM L).length = (fuseM L).length ∧ (fun i => ((fuseM L).getD i Con.zero).rvs) = fun i => ((fuseM L).getD i Con.zero).rvs)⟩ <;> (first | rfl | exact ⟨rfl, rfl⟩ | (have := hL.1; rw [w64 (by omega) (by omega)]; omega))), (by exact ⟨hL, Nat.sub_lt hne (by decide), rfl⟩)⟩
  · rintro d hd ⟨k, M⟩ hI
    cases d
    · -- d = false
      exact Bool.noConfusion (show false = true from hd)
    · -- d = true
      obtain ⟨hM, hk, hc⟩ := hI
      have hl := hM.1
      have ek : IntKind.i64.wrap ((k : Int) - 1) = (k : Int) - 1 := w64 (by omega) (by omega)
      refine Or.elim (Bool.eq_false_or_eq_true (decide ((↑k : Int) > (0 : Int)))) (fun d1 => Or.elim (Bool.eq_false_or_eq_true ((M.getD k Con.zero).sign == (-1 : Int))) (fun d2 => Or.elim (Bool.eq_false_or_eq_true (linkM (consR M.length fun i => (M.getD i Con.zero).rvs) k)) (fun d3 => ⟨[true, true, true], .inl ⟨(k - 1, canS M k), [IntKind.i64.wrap ((↑k : Int) - (1 : Int)) = (↑(k - (1 : Nat)) : Int), (2 : Int) = (2 : Int), (stepM (consR M.length fun i => (M.getD i Con.zero).rvs) k).length = (canS M k).length ∧ (fun i => ((stepM (consR M.length fun i => (M.getD i Con.zero).rvs) k).getD i Con.zero).rvs) = fun i => ((canS M k).getD i Con.zero).rvs, (∀ (i : Nat), i < M.length → (fun i => (M.getD i Con.zero).rvs) i = (Con.ofR ((fun i => (M.getD i Con.zero).rvs) i)).rvs) ∧ (2 : Int) = (2 : Int) ∧ okL (consR M.length fun i => (M.getD i Con.zero).rvs) ∧ (1 : Int) ≤ (↑k : Int) ∧ (↑k : Int) < (↑M.length : Int), Dec (linkM (consR M.length fun i => (M.getD i Con.zero).rvs) k) true, (∀ (i : Nat), i < M.length → (fun i => (M.getD i Con.zero).rvs) i = (Con.ofR ((fun i => (M.getD i Con.zero).rvs) i)).rvs) ∧ okL (consR M.length fun i => (M.getD i Con.zero).rvs) ∧ (1 : Int) ≤ (↑k : Int) ∧ (↑k : Int) < (↑M.length : Int), Dec ((M.getD k Con.zero).sign == (-1 : Int)) true, (0 : Int) ≤ (↑k : Int) ∧ (↑k : Int) < (↑M.length : Int), Dec (decide ((↑k : Int) > (0 : Int))) true], by kernel_rfl, ⟨?_, ?_, ?_, ?_, d3, ?_, d2, ?_, d1⟩, MuG.out ?_, InG.out ?_⟩⟩)
           (fun d3 => ⟨[true, true, false], .inl ⟨(k - 1, canS M k), [IntKind.i64.wrap ((↑k : Int) - (1 : Int)) = (↑(k - (1 : Nat)) : Int), (2 : Int) = (2 : Int), M.length = (canS M k).length ∧ (fun i => (M.getD i Con.zero).rvs) = fun i => ((canS M k).getD i Con.zero).rvs, Dec (linkM (consR M.length fun i => (M.getD i Con.zero).rvs) k) false, (∀ (i : Nat), i < M.length → (fun i => (M.getD i Con.zero).rvs) i = (Con.ofR ((fun i => (M.getD i Con.zero).rvs) i)).rvs) ∧ okL (consR M.length fun i => (M.getD i Con.zero).rvs) ∧ (1 : Int) ≤ (↑k : Int) ∧ (↑k : Int) < (↑M.length : Int), Dec ((M.getD k Con.zero).sign == (-1 : Int)) true, (0 : Int) ≤ (↑k : Int) ∧ (↑k : Int) < (↑M.length : Int), Dec (decide ((↑k : Int) > (0 : Int))) true], by kernel_rfl, ⟨?_, ?_, ?_, d3, ?_, d2, ?_, d1⟩, MuG.out ?_, InG.out ?_⟩⟩))
           (fun d2 => ⟨[true, false], .inl ⟨(k - 1, canS M k), [IntKind.i64.wrap ((↑k : Int) - (1 : Int)) = (↑(k - (1 : Nat)) : Int), (2 : Int) = (2 : Int), M.length = (canS M k).length ∧ (fun i => (M.getD i Con.zero).rvs) = fun i => ((canS M k).getD i Con.zero).rvs, Dec ((M.getD k Con.zero).sign == (-1 : Int)) false, (0 : Int) ≤ (↑k : Int) ∧ (↑k : Int) < (↑M.length : Int), Dec (decide ((↑k : Int) > (0 : Int))) true], by kernel_rfl, ⟨?_, ?_, ?_, d2, ?_, d1⟩, MuG.out ?_, InG.out ?_⟩⟩))
           (fun d1 => ⟨[false], .inr ⟨[(2 : Int) = (2 : Int), M.length = (canM L).length ∧ (fun i => (M.getD i Con.zero).rvs) = fun i => ((canM L).getD i Con.zero).rvs, Dec (decide ((↑k : Int) > (0 : Int))) false], by kernel_rfl, ⟨?_, ?_, d1⟩, rfl⟩⟩)
      all_goals first | (refine MuG.mk ?_; (simp only [decide_eq_true_eq, ge_iff_le, gt_iff_lt] at *; show k - 1 < k; omega)) | (refine InG.mk ?_; (simp only [decide_eq_true_eq, ge_iff_le, gt_iff_lt] at *; refine ⟨canS_ok hM hk, by rw [canS_len]; omega, ?_⟩; rw [← hc]; unfold canS; cases hs : ((at_ M k).sign == -1 && linkM M k) with | true => exact canG_yes (by omega) hs | false => exact canG_no (by omega) hs)) | (refine CtG.mk ?_; (simp_all)) | (first | (with_reducible rfl) | exact ⟨rfl, rfl⟩ | ((try simp only [ek, consR_ro, Int.toNat_natCast, decide_eq_true_eq, decide_eq_false_iff_not, ge_iff_le, gt_iff_lt] at *) <;> first | omega | rfl | exact ⟨fun _ _ => rfl, hM, by omega, by omega⟩ | exact ⟨fun _ _ => rfl, by trivial, hM, by omega, by omega⟩ | (rw [canS, show ((at_ M k).sign == -1 && linkM M k) = true from by simp_all [at_]]; exact ⟨rfl, rfl⟩) | (rw [canS, show ((at_ M k).sign == -1 && linkM M k) = false from by simp_all [at_]]; exact ⟨rfl, rfl⟩) | (rw [← hc, canG_end (by omega)]; exact ⟨rfl, rfl⟩)))
set_option maxRecDepth 100000 in
theorem tcan_yes (L : List Con) (hL : okL L) (hv : val2M 2 L = true) (hne : 0 < L.length) : PureC Tryz.prog [] 22 [.agg [.int .i64 2, roC L]] (.tup [.agg [.int .i64 2, roC (canM L)], .bool true]) := by
  have rr := fun (tp : List Bool) (ms : List Prop) h hm => pure_run evOk (callF_ok evOk (orcOf_ok entsVK_ok) 8) Tryz.func22 (A := [.agg [.int .i64 2, roC L]]) (N := Nat.max 1 Tryz.f22.ntmps) rfl (one_ann (tcn_loop L (fuseM_ok hL) (by rw [fuseM_len]; exact hne))) rfl rfl evNg (tabs := []) (R := .tup [.agg [.int .i64 2, roC (canM L)], .bool true]) (tp := tp) (ms := ms) h hm
  refine rr [false] [(2 : Int) = (2 : Int), (canM L).length = (canM L).length ∧ (fun i => ((canM L).getD i Con.zero).rvs) = fun i => ((canM L).getD i Con.zero).rvs, true = true, IntKind.i64.wrap ((↑(fuseM (consR L.length fun i => (L.getD i Con.zero).rvs)).length : Int) - (1 : Int)) = IntKind.i64.wrap ((↑(fuseM L).length : Int) - (1 : Int)), (2 : Int) = (2 : Int), (fuseM (consR L.length fun i => (L.getD i Con.zero).rvs)).length = (fuseM L).length ∧ (fun i => ((fuseM (consR L.length fun i => (L.getD i Con.zero).rvs)).getD i Con.zero).rvs) = fun i => ((fuseM L).getD i Con.zero).rvs, Dec (!true) false, (∀ (i : Nat), i < L.length → (fun i => (L.getD i Con.zero).rvs) i = (Con.ofR ((fun i => (L.getD i Con.zero).rvs) i)).rvs) ∧ (2 : Int) = (2 : Int) ∧ okL (consR L.length fun i => (L.getD i Con.zero).rvs) ∧ val2M (2 : Int) (consR L.length fun i => (L.getD i Con.zero).rvs) = true ∧ (0 : Nat) < L.length] (by kernel_rfl) ⟨?_, ?_, ?_, ?_, ?_, ?_, (dN rfl), (?_ : (∀ (i : Nat), i < L.length → (fun i => (L.getD i Con.zero).rvs) i = (Con.ofR ((fun i => (L.getD i Con.zero).rvs) i)).rvs) ∧ (2 : Int) = (2 : Int) ∧ okL (consR L.length fun i => (L.getD i Con.zero).rvs) ∧ val2M (2 : Int) (consR L.length fun i => (L.getD i Con.zero).rvs) = true ∧ (0 : Nat) < L.length)⟩
  all_goals first | (first | (with_reducible rfl) | exact ⟨rfl, rfl⟩ | exact ⟨fun _ _ => rfl, rfl, by rw [consR_ro]; exact hL, by rw [consR_ro]; exact hv, hne⟩ | (rw [consR_ro]; first | done | rfl | exact ⟨rfl, rfl⟩))
end Go.Proofs.YtcfdaddablojlaaGreatDoor.S

/- Plain: the oddity of a whole list; a walk keeps it. -/
set_option linter.unusedSimpArgs false
set_option linter.unusedVariables false
namespace Go.Proofs.YtcfdaddablojlaaGreatDoor.S
open Go.QfSy Go.RowKit

def sumN (f : Nat → Int) : Nat → Int
  | 0 => 0
  | n + 1 => sumN f n + f n
def oddW (c : Con) : Int := c.oddity + (if c.exp % 2 = 1 ∧ c.sign = -1 then 4 else 0)
def oddVM (L : List Con) : Int := sumN (fun k => oddW (at_ L k)) L.length % 8
theorem sumN_add (f g : Nat → Int) (n : Nat) : sumN (fun k => f k + g k) n = sumN f n + sumN g n := by
  induction n with
  | zero => rfl
  | succ n ih => simp only [sumN, ih]; omega
theorem sumN_ind (a : Nat) (c : Int) (n : Nat) : sumN (fun k => if k = a then c else 0) n = if a < n then c else 0 := by
  induction n with
  | zero => simp [sumN]
  | succ n ih =>
    simp only [sumN, ih]
    by_cases h1 : a < n
    · rw [if_pos h1, if_neg (by omega), if_pos (by omega)]; omega
    · by_cases h2 : n = a
      · rw [if_neg h1, if_pos h2, if_pos (by omega)]; omega
      · rw [if_neg h1, if_neg h2, if_neg (by omega)]; omega
theorem sumN_mod {f g d : Nat → Int} : ∀ {n : Nat}, (∀ k, k < n → (f k - g k - 4 * d k) % 8 = 0) → (sumN f n - sumN g n - 4 * sumN d n) % 8 = 0
  | 0, _ => rfl
  | n + 1, h => by
    have h1 := h n (by omega)
    have ih := sumN_mod (f := f) (g := g) (d := d) (n := n) (fun k hk => h k (by omega))
    simp only [sumN]
    omega
def expB (L : List Con) (k : Nat) : Int := if (at_ L k).exp % 2 = 1 then 1 else 0
/- the change at k, in fours -/
def chg (L : List Con) (i k : Nat) : Int := (if k = i then expB L i else 0) + (if k = i - 1 then expB L (i - 1) else 0) + (if hitB L i k = true then 1 else 0)
theorem sgn4 (e s : Int) (hs : s = 1 ∨ s = -1) (b : Bool) : ((if e % 2 = 1 ∧ (bif b then -s else s) = -1 then (4 : Int) else 0) - (if e % 2 = 1 ∧ s = -1 then (4 : Int) else 0) - 4 * (if b = true then (if e % 2 = 1 then 1 else 0) else 0)) % 8 = 0 := by
  by_cases he : e % 2 = 1
  · cases b <;> rcases hs with h | h <;> subst h <;> simp [he]
  · cases b <;> simp [he]
theorem chg_at {L : List Con} (hL : okL L) {i k : Nat} (h1 : 1 ≤ i) (h2 : i < L.length) (hk : k < L.length) : (oddW (at_ (stepM L i) k) - oddW (at_ L k) - 4 * chg L i k) % 8 = 0 := by
  have ho := (hL.at hk).2.2.2
  have hsg := (hL.at hk).2.2.1
  rw [step_at h1 h2 hk]
  unfold oddW stepC chg
  simp only
  have hexp : ∀ e : Int, (if k = i then expB L i else 0) + (if k = i - 1 then expB L (i - 1) else 0) = (if (k == i || k == i - 1) = true then expB L k else 0) := by
    intro _
    by_cases e1 : k = i
    · subst e1; rw [if_pos rfl, if_neg (by omega)]; simp
    · by_cases e2 : k = i - 1
      · subst e2; rw [if_neg e1, if_pos rfl]; simp
      · rw [if_neg e1, if_neg e2]; simp [e1, e2]
  rw [hexp 0]
  have hd : ∀ b : Bool, ((bif b then ((at_ L k).oddity + 4) % 8 else (at_ L k).oddity) - (at_ L k).oddity - 4 * (if b = true then 1 else 0)) % 8 = 0 := by
    intro b; cases b
    · simp
    · simp only [cond_true, if_true]; omega
  have hs := fun b => sgn4 (at_ L k).exp (at_ L k).sign hsg b
  have a1 := hd (hitB L i k)
  have a2 := hs (k == i || k == i - 1)
  unfold expB
  omega
theorem odd_step {L : List Con} (hL : okL L) {i : Nat} (h1 : 1 ≤ i) (h2 : i < L.length) (hl : linkM L i = true) : oddVM (stepM L i) = oddVM L := by
  have hm := sumN_mod (f := fun k => oddW (at_ (stepM L i) k)) (g := fun k => oddW (at_ L k)) (d := chg L i) (n := L.length) (fun k hk => chg_at hL h1 h2 hk)
  have b1 := part0 (L := L) (by omega) ((i : Int) - 1)
  have b2 := part0 (L := L) (by omega) (i : Int)
  have e0 : ((i - 1 : Nat) : Int) = (i : Int) - 1 := by omega
  have pA : 0 < (partM L ((i : Int) - 1)).length ↔ oddB L (i - 1) = true := by
    rw [← e0]
    constructor
    · intro h
      cases ho : oddB L (i - 1) with
      | true => rfl
      | false => rw [partM_even (fun h => by rw [h.2] at ho; cases ho)] at h; simp at h
    · intro h; exact pos_of_mem (partM_odd (by omega) h).2
  have pB : 0 < (partM L (i : Int)).length ↔ oddB L i = true := by
    constructor
    · intro h
      cases ho : oddB L i with
      | true => rfl
      | false => rw [partM_even (fun h => by rw [h.2] at ho; cases ho)] at h; simp at h
    · intro h; exact pos_of_mem (partM_odd h2 h).2
  -- the number of oddities that change
  have hits : ∀ c : Int, (∀ k, k < L.length → (if hitB L i k = true then (1 : Int) else 0) = (if k = ((partM L ((i : Int) - 1)).getD 0 0).toNat then (if oddB L (i - 1) = true then 1 else 0) else 0) + (if k = ((partM L (i : Int)).getD 0 0).toNat then c else 0)) →
      sumN (chg L i) L.length = expB L i + expB L (i - 1) + (if oddB L (i - 1) = true then 1 else 0) + c := by
    intro c hc
    have e : ∀ n, n ≤ L.length → sumN (chg L i) n = sumN (fun k => ((if k = i then expB L i else 0) + (if k = i - 1 then expB L (i - 1) else 0)) + ((if k = ((partM L ((i : Int) - 1)).getD 0 0).toNat then (if oddB L (i - 1) = true then 1 else 0) else 0) + (if k = ((partM L (i : Int)).getD 0 0).toNat then c else 0))) n := by
      intro n
      induction n with
      | zero => intro _; rfl
      | succ n ih =>
        intro hn
        simp only [sumN]
        rw [ih (by omega)]
        unfold chg
        rw [hc n (by omega)]
    have f1 : i - 1 < L.length := by omega
    have f2 : ((partM L ((i : Int) - 1)).getD 0 0).toNat < L.length := by omega
    have f3 : ((partM L (i : Int)).getD 0 0).toNat < L.length := by omega
    rw [e _ (Nat.le_refl _), sumN_add, sumN_add, sumN_add, sumN_ind, sumN_ind, sumN_ind, sumN_ind, if_pos h2, if_pos f1, if_pos f2, if_pos f3]
    omega
  have fin : ∀ m : Int, sumN (chg L i) L.length = 2 * m → oddVM (stepM L i) = oddVM L := by
    intro m hc
    unfold oddVM
    rw [stepM_len]
    rw [hc] at hm
    omega
  have hp : ∀ k, (((partM L ((i : Int) - 1)).getD 0 0).toNat == k) = decide (k = ((partM L ((i : Int) - 1)).getD 0 0).toNat) := by
    intro k; rw [Bool.eq_iff_iff, beq_iff_eq, decide_eq_true_eq]; exact eq_comm
  have hq : ∀ k, (((partM L (i : Int)).getD 0 0).toNat == k) = decide (k = ((partM L (i : Int)).getD 0 0).toNat) := by
    intro k; rw [Bool.eq_iff_iff, beq_iff_eq, decide_eq_true_eq]; exact eq_comm
  have hit : ∀ k, hitB L i k = ((oddB L (i - 1) && decide (k = ((partM L ((i : Int) - 1)).getD 0 0).toNat)) || (oddB L i && decide (k = ((partM L (i : Int)).getD 0 0).toNat))) := by
    intro k
    unfold hitB
    rw [hp, hq]
    have dA : decide (0 < (partM L ((i : Int) - 1)).length) = oddB L (i - 1) := by rw [Bool.eq_iff_iff, decide_eq_true_eq]; exact pA
    have dB : decide (0 < (partM L (i : Int)).length) = oddB L i := by rw [Bool.eq_iff_iff, decide_eq_true_eq]; exact pB
    rw [dA, dB]
  unfold linkM at hl
  cases d1 : ((at_ L i).exp - (at_ L (i - 1)).exp == 1) with
  | true =>
    rw [d1] at hl
    have d1 := beq_iff_eq.1 d1
    have hx : expB L i + expB L (i - 1) = 1 := by unfold expB; split <;> split <;> omega
    cases oA : oddB L (i - 1) with
    | true =>
      have oA' : (at_ L (i - 1)).odd = true := oA
      cases oB : oddB L i with
      | true =>
        have hj : joinB L i = true := by
          unfold joinB
          rw [oA', decide_eq_true (by omega), decide_eq_true (by omega)]; rfl
        have ep := join_part h2 oB hj
        refine fin 1 ?_
        rw [hits 0 (fun k _ => ?_), oA]
        · simp; omega
        · rw [hit, oA, oB, ep]; simp
      | false =>
        refine fin 1 ?_
        rw [hits 0 (fun k _ => ?_), oA]
        · simp; omega
        · rw [hit, oA, oB]; simp
    | false =>
      have oA' : (at_ L (i - 1)).odd = false := oA
      cases oB : oddB L i with
      | true =>
        refine fin 1 ?_
        rw [hits 1 (fun k _ => ?_), oA]
        · simp; omega
        · rw [hit, oA, oB]; simp
      | false =>
        have oB' : (at_ L i).odd = false := oB
        rw [oA', oB'] at hl; cases hl
  | false =>
    rw [d1] at hl
    cases d2 : ((at_ L i).exp - (at_ L (i - 1)).exp == 2) with
    | false => rw [d2] at hl; cases hl
    | true =>
      rw [d2] at hl
      simp only [cond_false, cond_true, Bool.and_eq_true] at hl
      have d2 := beq_iff_eq.1 d2
      have hx : expB L i = expB L (i - 1) := by unfold expB; split <;> split <;> omega
      have oA : oddB L (i - 1) = true := hl.1
      have oB : oddB L i = true := hl.2
      have hj : joinB L i = false := by
        unfold joinB
        rw [decide_eq_false (p := (at_ L (i - 1)).exp = (at_ L i).exp - 1) (by omega)]; simp
      have hne := apart_part h2 oB hj (by omega) oA
      refine fin (expB L i + 1) ?_
      rw [hits 1 (fun k _ => ?_), oA]
      · simp; omega
      · rw [hit, oA, oB]
        simp only [Bool.true_and, if_true]
        by_cases e1 : k = ((partM L ((i : Int) - 1)).getD 0 0).toNat
        · have e2 : ¬ k = ((partM L (i : Int)).getD 0 0).toNat := by omega
          rw [decide_eq_true e1, decide_eq_false e2, if_pos e1, if_neg e2]; rfl
        · rw [decide_eq_false e1, if_neg e1]
          by_cases e2 : k = ((partM L (i : Int)).getD 0 0).toNat
          · rw [decide_eq_true e2, if_pos e2]; rfl
          · rw [decide_eq_false e2, if_neg e2]; rfl
end Go.Proofs.YtcfdaddablojlaaGreatDoor.S

/- Oddity and Walk, of package train and of the reference. -/
set_option linter.unusedSimpArgs false
set_option linter.unusedVariables false
namespace Go.Proofs.YtcfdaddablojlaaGreatDoor.S
open Go.QfSy Go.RowKit

theorem okC_at {L : List Con} (hL : okL L) (k : Nat) : (0 ≤ (at_ L k).exp ∧ (at_ L k).exp ≤ 1000) ∧ (0 ≤ (at_ L k).oddity ∧ (at_ L k).oddity ≤ 7) := by
  rcases Nat.lt_or_ge k L.length with h | h
  · exact ⟨(hL.at h).1, (hL.at h).2.2.2⟩
  · have e : at_ L k = Con.zero := by simp [at_, List.getD_eq_getElem?_getD, List.getElem?_eq_none h]
    rw [e]; decide
theorem oddW_b {L : List Con} (hL : okL L) (k : Nat) : 0 ≤ oddW (at_ L k) ∧ oddW (at_ L k) ≤ 11 := by
  have := (okC_at hL k).2
  unfold oddW
  split <;> omega
theorem oddS_b {L : List Con} (hL : okL L) : ∀ {k : Nat}, k ≤ L.length → 0 ≤ sumN (fun j => oddW (at_ L j)) k ∧ sumN (fun j => oddW (at_ L j)) k ≤ 11 * k
  | 0, _ => by simp [sumN]
  | k + 1, h => by
    have ih := oddS_b hL (k := k) (by omega)
    have := oddW_b hL k
    simp only [sumN]
    omega
theorem oddW_4 {c : Con} (h1 : c.exp % 2 = 1) (h2 : c.sign = -1) : oddW c = c.oddity + 4 := by unfold oddW; rw [if_pos ⟨h1, h2⟩]
theorem oddW_0 {c : Con} (h : ¬ (c.exp % 2 = 1 ∧ c.sign = -1)) : oddW c = c.oddity := by unfold oddW; rw [if_neg h]; omega
noncomputable def odAnn (L : List Con) : Ann := ⟨⟨[(4, .int .i64 0), (16, (roC L).av), (17, .vint .i64 L.length), (18, .int .i64 0)], [], 1030⟩, none, fun _ => (.exit 0, ⟨[(4, .vint .i64 (sumN (fun j => oddW (at_ L j)) L.length))], [], 1030⟩)⟩
noncomputable def entsHT : List OEnt := [
  ⟨38, [], fun A => match A with
    | [.agg [.int .i64 p, .sl n 5 row]] => some (.bool (val2M p (consR n row)), [(∀ i, i < n → row i = (Con.ofR (row i)).rvs) ∧ n ≤ 1000])
    | _ => none⟩,
  ⟨35, [], fun A => match A with
    | [.agg [.int .i64 p, .sl n 5 row]] => some (.bool (fusM p (consR n row)), [(∀ i, i < n → row i = (Con.ofR (row i)).rvs) ∧ n ≤ 1000])
    | _ => none⟩,
  ⟨53, [], fun A => match A with
    | [.agg [.int .i64 p, .sl n 5 row], .int .i64 a] => some (.bool (linkM (consR n row) a.toNat), [(∀ i, i < n → row i = (Con.ofR (row i)).rvs) ∧ okL (consR n row) ∧ 1 ≤ a ∧ a < (n : Int)])
    | _ => none⟩,
  ⟨54, [], fun A => match A with
    | [.agg [.int .i64 p, .sl n 5 row], .int .i64 a] => some (.agg [.int .i64 2, roC (stepM (consR n row) a.toNat)], [(∀ i, i < n → row i = (Con.ofR (row i)).rvs) ∧ p = 2 ∧ okL (consR n row) ∧ 1 ≤ a ∧ a < (n : Int)])
    | _ => none⟩]
theorem entsHT_ok : ∀ e ∈ entsHT, EntOk Tryz.prog e := by
  intro e he
  simp only [entsHT, List.mem_cons, List.not_mem_nil, or_false] at he
  rcases he with rfl | rfl | rfl | rfl
  all_goals
    intro A R ms h hm
    simp only at h
    split at h
    all_goals first | (cases h; done) | cases h
  · obtain ⟨h1, h2⟩ := all_one hm
    exact PureC.imp (tvalid_pure _ _ (by rw [consR_len]; exact h2)) (.cons (.agg (.cons .same (.cons (.con h1) .nil))) .nil)
  · obtain ⟨h1, h2⟩ := all_one hm
    exact PureC.imp (tfused_pure _ _ (by rw [consR_len]; exact h2)) (.cons (.agg (.cons .same (.cons (.con h1) .nil))) .nil)
  · obtain ⟨h1, h3, h4, h5⟩ := all_one hm
    rename_i p _ _ a
    have e : ((a.toNat : Nat) : Int) = a := by omega
    have := tlinked_pure p _ a.toNat h3 (by omega) (by rw [consR_len]; omega)
    rw [e] at this
    exact PureC.imp this (.cons (.agg (.cons .same (.cons (.con h1) .nil))) (.cons .same .nil))
  · obtain ⟨h1, h2, h3, h4, h5⟩ := all_one hm
    rename_i a
    subst h2
    have e : ((a.toNat : Nat) : Int) = a := by omega
    have := twalk_pure _ a.toNat h3 (by omega) (by rw [consR_len]; omega)
    rw [e] at this
    exact PureC.imp this (.cons (.agg (.cons .same (.cons (.con h1) .nil))) (.cons .same .nil))
set_option maxRecDepth 100000 in
theorem tod_loop (L : List Con) (hL : okL L) : AnnOk Tryz.prog EV.ng (Nat.max 1 Tryz.f27.ntmps) (bodyAt Tryz.f27 [0, 1, 0, 1, 1, 1]) (odAnn L) := by
  refine ann_of evOk (callF_ok evOk (noOrc_ok _ _) 8) none_ann (by kernel_rfl) (by kernel_rfl) (fun i : Nat × Int => (fun (k : Nat) (n : Int) => (⟨[(4, .vint .i64 n), (16, (roC L).av), (17, .vint .i64 L.length), (18, .vint .i64 (k : Int))], [], 1030⟩ : St)) i.1 i.2) (fun i : Nat × Int => (fun (k : Nat) (n : Int) => (L.length - k : Nat)) i.1 i.2) (fun (d : Bool) (i : Nat × Int) => (fun (k : Nat) (n : Int) => (k ≤ L.length ∧ n = sumN (fun j => oddW (at_ L j)) k : Prop)) i.1 i.2) ?_ ?_
  · intro d hd
    exact ⟨(0, 0), [(0 : Int) = (0 : Int), L.length = L.length ∧ (fun i => (L.getD i Con.zero).rvs) = fun i => (L.getD i Con.zero).rvs, (↑L.length : Int) = (↑L.length : Int), (0 : Int) = (↑(0 : Nat) : Int)], by kernel_rfl, (by refine ⟨?_, ?_, ?_, (?_ : (0 : Int) = (↑(0 : Nat) : Int))⟩ <;> (first | rfl | assumption | omega | simp_all)), (by exact ⟨Nat.zero_le _, rfl⟩)⟩
  · rintro d hd ⟨k, n⟩ hI
    cases d
    · -- d = false
      exact Bool.noConfusion (show false = true from hd)
    · -- d = true
      obtain ⟨hk, hs⟩ := hI
      have hk : k ≤ L.length := hk
      have hs : n = sumN (fun j => oddW (at_ L j)) k := hs
      have hl := hL.1
      have ek : IntKind.i64.wrap ((k : Int) + 1) = ((k + 1 : Nat) : Int) := by rw [w64 (by omega) (by omega)]; omega
      have hb := oddS_b hL hk
      have hc := okC_at hL k
      have e1 : IntKind.i64.wrap (n + (L.getD k Con.zero).oddity) = n + (L.getD k Con.zero).oddity := by simp only [at_] at hc; rw [hs]; exact w64 (by omega) (by omega)
      refine Or.elim (Bool.eq_false_or_eq_true (decide ((↑k : Int) < (↑L.length : Int)))) (fun d1 => Or.elim (Bool.eq_false_or_eq_true ((L.getD k Con.zero).exp.tmod (2 : Int) == (1 : Int))) (fun d2 => Or.elim (Bool.eq_false_or_eq_true ((L.getD k Con.zero).sign == (-1 : Int))) (fun d3 => ⟨[true, true, true], .inl ⟨(k + 1, n + oddW (at_ L k)), [IntKind.i64.wrap (IntKind.i64.wrap (n + (L.getD k Con.zero).oddity) + (4 : Int)) = n + oddW (at_ L k), L.length = L.length ∧ (fun i => (L.getD i Con.zero).rvs) = fun i => (L.getD i Con.zero).rvs, (↑L.length : Int) = (↑L.length : Int), IntKind.i64.wrap ((↑k : Int) + (1 : Int)) = (↑(k + (1 : Nat)) : Int), Dec ((L.getD k Con.zero).sign == (-1 : Int)) true, Dec ((L.getD k Con.zero).exp.tmod (2 : Int) == (1 : Int)) true, (2 : Int) ≠ (0 : Int), (0 : Int) ≤ (↑k : Int) ∧ (↑k : Int) < (↑L.length : Int), Dec (decide ((↑k : Int) < (↑L.length : Int))) true], by kernel_rfl, ⟨?_, ?_, ?_, ?_, d3, d2, ?_, ?_, d1⟩, MuG.out ?_, InG.out ?_⟩⟩)
           (fun d3 => ⟨[true, true, false], .inl ⟨(k + 1, n + oddW (at_ L k)), [IntKind.i64.wrap (n + (L.getD k Con.zero).oddity) = n + oddW (at_ L k), L.length = L.length ∧ (fun i => (L.getD i Con.zero).rvs) = fun i => (L.getD i Con.zero).rvs, (↑L.length : Int) = (↑L.length : Int), IntKind.i64.wrap ((↑k : Int) + (1 : Int)) = (↑(k + (1 : Nat)) : Int), Dec ((L.getD k Con.zero).sign == (-1 : Int)) false, Dec ((L.getD k Con.zero).exp.tmod (2 : Int) == (1 : Int)) true, (2 : Int) ≠ (0 : Int), (0 : Int) ≤ (↑k : Int) ∧ (↑k : Int) < (↑L.length : Int), Dec (decide ((↑k : Int) < (↑L.length : Int))) true], by kernel_rfl, ⟨?_, ?_, ?_, ?_, d3, d2, ?_, ?_, d1⟩, MuG.out ?_, InG.out ?_⟩⟩))
           (fun d2 => ⟨[true, false], .inl ⟨(k + 1, n + oddW (at_ L k)), [IntKind.i64.wrap (n + (L.getD k Con.zero).oddity) = n + oddW (at_ L k), L.length = L.length ∧ (fun i => (L.getD i Con.zero).rvs) = fun i => (L.getD i Con.zero).rvs, (↑L.length : Int) = (↑L.length : Int), IntKind.i64.wrap ((↑k : Int) + (1 : Int)) = (↑(k + (1 : Nat)) : Int), Dec ((L.getD k Con.zero).exp.tmod (2 : Int) == (1 : Int)) false, (2 : Int) ≠ (0 : Int), (0 : Int) ≤ (↑k : Int) ∧ (↑k : Int) < (↑L.length : Int), Dec (decide ((↑k : Int) < (↑L.length : Int))) true], by kernel_rfl, ⟨?_, ?_, ?_, ?_, d2, ?_, ?_, d1⟩, MuG.out ?_, InG.out ?_⟩⟩))
           (fun d1 => ⟨[false], .inr ⟨[n = sumN (fun j => oddW (at_ L j)) L.length, Dec (decide ((↑k : Int) < (↑L.length : Int))) false], by kernel_rfl, ⟨?_, d1⟩, rfl⟩⟩)
      all_goals first | (refine MuG.mk ?_; (simp only [decide_eq_true_eq] at *; show L.length - (k + 1) < L.length - k; omega)) | (refine InG.mk ?_; (simp only [decide_eq_true_eq] at *; exact ⟨by omega, by rw [hs]; rfl⟩)) | (refine CtG.mk ?_; (simp_all)) | (first | (with_reducible rfl) | exact ⟨rfl, rfl⟩ | (exact (by decide : (2 : Int) ≠ 0)) | ((try simp only [at_] at hc) <;> (try simp only [ek, at_, Int.toNat_natCast, decide_eq_true_eq, decide_eq_false_iff_not, beq_iff_eq, beq_eq_false_iff_ne, ne_eq] at *) <;> first | omega | (rw [e1, w64 (by omega) (by omega)]; rw [oddW_4 (by rw [← Int.tmod_eq_emod_of_nonneg (by omega)]; assumption) (by assumption)]; omega) | (rw [e1]; rw [oddW_0 (by rw [← Int.tmod_eq_emod_of_nonneg (by omega)]; first | (exact fun h => absurd h.1 (by assumption)) | (exact fun h => absurd h.2 (by assumption)))]) | (have e : k = L.length := (by omega); subst e; rw [hs]; done)))
set_option maxRecDepth 100000 in
theorem todd_yes (p : Int) (L : List Con) (hL : okL L) (hv : shV p L = true) : PureC Tryz.prog [] 27 [.agg [.int .i64 p, roC L]] (.tup [.int .i64 (oddVM L), .bool true]) := by
  have hl := hL.1; have hs := oddS_b hL (Nat.le_refl L.length)
  have rr := fun (tp : List Bool) (ms : List Prop) h hm => pure_run evOk (callF_ok evOk (orcOf_ok entsHT_ok) 8) Tryz.func27 (A := [.agg [.int .i64 p, roC L]]) (N := Nat.max 1 Tryz.f27.ntmps) rfl (one_ann (tod_loop L hL)) rfl rfl evNg (tabs := []) (R := .tup [.int .i64 (oddVM L), .bool true]) (tp := tp) (ms := ms) h hm
  refine Or.elim (Bool.eq_false_or_eq_true (val2M p (consR L.length fun i => (L.getD i Con.zero).rvs))) (fun d1 => rr [false] [(sumN (fun j => oddW (at_ L j)) L.length).tmod (8 : Int) = oddVM L, true = true, (8 : Int) ≠ (0 : Int), L.length = L.length ∧ (fun i => (L.getD i Con.zero).rvs) = fun i => (L.getD i Con.zero).rvs, (↑L.length : Int) = (↑L.length : Int), Dec (!val2M p (consR L.length fun i => (L.getD i Con.zero).rvs)) false, (∀ (i : Nat), i < L.length → (fun i => (L.getD i Con.zero).rvs) i = (Con.ofR ((fun i => (L.getD i Con.zero).rvs) i)).rvs) ∧ L.length ≤ (1000 : Nat)] (by kernel_rfl) ⟨?_, ?_, ?_, ?_, ?_, (dN d1), (?_ : (∀ (i : Nat), i < L.length → (fun i => (L.getD i Con.zero).rvs) i = (Con.ofR ((fun i => (L.getD i Con.zero).rvs) i)).rvs) ∧ L.length ≤ (1000 : Nat))⟩)
           (fun d1 => Or.elim (Bool.eq_false_or_eq_true (fusM p (consR L.length fun i => (L.getD i Con.zero).rvs))) (fun d2 => rr [true, false] [(sumN (fun j => oddW (at_ L j)) L.length).tmod (8 : Int) = oddVM L, true = true, (8 : Int) ≠ (0 : Int), L.length = L.length ∧ (fun i => (L.getD i Con.zero).rvs) = fun i => (L.getD i Con.zero).rvs, (↑L.length : Int) = (↑L.length : Int), Dec (!fusM p (consR L.length fun i => (L.getD i Con.zero).rvs)) false, (∀ (i : Nat), i < L.length → (fun i => (L.getD i Con.zero).rvs) i = (Con.ofR ((fun i => (L.getD i Con.zero).rvs) i)).rvs) ∧ L.length ≤ (1000 : Nat), Dec (!val2M p (consR L.length fun i => (L.getD i Con.zero).rvs)) true, (∀ (i : Nat), i < L.length → (fun i => (L.getD i Con.zero).rvs) i = (Con.ofR ((fun i => (L.getD i Con.zero).rvs) i)).rvs) ∧ L.length ≤ (1000 : Nat)] (by kernel_rfl) ⟨?_, ?_, ?_, ?_, ?_, (dN d2), ?_, (dN d1), (?_ : (∀ (i : Nat), i < L.length → (fun i => (L.getD i Con.zero).rvs) i = (Con.ofR ((fun i => (L.getD i Con.zero).rvs) i)).rvs) ∧ L.length ≤ (1000 : Nat))⟩)
           (fun d2 => CtG.no ?_))
  all_goals first | (refine CtG.mk ?_; (rw [consR_ro] at d1 d2; unfold shV at hv; rw [d1, d2] at hv; cases hv)) | (first | (with_reducible rfl) | exact ⟨rfl, rfl⟩ | exact ⟨fun _ _ => rfl, hl⟩ | (exact (by decide : (8 : Int) ≠ 0)) | (exact Int.tmod_eq_emod_of_nonneg hs.1))
end Go.Proofs.YtcfdaddablojlaaGreatDoor.S

/- Plain: the refinement of a fused list is raw and fuses to it. -/
set_option linter.unusedSimpArgs false
set_option linter.unusedVariables false
namespace Go.Proofs.YtcfdaddablojlaaGreatDoor.S
open Go.QfSy Go.RowKit

theorem first_mem {l : List Int} (h : l ≠ []) : l.getD 0 0 ∈ l := by cases l with | nil => exact absurd rfl h | cons a l => simp
theorem trG_ok : ∀ {P : List (List Int)} {M : List Con}, P.flatten.Nodup → (∀ l ∈ P, l ≠ [] ∧ inR M.length l) → (∀ l ∈ P, canR M l (at_ M (l.getD 0 0).toNat).oddity = true) →
    ∃ R, trG P M = some R ∧ agr P.flatten R M ∧ ∀ l ∈ P, (∀ x ∈ l, legalB (at_ R x.toNat) = true) ∧ (sumO R l - (at_ M (l.getD 0 0).toNat).oddity) % 8 = 0
  | [], M, _, _, _ => ⟨M, rfl, .refl _ _, fun l hl => by simp at hl⟩
  | l :: P, M, hd, hP, hc => by
    obtain ⟨h1, h2⟩ := hP l List.mem_cons_self
    have hc1 := hc l List.mem_cons_self
    obtain ⟨a1, a2, a3⟩ := ref_spec (l := l) (n := M.length) h2
    have ht := a3 _ M M rfl hc1 (.refl _ _)
    generalize (refF l (at_ M (l.getD 0 0).toNat).oddity M).2 = M1 at ht
    simp only [List.flatten_cons, List.nodup_append] at hd
    have ha := trF_agr (fun x hx => (h2 x hx).1) ht
    have hok := trF_ok hd.1 h2 hc1 ht
    have hout : ∀ q ∈ P, ∀ x ∈ q, at_ M1 x.toNat = at_ M x.toNat := fun q hq x hx => ha.out x.toNat (fun hm => by
      have hx0 := ((hP q (List.mem_cons_of_mem _ hq)).2 x hx).1
      rw [Int.toNat_of_nonneg hx0] at hm
      exact hd.2.2 x hm x (List.mem_flatten.2 ⟨q, hq, hx⟩) rfl)
    have hP' : ∀ q ∈ P, q ≠ [] ∧ inR M1.length q := fun q hq => by rw [ha.len]; exact hP q (List.mem_cons_of_mem _ hq)
    have hfirst : ∀ q ∈ P, at_ M1 (q.getD 0 0).toNat = at_ M (q.getD 0 0).toNat := fun q hq => hout q hq _ (first_mem (hP' q hq).1)
    obtain ⟨R, r1, r2, r3⟩ := trG_ok hd.2.1 hP' (fun q hq => by rw [canR_agr ha.eq, hfirst q hq]; exact hc q (List.mem_cons_of_mem _ hq))
    refine ⟨R, by simp only [trG, ht]; exact r1, (r2.mono (fun x hx => by simp only [List.flatten_cons, List.mem_append]; exact .inr hx)).trans (ha.mono (fun x hx => by simp only [List.flatten_cons, List.mem_append]; exact .inl hx)), fun q hq => ?_⟩
    rcases List.mem_cons.1 hq with rfl | hq
    · have e : ∀ x ∈ q, at_ R x.toNat = at_ M1 x.toNat := fun x hx => r2.out x.toNat (fun hm => by
        rw [Int.toNat_of_nonneg (h2 x hx).1] at hm
        exact hd.2.2 x hx x hm rfl)
      exact ⟨fun x hx => by rw [e x hx]; exact hok.1 x hx, by rw [sumO_agree e]; exact hok.2⟩
    · rw [← hfirst q hq]; exact r3 q hq
theorem sumN_dim {L : List Con} : ∀ {k : Nat}, k ≤ L.length → sumN (fun j => (at_ L j).dim) k = dimS (L.take k)
  | 0, _ => rfl
  | k + 1, h => by rw [sumN, sumN_dim (by omega), dimS_take (by omega)]
theorem dimR_append (L : List Con) (a b : List Int) : dimR L (a ++ b) = dimR L a + dimR L b := by
  induction a with
  | nil => simp [dimR]
  | cons c a ih => simp only [List.cons_append, dimR, ih]; omega
theorem dimR_iv {L : List Con} {s : Nat} : ∀ {n : Nat}, dimR L (ivN s n) = sumN (fun j => (at_ L j).dim) (s + n) - sumN (fun j => (at_ L j).dim) s
  | 0 => by simp [ivN, dimR]
  | n + 1 => by
    rw [ivN_append, dimR_append, dimR_iv, show s + (n + 1) = (s + n) + 1 from rfl]
    have e : sumN (fun j => (at_ L j).dim) (s + n + 1) = sumN (fun j => (at_ L j).dim) (s + n) + (at_ L (s + n)).dim := rfl
    rw [e]
    simp only [dimR, Int.toNat_natCast]
    omega
theorem sumN_mono {f : Nat → Int} : ∀ {n m : Nat}, n ≤ m → (∀ k, k < m → 0 ≤ f k) → sumN f n ≤ sumN f m
  | n, 0, h, _ => by have : n = 0 := by omega
                     subst this; exact Int.le_refl _
  | n, m + 1, h, hf => by
    rcases Nat.lt_or_ge n (m + 1) with h1 | h1
    · have := sumN_mono (f := f) (n := n) (m := m) (by omega) (fun k hk => hf k (by omega))
      have := hf m (by omega)
      simp only [sumN]; omega
    · have : n = m + 1 := by omega
      subst this; exact Int.le_refl _
theorem row_dim {L : List Con} (h : fusM 2 L = true) {l : List Int} (hl : l ∈ partsM L) : dimR L l ≤ 8 := by
  obtain ⟨_, _, _, hd, hF⟩ := fus_parts h
  obtain ⟨s, n, rfl, _, hb⟩ := part_row hl
  have hin := (parts_rows _ hl).2.1
  have hlast : s + (n + 1) ≤ L.length := by
    have := (hin ((s + n : Nat) : Int) (mem_ivN.2 (by omega))).2
    omega
  rw [dimR_iv]
  have e : sumN (fun j => (at_ L j).dim) L.length = dimS L := by rw [sumN_dim (Nat.le_refl _), List.take_length]
  have h1 := sumN_mono (f := fun j => (at_ L j).dim) (n := s + (n + 1)) (m := L.length) hlast (fun k hk => by have := (hF k hk).dim.1; show 0 ≤ (at_ L k).dim; omega)
  have h2 := sumN_mono (f := fun j => (at_ L j).dim) (n := 0) (m := s) (by omega) (fun k hk => by have := (hF k (by omega)).dim.1; show 0 ≤ (at_ L k).dim; omega)
  have h3 : sumN (fun j => (at_ L j).dim) 0 = 0 := rfl
  omega
theorem row_ok {L : List Con} (h : fusM 2 L = true) {l : List Int} (hl : l ∈ partsM L) : ∀ x ∈ l, oddOk (at_ L x.toNat) := by
  intro x hx
  obtain ⟨h1, h2, h3⟩ := row_odd hl x hx
  have := (fus_parts h).2.2.2.2 x.toNat (by omega)
  exact ⟨this.exp, this.dim.1, this.sign, h3⟩
/- a compartment can be refined -/
def lgRow (L : List Con) (l : List Int) : Bool := lgB (dimR L l) (sgnR L l) (at_ L (l.getD 0 0).toNat).oddity
theorem row_lg {L : List Con} (h : fusM 2 L = true) {l : List Int} (hl : l ∈ partsM L) : canR L l (at_ L (l.getD 0 0).toNat).oddity = lgRow L l := by
  obtain ⟨h1, h2, _⟩ := parts_rows l hl
  have hf := h2 _ (first_mem h1)
  have := ((fus_parts h).2.2.2.2 (l.getD 0 0).toNat (by omega)).odt
  exact canR_lg h1 (row_ok h hl) (row_dim h hl) ⟨this.1, by omega⟩
def lgAll (L : List Con) : Bool := (partsM L).all (lgRow L)
theorem agr_same {l : List Int} {A B : List Con} (h : agr l A B) : sameT A B ∧ ∀ k, (at_ A k).sign = (at_ B k).sign :=
  ⟨⟨h.len, fun k _ => ⟨(congrArg Con.exp (h.eq k) :), (congrArg Con.odd (h.eq k) :), (congrArg Con.dim (h.eq k) :)⟩⟩, fun k => (congrArg Con.sign (h.eq k) :)⟩
theorem con_ext {c d : Con} (h1 : c.exp = d.exp) (h2 : c.dim = d.dim) (h3 : c.sign = d.sign) (h4 : c.odd = d.odd) (h5 : c.oddity = d.oddity) : c = d := by
  cases c; cases d; simp_all
theorem ref_some {L : List Con} (h : fusM 2 L = true) (hl : lgAll L = true) : ∃ R, refM L = some R ∧ agr (partsM L).flatten R L ∧ val2M 2 R = true ∧ fuseM R = L := by
  rw [← trG_refM h]
  rw [lgAll, List.all_eq_true] at hl
  obtain ⟨R, r1, r2, r3⟩ := trG_ok (parts_nodup L) (fun l hl => ⟨(parts_rows l hl).1, (parts_rows l hl).2.1⟩) (fun l hm => by rw [row_lg h hm]; exact hl l hm)
  obtain ⟨hs, hsg⟩ := agr_same r2
  obtain ⟨f1, f2, f3, f4, f5⟩ := fus_parts h
  refine ⟨R, r1, r2, ?_, ?_⟩
  · rw [val2_sh, shape_same hs, Bool.and_eq_true]
    refine ⟨?_, (all_at _).2 (fun k hk => ?_)⟩
    · have h' := h
      rw [← fus_eq] at h'
      simp only [fusT, Bool.and_eq_true] at h'
      exact h'.1
    · have hk' : k < L.length := by rw [← hs.1]; exact hk
      cases ho : oddB L k with
      | true =>
        obtain ⟨p1, p2⟩ := partM_odd hk' ho
        have := (r3 _ p1).1 _ p2
        simpa using this
      | false =>
        rw [r2.out k (fun hm => by have := (mem_parts.1 hm).2; rw [ho] at this; cases this)]
        have hF := f5 k hk'
        have ho : (at_ L k).odd = false := ho
        refine decide_eq_true ⟨hF.exp, hF.dim, hF.sign, hF.odt, fun _ => hF.even ho, fun h => by rw [ho] at h; cases h⟩
  · refine list_ext (by rw [fuseM_len]; exact hs.1) (fun k hk => ?_)
    rw [fuseM_len] at hk
    have hk' : k < L.length := by rw [← hs.1]; exact hk
    obtain ⟨q1, q2, q3⟩ := hs.2 k hk
    cases ho : oddB L k with
    | false =>
      have ho' : oddB R k = false := by unfold oddB; rw [q2]; exact ho
      rw [fuseM_even ho' hk]
      exact r2.out k (fun hm => by have := (mem_parts.1 hm).2; rw [ho] at this; cases this)
    | true =>
      obtain ⟨p1, p2⟩ := partM_odd hk' ho
      obtain ⟨g1, g2⟩ := fuseM_same (L := R)
      have g2 := g2 k (by rw [fuseM_len]; exact hk)
      refine con_ext (g2.1.trans q1) (g2.2.2.trans q3) (sign_fuseM.trans (hsg k)) (g2.2.1.trans q2) ?_
      rw [fuseM_at (by rw [parts_same hs]; exact p1) p2]
      have ft := (fus_tot h) _ p1
      split
      · rename_i hk1
        have e := (r3 _ p1).2
        rw [← hk1] at e
        simp only [Int.toNat_natCast] at e
        have := (f5 k hk').odt
        unfold totM
        omega
      · rename_i hk1
        have h' := h
        rw [← fus_eq] at h'
        simp only [fusT, Bool.and_eq_true] at h'
        have := List.all_eq_true.1 h'.2.2 _ p1
        simp only [Bool.and_eq_true, zerR] at this
        have := List.all_eq_true.1 this.1 (k : Int) (by
          generalize partM L (k : Int) = q at p2 hk1
          cases q with
          | nil => simp at p2
          | cons a q =>
            rcases List.mem_cons.1 p2 with e | e
            · exact absurd e hk1
            · exact e)
        rw [beq_iff_eq, Int.toNat_natCast] at this
        exact this.symm
end Go.Proofs.YtcfdaddablojlaaGreatDoor.S

/- Plain: the canonical list is fused, has the oddity of the fused one, and a sign -1 only where no link leads down. -/
set_option linter.unusedSimpArgs false
set_option linter.unusedVariables false
namespace Go.Proofs.YtcfdaddablojlaaGreatDoor.S
open Go.QfSy Go.RowKit

theorem canS_same {L : List Con} {k : Nat} (h1 : 1 ≤ k) (h2 : k < L.length) : sameT (canS L k) L := by
  unfold canS
  cases ((at_ L k).sign == -1 && linkM L k)
  · exact sameT.refl L
  · exact step_same h1 h2
theorem canS_fus {L : List Con} {k : Nat} (hf : fusM 2 L = true) (h1 : 1 ≤ k) (h2 : k < L.length) : fusM 2 (canS L k) = true := by
  unfold canS
  cases ((at_ L k).sign == -1 && linkM L k)
  · exact hf
  · exact fus_step hf h1 h2
theorem canS_odd {L : List Con} (hL : okL L) {k : Nat} (h1 : 1 ≤ k) (h2 : k < L.length) : oddVM (canS L k) = oddVM L := by
  unfold canS
  cases h : ((at_ L k).sign == -1 && linkM L k)
  · rfl
  · rw [Bool.and_eq_true] at h
    exact odd_step hL h1 h2 h.2
theorem canS_link {L : List Con} {k j : Nat} (h1 : 1 ≤ k) (h2 : k < L.length) (hj : j < L.length) : linkM (canS L k) j = linkM L j := by
  unfold canS
  cases ((at_ L k).sign == -1 && linkM L k)
  · rfl
  · exact link_step h1 h2 hj
/- what lies above k stays -/
theorem canS_above {L : List Con} {k j : Nat} (h1 : 1 ≤ k) (h2 : k < L.length) (hj : j < L.length) (hk : k < j) : (at_ (canS L k) j).sign = (at_ L j).sign := by
  unfold canS
  cases ((at_ L k).sign == -1 && linkM L k)
  · rfl
  · show (at_ (stepM L k) j).sign = _
    rw [step_at h1 h2 hj]
    unfold stepC
    have e1 : (j == k) = false := by rw [beq_eq_false_iff_ne]; omega
    have e2 : (j == k - 1) = false := by rw [beq_eq_false_iff_ne]; omega
    simp only [e1, e2, Bool.or_self, cond_false]
/- behind its own step no sign -1 is left above a link -/
theorem canS_own {L : List Con} (hL : okL L) {k : Nat} (h1 : 1 ≤ k) (h2 : k < L.length) (hl : linkM L k = true) : (at_ (canS L k) k).sign = 1 := by
  have hs := (hL.at h2).2.2.1
  unfold canS
  rw [hl, Bool.and_true]
  cases h : ((at_ L k).sign == -1)
  · have := beq_eq_false_iff_ne.1 h
    simp only [cond_false]
    omega
  · have h3 := beq_iff_eq.1 h
    simp only [cond_true]
    rw [step_at h1 h2 h2]
    unfold stepC
    simp only [beq_self_eq_true, Bool.true_or, cond_true]
    omega
theorem canG_all : ∀ {k : Nat} {L : List Con}, okL L → fusM 2 L = true → k < L.length → (∀ j, k < j → j < L.length → linkM L j = true → (at_ L j).sign = 1) →
    sameT (canG L k) L ∧ fusM 2 (canG L k) = true ∧ oddVM (canG L k) = oddVM L ∧ (∀ j, j < L.length → linkM (canG L k) j = linkM L j) ∧ ∀ j, 0 < j → j < L.length → linkM L j = true → (at_ (canG L k) j).sign = 1
  | 0, L, hL, hf, hk, hs => ⟨sameT.refl L, hf, rfl, fun _ _ => rfl, fun j h0 hj hl => hs j h0 hj hl⟩
  | k + 1, L, hL, hf, hk, hs => by
    have hlen := canS_len (L := L) (k := k + 1)
    obtain ⟨g1, g2, g3, g4, g5⟩ := canG_all (k := k) (L := canS L (k + 1)) (canS_ok hL hk) (canS_fus hf (by omega) hk) (by rw [hlen]; omega) (fun j h1 h2 h3 => by
      rw [hlen] at h2
      rw [canS_link (by omega) hk h2] at h3
      rcases Nat.lt_or_ge (k + 1) j with h4 | h4
      · rw [canS_above (by omega) hk h2 h4]; exact hs j h4 h2 h3
      · have e : j = k + 1 := by omega
        subst e
        exact canS_own hL (by omega) hk h3)
    simp only [canG]
    refine ⟨g1.trans (canS_same (by omega) hk), g2, g3.trans (canS_odd hL (by omega) hk), fun j hj => ?_, fun j h0 hj hl => ?_⟩
    · rw [g4 j (by rw [hlen]; exact hj), canS_link (by omega) hk hj]
    · exact g5 j h0 (by rw [hlen]; exact hj) (by rw [canS_link (by omega) hk hj]; exact hl)
theorem canM_all {L : List Con} (h : val2M 2 L = true) : sameT (canM L) L ∧ fusM 2 (canM L) = true ∧ oddVM (canM L) = oddVM (fuseM L) ∧ ∀ j, 0 < j → j < L.length → linkM (canM L) j = true → (at_ (canM L) j).sign = 1 := by
  obtain ⟨a, b, c, d⟩ := val2_ok h
  have hl := fuseM_len (L := L)
  obtain ⟨g1, g2, g3, g4, g5⟩ := canG_all (k := (fuseM L).length - 1) (L := fuseM L) (fuseM_ok a) (fus_fuse h) (by omega) (fun j h1 h2 => by omega)
  refine ⟨g1.trans fuseM_same, g2, g3, fun j h0 hj hlk => ?_⟩
  exact g5 j h0 (by omega) (by rw [← g4 j (by omega)]; exact hlk)
end Go.Proofs.YtcfdaddablojlaaGreatDoor.S

/- Plain: steps commute; a step over a link does not change the canonical list. -/
set_option linter.unusedSimpArgs false
set_option linter.unusedVariables false
namespace Go.Proofs.YtcfdaddablojlaaGreatDoor.S
open Go.QfSy Go.RowKit

/- the canonical list of a fused one -/
end Go.Proofs.YtcfdaddablojlaaGreatDoor.S

/- Plain: raw lists can be refined when fused, and walks keep that. -/
set_option linter.unusedSimpArgs false
set_option linter.unusedVariables false
namespace Go.Proofs.YtcfdaddablojlaaGreatDoor.S
open Go.QfSy Go.RowKit

theorem flat_nodup : ∀ {P : List (List Int)} {l : List Int}, P.flatten.Nodup → l ∈ P → l.Nodup
  | [], l, _, hl => by simp at hl
  | q :: P, l, hd, hl => by
    simp only [List.flatten_cons, List.nodup_append] at hd
    rcases List.mem_cons.1 hl with rfl | hl
    · exact hd.1
    · exact flat_nodup hd.2.1 hl
theorem ft2 {p : Int} {L : List Con} (h : fusM p L = true) {l : List Int} (hl : l ∈ partsM L) : totM L l = (at_ L (l.getD 0 0).toNat).oddity := (fus_tot h l hl).2.2
theorem canR_of {L M : List Con} (he : ∀ k, wO (at_ L k) 0 = wO (at_ M k) 0) : ∀ {l : List Int} {tot : Int}, (∀ x ∈ l, legalB (at_ L x.toNat) = true) → (sumO L l - tot) % 8 = 0 → 0 ≤ tot ∧ tot < 8 → canR M l tot = true
  | [], tot, _, hs, ht => by
    simp only [canR, beq_iff_eq]
    simp only [sumO] at hs
    omega
  | i :: l, tot, hl, hs, ht => by
    have h1 := hl i List.mem_cons_self
    have h2 := (of_decide_eq_true h1 : legalP _).2.2.2.1
    simp only [sumO] at hs
    simp only [canR]
    rw [List.any_eq_true]
    refine ⟨(at_ L i.toNat).oddity.toNat, List.mem_range.2 (by omega), ?_⟩
    rw [show (((at_ L i.toNat).oddity.toNat : Nat) : Int) = (at_ L i.toNat).oddity by omega, ← wO_eq (he i.toNat), Bool.and_eq_true]
    refine ⟨h1, canR_of he (fun x hx => hl x (List.mem_cons_of_mem _ hx)) (by omega) (by omega)⟩
theorem fuse_wO (L : List Con) (k : Nat) : wO (at_ L k) 0 = wO (at_ (fuseM L) k) 0 := by
  rcases Nat.lt_or_ge k L.length with hk | hk
  · obtain ⟨h1, h2⟩ := fuseM_same (L := L)
    have h2 := h2 k (by rw [h1]; exact hk)
    exact con_ext h2.1.symm h2.2.2.symm sign_fuseM.symm h2.2.1.symm rfl
  · have e1 : at_ L k = Con.zero := by simp [at_, List.getD_eq_getElem?_getD, List.getElem?_eq_none hk]
    have e2 : at_ (fuseM L) k = Con.zero := by simp [at_, List.getD_eq_getElem?_getD, List.getElem?_eq_none (show (fuseM L).length ≤ k by rw [fuseM_len]; exact hk)]
    rw [e1, e2]
theorem lg_fuse {L : List Con} (h : val2M 2 L = true) : lgAll (fuseM L) = true := by
  have hf := fus_fuse h
  rw [lgAll, List.all_eq_true]
  intro l hl
  rw [← row_lg hf hl]
  have hl' : l ∈ partsM L := by rw [← parts_same (fuseM_same (L := L))]; exact hl
  obtain ⟨h1, h2, _⟩ := parts_rows l hl'
  have hm := first_mem h1
  have h0 := (h2 _ hm).1
  have e : (at_ (fuseM L) (l.getD 0 0).toNat).oddity = totM L l := by
    rw [fuseM_at hl' (by rw [Int.toNat_of_nonneg h0]; exact hm), if_pos (Int.toNat_of_nonneg h0)]
  rw [e]
  refine canR_of (fuse_wO L) (fun x hx => ?_) (by unfold totM; omega) (by unfold totM; omega)
  have := (h2 x hx)
  exact decide_eq_true ((val2_parts h).2 x.toNat (by omega))

theorem lgN_flip : ((List.range 8).all fun d => [true, false].all fun s => (List.range 8).all fun t => (!lgN (d + 1) s t) || lgN (d + 1) (!s) ((t + 4) % 8)) = true := by kernel_rfl
theorem lgN_keep : ((List.range 8).all fun d => [true, false].all fun s => (List.range 8).all fun t => (!lgN (d + 1) s t) || (Nat.beq d 0 || ((Nat.beq d 1 && Nat.beq (t % 4) 0) || lgN (d + 1) s ((t + 4) % 8)))) = true := by kernel_rfl
theorem lgB_flip {d s t : Int} (hd : 1 ≤ d ∧ d ≤ 8) (hs : s = 1 ∨ s = -1) (ht : 0 ≤ t ∧ t < 8) (h : lgB d s t = true) : lgB d (-s) ((t + 4) % 8) = true := by
  obtain ⟨b, rfl⟩ := sg_of hs
  obtain ⟨D, rfl⟩ : ∃ D : Nat, d = D := ⟨d.toNat, by omega⟩
  obtain ⟨T, rfl⟩ : ∃ T : Nat, t = T := ⟨t.toNat, by omega⟩
  rw [lgB_N (by omega) (by omega) (by omega)] at h
  rw [show -(sg b) = sg (!b) by cases b <;> rfl, show ((T : Int) + 4) % 8 = (((T + 4) % 8 : Nat) : Int) by omega, lgB_N (by omega) (by omega) (by omega)]
  have k := lgN_flip
  rw [List.all_eq_true] at k
  have k := k (D - 1) (by simp; omega)
  rw [List.all_eq_true] at k
  have k := k b (by cases b <;> simp)
  rw [List.all_eq_true] at k
  have k := k T (by simp; omega)
  rw [show D - 1 + 1 = D by omega, h] at k
  simpa using k
theorem lgB_keep {d s t : Int} (hd : 2 ≤ d ∧ d ≤ 8) (hs : s = 1 ∨ s = -1) (ht : 0 ≤ t ∧ t < 8) (hb : ¬ (d = 2 ∧ t % 4 = 0)) (h : lgB d s t = true) : lgB d s ((t + 4) % 8) = true := by
  obtain ⟨b, rfl⟩ := sg_of hs
  obtain ⟨D, rfl⟩ : ∃ D : Nat, d = D := ⟨d.toNat, by omega⟩
  obtain ⟨T, rfl⟩ : ∃ T : Nat, t = T := ⟨t.toNat, by omega⟩
  rw [lgB_N (by omega) (by omega) (by omega)] at h
  rw [show ((T : Int) + 4) % 8 = (((T + 4) % 8 : Nat) : Int) by omega, lgB_N (by omega) (by omega) (by omega)]
  have k := lgN_keep
  rw [List.all_eq_true] at k
  have k := k (D - 1) (by simp; omega)
  rw [List.all_eq_true] at k
  have k := k b (by cases b <;> simp)
  rw [List.all_eq_true] at k
  have k := k T (by simp; omega)
  have k0 : Nat.beq (D - 1) 0 = false := by cases hq : Nat.beq (D - 1) 0 with | false => rfl | true => have := Nat.eq_of_beq_eq_true hq; omega
  have k1 : (Nat.beq (D - 1) 1 && Nat.beq (T % 4) 0) = false := by
    cases hq : Nat.beq (D - 1) 1 with
    | false => rfl
    | true =>
      have := Nat.eq_of_beq_eq_true hq
      cases hr : Nat.beq (T % 4) 0 with
      | false => rfl
      | true => have := Nat.eq_of_beq_eq_true hr; exact absurd ⟨by omega, by omega⟩ hb
  rw [show D - 1 + 1 = D by omega, h, k0, k1] at k
  simpa using k

theorem sgnR_step {L : List Con} {i : Nat} (h1 : 1 ≤ i) (h2 : i < L.length) : ∀ {l : List Int}, l.Nodup → inR L.length l → sgnR (stepM L i) l = sgnR L l * (if (i : Int) ∈ l then -1 else 1) * (if (i : Int) - 1 ∈ l then -1 else 1)
  | [], _, _ => by simp [sgnR]
  | x :: l, hd, hl => by
    rw [List.nodup_cons] at hd
    have hx := hl x List.mem_cons_self
    have ih := sgnR_step h1 h2 hd.2 (fun y hy => hl y (List.mem_cons_of_mem _ hy))
    simp only [sgnR]
    rw [ih, step_at h1 h2 (by omega)]
    simp only [stepC, List.mem_cons]
    by_cases e1 : (i : Int) = x
    · have n1 : (i : Int) ∉ l := by rw [e1]; exact hd.1
      have b1 : (x.toNat == i) = true := by rw [beq_iff_eq]; omega
      have n2 : ¬ (i : Int) - 1 = x := by omega
      have q1 : ((i : Int) = x ∨ (i : Int) ∈ l) := .inl e1
      have q2 : ((i : Int) - 1 = x ∨ (i : Int) - 1 ∈ l) ↔ (i : Int) - 1 ∈ l := ⟨fun h => h.resolve_left n2, .inr⟩
      simp only [if_neg n1, if_pos q1, q2, b1, Bool.true_or, cond_true, Int.mul_neg, Int.neg_mul, Int.mul_one, Int.mul_assoc]
    · by_cases e2 : (i : Int) - 1 = x
      · have n1 : (i : Int) - 1 ∉ l := by rw [e2]; exact hd.1
        have b1 : (x.toNat == i) = false := by rw [beq_eq_false_iff_ne]; omega
        have b2 : (x.toNat == i - 1) = true := by rw [beq_iff_eq]; omega
        have q1 : ((i : Int) - 1 = x ∨ (i : Int) - 1 ∈ l) := .inl e2
        have q2 : ((i : Int) = x ∨ (i : Int) ∈ l) ↔ (i : Int) ∈ l := ⟨fun h => h.resolve_left e1, .inr⟩
        simp only [if_neg n1, if_pos q1, q2, b1, b2, Bool.or_true, cond_true, Int.mul_neg, Int.neg_mul, Int.mul_one, Int.mul_assoc]
      · have b1 : (x.toNat == i) = false := by rw [beq_eq_false_iff_ne]; omega
        have b2 : (x.toNat == i - 1) = false := by rw [beq_eq_false_iff_ne]; omega
        rw [b1, b2]
        simp only [e1, e2, false_or, Bool.or_self, cond_false, Int.mul_assoc]
theorem hit_one {L : List Con} {l : List Int} (hl : l ∈ partsM L) {x : Nat} (hx : x < L.length) : (decide (0 < (partM L (x : Int)).length) && (((partM L (x : Int)).getD 0 0).toNat == (l.getD 0 0).toNat)) = decide ((x : Int) ∈ l) := by
  obtain ⟨h1, h2, _⟩ := parts_rows l hl
  cases ho : oddB L x with
  | false =>
    rw [partM_even (fun h => by rw [ho] at h; exact absurd h.2 (by simp))]
    have : (x : Int) ∉ l := fun hm => by
      have := (row_odd hl _ hm).2.2
      rw [Int.toNat_natCast, ho] at this; cases this
    simp [this]
  | true =>
    obtain ⟨p1, p2⟩ := partM_odd hx ho
    by_cases hm : (x : Int) ∈ l
    · rw [part_mem hl hm]
      simp [hm, List.length_pos_iff.2 h1]
    · have hne : ((partM L (x : Int)).getD 0 0).toNat ≠ (l.getD 0 0).toNat := by
        intro e
        obtain ⟨g1, g2, _⟩ := parts_rows _ p1
        have m1 := first_mem g1
        have m2 := first_mem h1
        have e' : (partM L (x : Int)).getD 0 0 = l.getD 0 0 := by have := (g2 _ m1).1; have := (h2 _ m2).1; omega
        rw [e'] at m1
        have := part_mem p1 m1
        rw [part_mem hl m2] at this
        rw [← this] at p2
        exact hm p2
      rw [beq_eq_false_iff_ne.2 hne, decide_eq_false hm, Bool.and_false]
theorem hit_row {L : List Con} {l : List Int} (hl : l ∈ partsM L) {i : Nat} (h1 : 1 ≤ i) (h2 : i < L.length) : hitB L i (l.getD 0 0).toNat = (decide ((i : Int) - 1 ∈ l) || decide ((i : Int) ∈ l)) := by
  unfold hitB
  rw [hit_one hl h2, show (i : Int) - 1 = ((i - 1 : Nat) : Int) by omega, hit_one hl (by omega)]
theorem dimR_len {L : List Con} : ∀ {l : List Int}, (∀ x ∈ l, oddOk (at_ L x.toNat)) → (l.length : Int) ≤ dimR L l
  | [], _ => by simp [dimR]
  | i :: l, h => by
    have h1 := (h i List.mem_cons_self).2.1
    have ih := dimR_len (l := l) (fun x hx => h x (List.mem_cons_of_mem _ hx))
    simp only [dimR, List.length_cons]; omega
theorem lg_step {L : List Con} (hf : fusM 2 L = true) {i : Nat} (h1 : 1 ≤ i) (h2 : i < L.length) (hk : linkM L i = true) (ha : lgAll L = true) : lgAll (stepM L i) = true := by
  rw [lgAll, List.all_eq_true] at ha ⊢
  intro l hl
  have hl : l ∈ partsM L := by rw [← parts_same (step_same h1 h2)]; exact hl
  have ha := ha l hl
  obtain ⟨g1, g2, _⟩ := parts_rows l hl
  obtain ⟨f1, f2, f3, f4, f5⟩ := fus_parts hf
  have hm := g2 _ (first_mem g1)
  have hF := f5 (l.getD 0 0).toNat (by omega)
  have hok := row_ok hf hl
  have hd8 := row_dim hf hl
  have hd1 := dimR_pos g1 hok
  have hsg := sgnR_pm hok
  have hnd : l.Nodup := flat_nodup (parts_nodup L) hl
  unfold lgRow at ha ⊢
  rw [dimR_same (step_same h1 h2) (by rw [stepM_len]; exact g2), sgnR_step h1 h2 hnd g2, step_at h1 h2 (by omega)]
  simp only [stepC]
  rw [hit_row hl h1 h2]
  have ht : 0 ≤ (at_ L (l.getD 0 0).toNat).oddity ∧ (at_ L (l.getD 0 0).toNat).oddity < 8 := ⟨hF.odt.1, by have := hF.odt.2; omega⟩
  by_cases m1 : (i : Int) ∈ l
  · by_cases m2 : (i : Int) - 1 ∈ l
    · rw [if_pos m1, if_pos m2]
      simp only [m1, m2, decide_true, Bool.or_self, cond_true, Int.mul_neg, Int.mul_one, Int.neg_neg]
      have hlen : 2 ≤ l.length := by
        match l, m1, m2 with
        | [], m1, _ => simp at m1
        | [a], m1, m2 => simp at m1 m2; omega
        | a :: b :: l, _, _ => simp
      have hdl := dimR_len hok
      refine lgB_keep ⟨by omega, hd8⟩ hsg ht ?_ ha
      rintro ⟨b1, b2⟩
      obtain ⟨s, n, e, _, hj⟩ := part_row hl
      have hi := mem_ivN.1 (e ▸ m1)
      have hi' := mem_ivN.1 (e ▸ m2)
      have hju := hj (i - s) (by omega)
      rw [show s + (i - s) = i by omega] at hju
      have hj1 := hju.2 (by omega)
      simp only [joinB, Bool.and_eq_true, decide_eq_true_eq] at hj1
      have ho : (at_ L i).odd = true := hju.1
      have hlk := hk
      unfold linkM at hlk
      rw [show (at_ L i).exp - (at_ L (i - 1)).exp = 1 by omega] at hlk
      rw [part_mem hl m1, hj1.2.1, ho] at hlk
      have hbad : badM L l = true := by
        match l, hlen, hdl, b1, hok, ft2 hf hl with
        | [a, b], _, _, b1, hok, ft =>
          have q1 := (hok a (by simp)).2.1
          have q2 := (hok b (by simp)).2.1
          simp only [dimR] at b1
          simp only [badM, List.length_cons, List.length_nil, decide_true, Bool.true_and, Bool.and_eq_true, beq_iff_eq]
          simp only [List.getD_cons_zero, List.getD_cons_succ] at ft b2 ⊢
          exact ⟨by omega, by omega, by rw [ft]; exact b2⟩
        | a :: b :: c :: l, _, hdl, b1, _, _ => simp only [List.length_cons] at hdl; omega
      rw [hbad] at hlk
      simp at hlk
    · rw [if_pos m1, if_neg m2]
      simp only [m1, m2, decide_true, decide_false, Bool.or_true, Bool.false_or, cond_true, Int.mul_neg, Int.mul_one, Int.neg_neg]
      exact lgB_flip ⟨hd1, hd8⟩ hsg ht ha
  · by_cases m2 : (i : Int) - 1 ∈ l
    · rw [if_neg m1, if_pos m2]
      simp only [m1, m2, decide_true, decide_false, Bool.or_false, Bool.true_or, cond_true, Int.mul_neg, Int.mul_one, Int.neg_neg]
      exact lgB_flip ⟨hd1, hd8⟩ hsg ht ha
    · rw [if_neg m1, if_neg m2]
      simp only [m1, m2, decide_false, Bool.or_self, cond_false, Int.mul_one]
      exact ha
end Go.Proofs.YtcfdaddablojlaaGreatDoor.S

/- Plain: the canonical list of a raw one can be refined. -/
set_option linter.unusedSimpArgs false
set_option linter.unusedVariables false
namespace Go.Proofs.YtcfdaddablojlaaGreatDoor.S
open Go.QfSy Go.RowKit

theorem lg_canS {L : List Con} (hf : fusM 2 L = true) (ha : lgAll L = true) {k : Nat} (h1 : 1 ≤ k) (h2 : k < L.length) : lgAll (canS L k) = true := by
  unfold canS
  cases hs : ((at_ L k).sign == -1 && linkM L k) with
  | false => exact ha
  | true =>
    simp only [Bool.and_eq_true] at hs
    exact lg_step hf h1 h2 hs.2 ha
theorem lg_canG : ∀ {k : Nat} {L : List Con}, fusM 2 L = true → lgAll L = true → k < L.length → lgAll (canG L k) = true
  | 0, L, _, ha, _ => ha
  | k + 1, L, hf, ha, hk => by
    simp only [canG]
    exact lg_canG (canS_fus hf (by omega) hk) (lg_canS hf ha (by omega) hk) (by rw [canS_len]; omega)
theorem lg_can {L : List Con} (h : val2M 2 L = true) : lgAll (canM L) = true := by
  have hf := fus_fuse h
  have hn := (fus_parts hf).2.1
  exact lg_canG hf (lg_fuse h) (by omega)
end Go.Proofs.YtcfdaddablojlaaGreatDoor.S

/- Plain: fusing keeps the oddity of a whole list. -/
set_option linter.unusedSimpArgs false
set_option linter.unusedVariables false
namespace Go.Proofs.YtcfdaddablojlaaGreatDoor.S
open Go.QfSy Go.RowKit

def sumW (L : List Con) : Int := sumN (fun k => oddW (at_ L k)) L.length
theorem sumN_congr {f g : Nat → Int} : ∀ {n : Nat}, (∀ k, k < n → f k = g k) → sumN f n = sumN g n
  | 0, _ => rfl
  | n + 1, h => by simp only [sumN]; rw [sumN_congr (fun k hk => h k (by omega)), h n (by omega)]
theorem sumW_setO {L : List Con} {i t : Int} (h0 : 0 ≤ i) (h1 : i < (L.length : Int)) : sumW (setO L i t) = sumW L - (at_ L i.toNat).oddity + t := by
  unfold sumW
  rw [setO_len, sumN_congr (g := fun k => oddW (at_ L k) + (if k = i.toNat then t - (at_ L i.toNat).oddity else 0)) (fun k hk => ?_), sumN_add, sumN_ind, if_pos (by omega)]
  · omega
  · rw [at_setO']
    by_cases e : k = i.toNat
    · rw [if_pos ⟨e.symm, hk⟩, if_pos e, ← e]
      unfold oddW
      simp only
      omega
    · rw [if_neg (by intro h; exact e h.1.symm), if_neg e]; omega
theorem sumW_zeroP : ∀ {l : List Int} {L : List Con}, l.Nodup → inR L.length l → sumW (zeroP L l) = sumW L - sumO L l
  | [], L, _, _ => by simp [zeroP, sumO]
  | i :: l, L, hn, hl => by
    have hn' := List.nodup_cons.1 hn
    have hi := hl i (by simp)
    simp only [zeroP, sumO]
    rw [sumW_zeroP hn'.2 (by rw [setO_len]; exact fun x hx => hl x (by simp [hx])), sumW_setO hi.1 hi.2, sumO_set hi.1 (fun x hx => ⟨(hl x (by simp [hx])).1, fun e => hn'.1 (e ▸ hx)⟩)]
    omega
theorem sumW_fuseP {L0 L : List Con} {l : List Int} (hn : l.Nodup) (hl : inR L.length l) (hne : l ≠ []) (he : sumO L l = sumO L0 l) : (sumW (fuseP L0 L l) - sumW L) % 8 = 0 := by
  have hp : 0 < l.length := List.length_pos_iff.2 hne
  have h0 := hl.at hp
  have hm : (((l.getD 0 0).toNat : Nat) : Int) ∈ l := by
    rw [show (((l.getD 0 0).toNat : Nat) : Int) = l.getD 0 0 by omega]
    cases l with
    | nil => exact absurd rfl hne
    | cons a l => simp
  unfold fuseP
  rw [sumW_setO h0.1 (by rw [zeroP_len]; exact h0.2), sumW_zeroP hn hl, zero_at (by omega) hm (fun x hx => (hl x hx).1), he]
  unfold totM
  omega
theorem sumW_fuseG {L0 : List Con} : ∀ {P : List (List Int)} {L : List Con}, P.flatten.Nodup → (∀ l ∈ P, l ≠ [] ∧ inR L.length l) → (∀ x ∈ P.flatten, at_ L x.toNat = at_ L0 x.toNat) → (sumW (fuseG L0 L P) - sumW L) % 8 = 0
  | [], L, _, _, _ => by simp [fuseG]
  | l :: P, L, hn, hr, h => by
    simp only [List.flatten_cons] at hn h
    have hd := List.nodup_append.1 hn
    have hlr := hr l (by simp)
    have h1 := sumW_fuseP (L0 := L0) hd.1 hlr.2 hlr.1 (sumO_agree (fun x hx => h x (by simp [hx])))
    have h2 := sumW_fuseG (L0 := L0) (P := P) (L := fuseP L0 L l) hd.2.1 (fun m hm => by rw [fuseP_len]; exact hr m (by simp [hm])) (fun x hx => by
      rw [at_fuseP hlr.1 (fun y hy e2 => ?_), h x (by simp [hx])]
      obtain ⟨m, hm, hxm⟩ := List.mem_flatten.1 hx
      have a1 := (hr m (by simp [hm])).2 x hxm
      have a2 := hlr.2 y hy
      exact hd.2.2 y hy x hx (by omega))
    simp only [fuseG]
    omega
theorem odd_fuse {L : List Con} : oddVM (fuseM L) = oddVM L := by
  have := sumW_fuseG (L0 := L) (L := L) (parts_nodup L) (fun l hl => ⟨(parts_rows l hl).1, (parts_rows l hl).2.1⟩) (fun _ _ => rfl)
  have e1 : oddVM (fuseM L) = sumW (fuseG L L (partsM L)) % 8 := rfl
  have e2 : oddVM L = sumW L % 8 := rfl
  rw [e1, e2]
  omega
theorem odd_can {L : List Con} (h : val2M 2 L = true) : oddVM (canM L) = oddVM L := (canM_all h).2.2.1.trans odd_fuse
end Go.Proofs.YtcfdaddablojlaaGreatDoor.S

/- TrainCanonicalIs returns true. -/
set_option linter.unusedSimpArgs false
set_option linter.unusedVariables false
namespace Go.Proofs.YtcfdaddablojlaaGreatDoor.S
open Go.QfSy Go.RowKit

theorem chain_row {L : List Con} {l : List Int} (h : l ∈ chainsM L) : rowOk (fun _ => true) (linkJ L) l := by
  refine (grp_iv (b := fun _ => true) (j := linkJ L) (fun _ _ => rfl) ?_ L.length).rows l h
  unfold linkJ; rfl
theorem fst_can {L : List Con} (h : val2M 2 L = true) : fstM (canM L) (chainsM (canM L)) = true := by
  obtain ⟨hs, _, _, hk⟩ := canM_all h
  refine List.all_eq_true.2 fun l hl => List.all_eq_true.2 fun x hx => ?_
  obtain ⟨s, n, he, _, ht⟩ := chain_row hl
  have hr := chains_rows l hl
  rw [he] at hx hr
  have : (ivN s (n + 1)).drop 1 = ivN (s + 1) n := rfl
  rw [this] at hx
  have hx2 := mem_ivN.1 hx
  have hxr := hr.2.1 x (by rw [mem_ivN]; omega)
  obtain ⟨k, rfl⟩ : ∃ k : Nat, x = (k : Int) := ⟨x.toNat, by omega⟩
  have h1 := (ht (k - s) (by omega)).2 (by omega)
  rw [show s + (k - s) = k by omega] at h1
  unfold linkJ at h1
  simp only [Bool.and_eq_true, decide_eq_true_eq] at h1
  have h2 := hk k h1.1 (by have := hs.1; omega) h1.2
  rw [Int.toNat_natCast, h2]; rfl
theorem ref_can {L : List Con} (h : val2M 2 L = true) : (refM (canM L)).isSome = true := by
  obtain ⟨R, hR, _⟩ := ref_some (canM_all h).2.1 (lg_can h)
  rw [hR]; rfl
theorem ic_fus {p : Int} {L : List Con} (h : icM p L = true) : fusM p L = true := by unfold icM at h; simp only [Bool.and_eq_true] at h; exact h.1
noncomputable def entsCi (kx : Int) (X : List Prt) (L K : List Con) (o : Int) : List OEnt := entsRaw kx X L ++ [
  ⟨22, [], fun A => match A with
    | [.agg [.int .i64 p, .sl n 5 row]] => some (.tup [.agg [.int .i64 2, roC K], .bool true], [(∀ i, i < n → row i = (Con.ofR (row i)).rvs) ∧ p = 2 ∧ val2M 2 (consR n row) = true ∧ canM (consR n row) = K])
    | _ => none⟩,
  ⟨27, [], fun A => match A with
    | [.agg [.int .i64 p, .sl n 5 row]] => some (.tup [.int .i64 o, .bool true], [(∀ i, i < n → row i = (Con.ofR (row i)).rvs) ∧ p = 2 ∧ shV 2 (consR n row) = true ∧ oddVM (consR n row) = o])
    | _ => none⟩,
  ⟨31, [], fun A => match A with
    | [.agg [.int .i64 p, .sl n 5 row]] => some (.tup [roR .i64 (chainsM (consR n row)), .bool true], [(∀ i, i < n → row i = (Con.ofR (row i)).rvs) ∧ p = 2 ∧ shV 2 (consR n row) = true])
    | _ => none⟩,
  ⟨41, [], fun A => match A with
    | [.agg [.int .i64 p, .sl n 5 row]] => some (.bool true, [(∀ i, i < n → row i = (Con.ofR (row i)).rvs) ∧ p = 2 ∧ icM 2 (consR n row) = true])
    | _ => none⟩]
theorem entsCi_ok {kx : Int} {X : List Prt} {L K : List Con} {o : Int} (hra : RawC kx X L) : ∀ e ∈ entsCi kx X L K o, EntOk Tryz.prog e := by
  intro e he
  rcases List.mem_append.1 he with he | he
  · exact entsRaw_ok hra e he
  simp only [List.mem_cons, List.not_mem_nil, or_false] at he
  rcases he with rfl | rfl | rfl | rfl
  all_goals
    intro A R ms h hm
    simp only at h
    split at h
    all_goals first | (cases h; done) | cases h
  · obtain ⟨h1, h2, h3, h4⟩ := all_one hm
    subst h2
    subst h4
    obtain ⟨a, _, c, _⟩ := val2_ok h3
    exact PureC.imp (tcan_yes _ a h3 c) (.cons (.agg (.cons .same (.cons (.con h1) .nil))) .nil)
  · obtain ⟨h1, h2, h3, h4⟩ := all_one hm
    subst h2
    subst h4
    exact PureC.imp (todd_yes 2 _ (shV_ok h3) h3) (.cons (.agg (.cons .same (.cons (.con h1) .nil))) .nil)
  · obtain ⟨h1, h2, h3⟩ := all_one hm
    subst h2
    exact PureC.imp (ttrn_yes 2 _ (shV_ok h3) (shV_ne h3) h3) (.cons (.agg (.cons .same (.cons (.con h1) .nil))) .nil)
  · obtain ⟨h1, h2, h3⟩ := all_one hm
    subst h2
    have := tic_pure 2 _ (fus_okL (ic_fus h3)).1
    rw [h3] at this
    exact PureC.imp this (.cons (.agg (.cons .same (.cons (.con h1) .nil))) .nil)
noncomputable def ciB (o : Int) : List (Nat × AV) := [(4, .ptr 1003 0), (5, .vbool true), (6, .vint .i64 o), (7, .vbool true), (8, .vint .i64 o), (9, .vbool true), (11, .vbool true)]
noncomputable def ciT (K : List Con) (o : Int) (j : AV) : List (Nat × AV) := ciB o ++ [(41, (roR .i64 (chainsM K)).av), (42, .vint .i64 (chainsM K).length), (43, j)]
noncomputable def ciH (K : List Con) : List (Nat × Blk) := [(1003, ⟨.plain [.vint .i64 2, (roC K).av], 24, 0, false, true⟩)] ++ tabList tabs
noncomputable def ciI (K : List Con) (o : Int) (j : Nat) (k : AV) : List (Nat × AV) := ciT K o (.vint .i64 (j : Int)) ++ [(47, (rI .i64 (rowAt (chainsM K) j)).av), (48, .vint .i64 (rowAt (chainsM K) j).length), (49, k)]
noncomputable def ciIn (K : List Con) (o : Int) (j : Nat) : Ann := ⟨⟨ciI K o j (.int .i64 0), ciH K, 1500⟩, none, fun _ => (.exit 2, ⟨ciT K o (.vint .i64 (j : Int)), ciH K, 1500⟩)⟩
noncomputable def ciOut (K : List Con) (o : Int) : Ann := ⟨⟨ciT K o (.int .i64 0), ciH K, 1500⟩, none, fun _ => (.exit 0, ⟨ciB o, ciH K, 1500⟩)⟩
theorem sgR_at {L : List Con} {l : List Int} (h : sgR L (l.drop 1) = true) {t : Nat} (h0 : 0 < t) (ht : t < l.length) : ((L.getD (l.getD t 0).toNat Con.zero).sign == -1) = false := by
  have h1 := List.all_eq_true.1 h (l.getD t 0) (by
    have : (l.drop 1)[t - 1]? = some (l.getD t 0) := by
      rw [List.getElem?_drop, show 1 + (t - 1) = t by omega]; simp [ht]
    exact List.mem_of_getElem? this)
  simpa using h1
set_option maxRecDepth 100000 in
theorem ci_in (K : List Con) (o : Int) (j : Nat) (hn : K.length ≤ 1000) (hr : inR K.length (rowAt (chainsM K) j)) (hl : (rowAt (chainsM K) j).length ≤ 1000) (hf : sgR K ((rowAt (chainsM K) j).drop 1) = true) : AnnOk Tryz.prog EV.ng (Nat.max 1 Tryz.f14.ntmps) (bodyAt Tryz.f14 [0, 1, 1, 0, 0, 1, 1, 0, 0, 1, 0, 1, 1, 1, 1, 1, 1, 1]) (ciIn K o j) := by
  refine ann_of evOk (callF_ok evOk (noOrc_ok _ _) 8) none_ann (by kernel_rfl) (by kernel_rfl) (fun i : Nat => (fun (t : Nat) => (⟨ciI K o j (.vint .i64 (t : Int)), ciH K, 1500⟩ : St)) i) (fun i : Nat => (fun (t : Nat) => ((rowAt (chainsM K) j).length - t : Nat)) i) (fun (d : Bool) (i : Nat) => (fun (t : Nat) => (t ≤ (rowAt (chainsM K) j).length : Prop)) i) ?_ ?_
  · intro d hd
    exact ⟨(0), [true = true, o = o, true = true, o = o, true = true, true = true, (chainsM K).length = (chainsM K).length ∧ (fun i => [rI IntKind.i64 ((chainsM K).getD i [])]) = fun i => [rI IntKind.i64 ((chainsM K).getD i [])], (↑(chainsM K).length : Int) = (↑(chainsM K).length : Int), (↑j : Int) = (↑j : Int), (rowAt (chainsM K) j).length = (rowAt (chainsM K) j).length ∧ (fun j_1 => [RV.int IntKind.i64 ((rowAt (chainsM K) j).getD j_1 (0 : Int))]) = fun j_1 => [RV.int IntKind.i64 ((rowAt (chainsM K) j).getD j_1 (0 : Int))], (↑(rowAt (chainsM K) j).length : Int) = (↑(rowAt (chainsM K) j).length : Int), (0 : Int) = (↑(0 : Nat) : Int), (2 : Int) = (2 : Int), K.length = K.length ∧ (fun i => (K.getD i Con.zero).rvs) = fun i => (K.getD i Con.zero).rvs], by kernel_rfl, (by refine ⟨?_, ?_, ?_, ?_, ?_, ?_, ?_, ?_, ?_, ?_, ?_, ?_, ?_, (?_ : K.length = K.length ∧ (fun i => (K.getD i Con.zero).rvs) = fun i => (K.getD i Con.zero).rvs)⟩ <;> (first | rfl | assumption | omega | simp_all)), (by exact Nat.zero_le _)⟩
  · rintro d hd t hI
    cases d
    · -- d = false
      exact Bool.noConfusion (show false = true from hd)
    · -- d = true
      have ht : t ≤ (rowAt (chainsM K) j).length := hI
      have ek : IntKind.i64.wrap ((t : Int) + 1) = ((t + 1 : Nat) : Int) := by rw [w64 (by omega) (by omega)]; omega
      refine Or.elim (Bool.eq_false_or_eq_true (decide ((↑t : Int) < (↑(rowAt (chainsM K) j).length : Int)))) (fun d1 => Or.elim (Bool.eq_false_or_eq_true (decide ((rowAt (chainsM K) j).getD t (0 : Int) < (0 : Int)))) (fun d2 => CtG.no ?_)
           (fun d2 => Or.elim (Bool.eq_false_or_eq_true (decide ((rowAt (chainsM K) j).getD t (0 : Int) ≥ (↑K.length : Int)))) (fun d3 => CtG.no ?_)
           (fun d3 => Or.elim (Bool.eq_false_or_eq_true (decide ((↑t : Int) > (0 : Int)))) (fun d4 => Or.elim (Bool.eq_false_or_eq_true ((K.getD ((rowAt (chainsM K) j).getD t (0 : Int)).toNat Con.zero).sign == (-1 : Int))) (fun d5 => CtG.no ?_)
           (fun d5 => ⟨[true, false, false, true, false], .inl ⟨(t + 1), [true = true, o = o, true = true, o = o, true = true, true = true, (chainsM K).length = (chainsM K).length ∧ (fun i => [rI IntKind.i64 ((chainsM K).getD i [])]) = fun i => [rI IntKind.i64 ((chainsM K).getD i [])], (↑(chainsM K).length : Int) = (↑(chainsM K).length : Int), (↑j : Int) = (↑j : Int), (rowAt (chainsM K) j).length = (rowAt (chainsM K) j).length ∧ (fun j_1 => [RV.int IntKind.i64 ((rowAt (chainsM K) j).getD j_1 (0 : Int))]) = fun j_1 => [RV.int IntKind.i64 ((rowAt (chainsM K) j).getD j_1 (0 : Int))], (↑(rowAt (chainsM K) j).length : Int) = (↑(rowAt (chainsM K) j).length : Int), IntKind.i64.wrap ((↑t : Int) + (1 : Int)) = (↑(t + (1 : Nat)) : Int), (2 : Int) = (2 : Int), K.length = K.length ∧ (fun i => (K.getD i Con.zero).rvs) = fun i => (K.getD i Con.zero).rvs, Dec ((K.getD ((rowAt (chainsM K) j).getD t (0 : Int)).toNat Con.zero).sign == (-1 : Int)) false, (0 : Int) ≤ (rowAt (chainsM K) j).getD t (0 : Int) ∧ (rowAt (chainsM K) j).getD t (0 : Int) < (↑K.length : Int), Dec (decide ((↑t : Int) > (0 : Int))) true, Dec (decide ((rowAt (chainsM K) j).getD t (0 : Int) ≥ (↑K.length : Int))) false, Dec (decide ((rowAt (chainsM K) j).getD t (0 : Int) < (0 : Int))) false, (0 : Int) ≤ (↑t : Int) ∧ (↑t : Int) < (↑(rowAt (chainsM K) j).length : Int), Dec (decide ((↑t : Int) < (↑(rowAt (chainsM K) j).length : Int))) true], by kernel_rfl, ⟨?_, ?_, ?_, ?_, ?_, ?_, ?_, ?_, ?_, ?_, ?_, ?_, ?_, ?_, d5, ?_, d4, d3, d2, ?_, d1⟩, MuG.out ?_, InG.out ?_⟩⟩))
           (fun d4 => ⟨[true, false, false, false], .inl ⟨(t + 1), [true = true, o = o, true = true, o = o, true = true, true = true, (chainsM K).length = (chainsM K).length ∧ (fun i => [rI IntKind.i64 ((chainsM K).getD i [])]) = fun i => [rI IntKind.i64 ((chainsM K).getD i [])], (↑(chainsM K).length : Int) = (↑(chainsM K).length : Int), (↑j : Int) = (↑j : Int), (rowAt (chainsM K) j).length = (rowAt (chainsM K) j).length ∧ (fun j_1 => [RV.int IntKind.i64 ((rowAt (chainsM K) j).getD j_1 (0 : Int))]) = fun j_1 => [RV.int IntKind.i64 ((rowAt (chainsM K) j).getD j_1 (0 : Int))], (↑(rowAt (chainsM K) j).length : Int) = (↑(rowAt (chainsM K) j).length : Int), IntKind.i64.wrap ((↑t : Int) + (1 : Int)) = (↑(t + (1 : Nat)) : Int), (2 : Int) = (2 : Int), K.length = K.length ∧ (fun i => (K.getD i Con.zero).rvs) = fun i => (K.getD i Con.zero).rvs, Dec (decide ((↑t : Int) > (0 : Int))) false, Dec (decide ((rowAt (chainsM K) j).getD t (0 : Int) ≥ (↑K.length : Int))) false, Dec (decide ((rowAt (chainsM K) j).getD t (0 : Int) < (0 : Int))) false, (0 : Int) ≤ (↑t : Int) ∧ (↑t : Int) < (↑(rowAt (chainsM K) j).length : Int), Dec (decide ((↑t : Int) < (↑(rowAt (chainsM K) j).length : Int))) true], by kernel_rfl, ⟨?_, ?_, ?_, ?_, ?_, ?_, ?_, ?_, ?_, ?_, ?_, ?_, ?_, ?_, d4, d3, d2, ?_, d1⟩, MuG.out ?_, InG.out ?_⟩⟩))))
           (fun d1 => ⟨[false], .inr ⟨[true = true, o = o, true = true, o = o, true = true, true = true, (chainsM K).length = (chainsM K).length ∧ (fun i => [rI IntKind.i64 ((chainsM K).getD i [])]) = fun i => [rI IntKind.i64 ((chainsM K).getD i [])], (↑(chainsM K).length : Int) = (↑(chainsM K).length : Int), (↑j : Int) = (↑j : Int), (2 : Int) = (2 : Int), K.length = K.length ∧ (fun i => (K.getD i Con.zero).rvs) = fun i => (K.getD i Con.zero).rvs, Dec (decide ((↑t : Int) < (↑(rowAt (chainsM K) j).length : Int))) false], by kernel_rfl, ⟨?_, ?_, ?_, ?_, ?_, ?_, ?_, ?_, ?_, ?_, ?_, d1⟩, rfl⟩⟩)
      all_goals first | (refine MuG.mk ?_; (simp only [decide_eq_true_eq] at *; show (rowAt (chainsM K) j).length - (t + 1) < (rowAt (chainsM K) j).length - t; omega)) | (refine InG.mk ?_; (simp only [decide_eq_true_eq] at *; show t + 1 ≤ _; omega)) | (refine CtG.mk ?_; (simp only [Int.toNat_natCast, decide_eq_true_eq, decide_eq_false_iff_not, gt_iff_lt] at *; have h1 : t < (rowAt (chainsM K) j).length := (by omega); have h2 := hr.at (t := t) h1; first | (exfalso; omega) | (exact absurd d5 (by rw [sgR_at hf (by omega) h1]; decide)))) | (first | (with_reducible rfl) | exact ⟨rfl, rfl⟩ | ((try simp only [ek, Int.toNat_natCast, decide_eq_true_eq, decide_eq_false_iff_not] at *) <;> first | omega | (have h2 := hr.at (t := t) (by omega); omega)))
set_option maxRecDepth 100000 in
theorem ci_out (K : List Con) (o : Int) (hn : K.length ≤ 1000) (hf : fstM K (chainsM K) = true) : AnnOk Tryz.prog EV.ng (Nat.max 1 Tryz.f14.ntmps) (bodyAt Tryz.f14 [0, 1, 0, 1, 1, 1, 1, 1, 1, 1]) (ciOut K o) := by
  refine ann_ofI evOk (callF_ok evOk (noOrc_ok _ _) 8) (by kernel_rfl) (by kernel_rfl) (fun i : Nat => (fun (j : Nat) => (⟨ciT K o (.vint .i64 (j : Int)), ciH K, 1500⟩ : St)) i) (fun i : Nat => (fun (j : Nat) => ((chainsM K).length - j : Nat)) i) (fun (d : Bool) (i : Nat) => (fun (j : Nat) => (j ≤ (chainsM K).length : Prop)) i) (fun i : Nat => (fun (j : Nat) => ([([0, 1, 1, 0, 0, 1, 1, 0, 0, 1, 0, 1, 1, 1, 1, 1, 1, 1], ciIn K o j)] : List (List Nat × Ann))) i) ?_ ?_ ?_
  · rintro d hd j hI
    have hr : inR K.length (rowAt (chainsM K) j) ∧ (rowAt (chainsM K) j).length ≤ 1000 ∧ sgR K ((rowAt (chainsM K) j).drop 1) = true := by
      rcases Nat.lt_or_ge j (chainsM K).length with h | h
      · have h1 := chains_rows _ (rowAt_mem h)
        exact ⟨h1.2.1, by omega, List.all_eq_true.1 hf _ (rowAt_mem h)⟩
      · have e : rowAt (chainsM K) j = [] := by simp [rowAt, h]
        rw [e]; exact ⟨fun x hx => by simp at hx, by simp, rfl⟩
    exact one_ann (ci_in K o j hn hr.1 hr.2.1 hr.2.2)
  · intro d hd
    exact ⟨(0), [true = true, o = o, true = true, o = o, true = true, true = true, (chainsM K).length = (chainsM K).length ∧ (fun i => [rI IntKind.i64 ((chainsM K).getD i [])]) = fun i => [rI IntKind.i64 ((chainsM K).getD i [])], (↑(chainsM K).length : Int) = (↑(chainsM K).length : Int), (0 : Int) = (↑(0 : Nat) : Int), (2 : Int) = (2 : Int), K.length = K.length ∧ (fun i => (K.getD i Con.zero).rvs) = fun i => (K.getD i Con.zero).rvs], by kernel_rfl, (by refine ⟨?_, ?_, ?_, ?_, ?_, ?_, ?_, ?_, ?_, ?_, (?_ : K.length = K.length ∧ (fun i => (K.getD i Con.zero).rvs) = fun i => (K.getD i Con.zero).rvs)⟩ <;> (first | rfl | assumption | omega | simp_all)), (by exact Nat.zero_le _)⟩
  · rintro d hd j hI
    cases d
    · -- d = false
      exact Bool.noConfusion (show false = true from hd)
    · -- d = true
      have hj : j ≤ (chainsM K).length := hI
      have hc := chains_len (L := K)
      have ek : IntKind.i64.wrap ((j : Int) + 1) = ((j + 1 : Nat) : Int) := by rw [w64 (by omega) (by omega)]; omega
      refine Or.elim (Bool.eq_false_or_eq_true (decide ((↑j : Int) < (↑(chainsM K).length : Int)))) (fun d1 => ⟨[true], .inl ⟨(j + 1), [true = true, o = o, true = true, o = o, true = true, true = true, (chainsM K).length = (chainsM K).length ∧ (fun i => [rI IntKind.i64 ((chainsM K).getD i [])]) = fun i => [rI IntKind.i64 ((chainsM K).getD i [])], (↑(chainsM K).length : Int) = (↑(chainsM K).length : Int), IntKind.i64.wrap ((↑j : Int) + (1 : Int)) = (↑(j + (1 : Nat)) : Int), (2 : Int) = (2 : Int), K.length = K.length ∧ (fun i => (K.getD i Con.zero).rvs) = fun i => (K.getD i Con.zero).rvs, true = true, o = o, true = true, o = o, true = true, true = true, (chainsM K).length = (chainsM K).length ∧ (fun i => [rI IntKind.i64 ((chainsM K).getD i [])]) = fun i => [rI IntKind.i64 ((chainsM K).getD i [])], (↑(chainsM K).length : Int) = (↑(chainsM K).length : Int), (↑j : Int) = (↑j : Int), ((chainsM K).getD j []).length = (rowAt (chainsM K) j).length ∧ (fun j_1 => [RV.int IntKind.i64 (((chainsM K).getD j []).getD j_1 (0 : Int))]) = fun j_1 => [RV.int IntKind.i64 ((rowAt (chainsM K) j).getD j_1 (0 : Int))], (↑((chainsM K).getD j []).length : Int) = (↑(rowAt (chainsM K) j).length : Int), (2 : Int) = (2 : Int), K.length = K.length ∧ (fun i => (K.getD i Con.zero).rvs) = fun i => (K.getD i Con.zero).rvs, (0 : Int) ≤ (↑j : Int) ∧ (↑j : Int) < (↑(chainsM K).length : Int), Dec (decide ((↑j : Int) < (↑(chainsM K).length : Int))) true], by kernel_rfl, ⟨?_, ?_, ?_, ?_, ?_, ?_, ?_, ?_, ?_, ?_, ?_, ?_, ?_, ?_, ?_, ?_, ?_, ?_, ?_, ?_, ?_, ?_, ?_, ?_, ?_, d1⟩, MuG.out ?_, InG.out ?_⟩⟩)
           (fun d1 => ⟨[false], .inr ⟨[true = true, o = o, true = true, o = o, true = true, true = true, (2 : Int) = (2 : Int), K.length = K.length ∧ (fun i => (K.getD i Con.zero).rvs) = fun i => (K.getD i Con.zero).rvs, Dec (decide ((↑j : Int) < (↑(chainsM K).length : Int))) false], by kernel_rfl, ⟨?_, ?_, ?_, ?_, ?_, ?_, ?_, ?_, d1⟩, rfl⟩⟩)
      all_goals first | (refine MuG.mk ?_; (simp only [decide_eq_true_eq] at *; show (chainsM K).length - (j + 1) < (chainsM K).length - j; omega)) | (refine InG.mk ?_; (simp only [decide_eq_true_eq] at *; show j + 1 ≤ _; omega)) | (refine CtG.mk ?_; (simp_all)) | (first | (with_reducible rfl) | exact ⟨rfl, rfl⟩ | ((try simp only [ek, Int.toNat_natCast, decide_eq_true_eq, decide_eq_false_iff_not] at *) <;> omega))
set_option maxHeartbeats 2000000 in
set_option maxRecDepth 100000 in
theorem canis_y (kx : Int) (X : List Prt) (L K : List Con) (o : Int) (hra : RawC kx X L) (hv : val2M 2 L = true) (hK : canM L = K) (hk : fusM 2 K = true) (ho1 : oddVM L = o) (ho2 : oddVM K = o) (hi : icM 2 K = true) (hf : fstM K (chainsM K) = true) : PureC Tryz.prog tabs 14 [.agg [.int .u8 kx, roP X]] (.bool true) := by
  have hs1 : shV 2 L = true := (show (val2M 2 L || fusM 2 L) = true by rw [hv]; rfl); have hs2 : shV 2 K = true := (show (val2M 2 K || fusM 2 K) = true by rw [hk, Bool.or_true])
  have rr := fun (tp : List Bool) (ms : List Prop) h hm => pure_run evOk (callF_ok evOk (orcOf_ok (entsCi_ok (K := K) (o := o) hra)) 8) Tryz.func14 (A := [.agg [.int .u8 kx, roP X]]) (N := Nat.max 1 Tryz.f14.ntmps) rfl (one_ann (ci_out K o (fus_okL hk).1 hf)) rfl rfl evNg (tabs := tabs) (R := .bool true) (tp := tp) (ms := ms) h hm
  refine Or.elim (Bool.eq_false_or_eq_true (decide ((↑X.length : Int) > (20 : Int)))) (fun d1 => rr [true] [true = true, Dec (decide ((↑X.length : Int) > (20 : Int))) true] (by kernel_rfl) ⟨?_, d1⟩)
           (fun d1 => Or.elim (Bool.eq_false_or_eq_true (o == o)) (fun d2 => rr [false, true, true, true, true, true, true] [true = true, Dec true true, (∀ (i : Nat), i < K.length → (fun i => (K.getD i Con.zero).rvs) i = (Con.ofR ((fun i => (K.getD i Con.zero).rvs) i)).rvs) ∧ (2 : Int) = (2 : Int) ∧ icM (2 : Int) (consR K.length fun i => (K.getD i Con.zero).rvs) = true, Dec (o == o) true, Dec true true, Dec true true, Dec true true, Dec true true, true = true, o = o, true = true, o = o, true = true, true = true, (chainsM (consR K.length fun i => (K.getD i Con.zero).rvs)).length = (chainsM K).length ∧ (fun i => [rI IntKind.i64 ((chainsM (consR K.length fun i => (K.getD i Con.zero).rvs)).getD i [])]) = fun i => [rI IntKind.i64 ((chainsM K).getD i [])], (↑(chainsM (consR K.length fun i => (K.getD i Con.zero).rvs)).length : Int) = (↑(chainsM K).length : Int), (2 : Int) = (2 : Int), K.length = K.length ∧ (fun i => (K.getD i Con.zero).rvs) = fun i => (K.getD i Con.zero).rvs, (∀ (i : Nat), i < K.length → (fun i => (K.getD i Con.zero).rvs) i = (Con.ofR ((fun i => (K.getD i Con.zero).rvs) i)).rvs) ∧ (2 : Int) = (2 : Int) ∧ shV (2 : Int) (consR K.length fun i => (K.getD i Con.zero).rvs) = true, (∀ (i : Nat), i < K.length → (fun i => (K.getD i Con.zero).rvs) i = (Con.ofR ((fun i => (K.getD i Con.zero).rvs) i)).rvs) ∧ (2 : Int) = (2 : Int) ∧ shV (2 : Int) (consR K.length fun i => (K.getD i Con.zero).rvs) = true ∧ oddVM (consR K.length fun i => (K.getD i Con.zero).rvs) = o, (∀ (i : Nat), i < L.length → (fun i => (L.getD i Con.zero).rvs) i = (Con.ofR ((fun i => (L.getD i Con.zero).rvs) i)).rvs) ∧ (2 : Int) = (2 : Int) ∧ shV (2 : Int) (consR L.length fun i => (L.getD i Con.zero).rvs) = true ∧ oddVM (consR L.length fun i => (L.getD i Con.zero).rvs) = o, (∀ (i : Nat), i < L.length → (fun i => (L.getD i Con.zero).rvs) i = (Con.ofR ((fun i => (L.getD i Con.zero).rvs) i)).rvs) ∧ (2 : Int) = (2 : Int) ∧ val2M (2 : Int) (consR L.length fun i => (L.getD i Con.zero).rvs) = true ∧ canM (consR L.length fun i => (L.getD i Con.zero).rvs) = K, kx = kx ∧ (8 : Int) = (8 : Int) ∧ X.length = X.length ∧ ∀ (i : Nat), i < X.length → (fun i => (X.getD i Prt.zero).rvs) i = (X.getD i Prt.zero).rvs, Dec (decide ((↑X.length : Int) > (20 : Int))) false] (by kernel_rfl) ⟨?_, rfl, ?_, d2, rfl, rfl, rfl, rfl, ?_, ?_, ?_, ?_, ?_, ?_, ?_, ?_, ?_, ?_, ?_, ?_, ?_, ?_, ?_, d1⟩)
           (fun d2 => CtG.no ?_))
  all_goals first | (refine CtG.mk ?_; (first | (rw [beq_self_eq_true] at d3; cases d3; done) | (rw [beq_self_eq_true] at d2; cases d2; done) | (exact absurd d3 (by decide)) | (exact absurd d2 (by simp)) | (simp_all; done))) | (first | (with_reducible rfl) | (with_reducible exact ⟨rfl, rfl⟩) | exact ⟨rfl, rfl, rfl, fun _ _ => rfl⟩ | exact ⟨fun _ _ => rfl, rfl, by rw [consR_ro]; exact hv, by rw [consR_ro]; exact hK⟩ | exact ⟨fun _ _ => rfl, rfl, by rw [consR_ro]; exact hs1, by rw [consR_ro]; exact ho1⟩ | exact ⟨fun _ _ => rfl, rfl, by rw [consR_ro]; exact hs2, by rw [consR_ro]; exact ho2⟩ | exact ⟨fun _ _ => rfl, rfl, by rw [consR_ro]; exact hs2⟩ | exact ⟨fun _ _ => rfl, rfl, by rw [consR_ro]; exact hi⟩ | (rw [consR_ro]; first | done | rfl | exact ⟨rfl, rfl⟩))
set_option maxRecDepth 100000 in
theorem canis_m (kx : Int) (X : List Prt) (hX : decide ((X.length : Int) > 20) = true) : PureC Tryz.prog tabs 14 [.agg [.int .u8 kx, roP X]] (.bool true) := by
  have rr := fun (tp : List Bool) (ms : List Prop) h hm => pure_run evOk (callF_ok evOk (orcOf_ok entsAw2_ok) 8) Tryz.func14 (A := [.agg [.int .u8 kx, roP X]]) rfl none_ann rfl rfl evNg (tabs := tabs) (R := .bool true) (tp := tp) (ms := ms) h hm
  refine rr [true] [true = true, Dec (decide ((↑X.length : Int) > (20 : Int))) true] (by kernel_rfl) ⟨?_, hX⟩
  all_goals first | (first | (with_reducible rfl) | (with_reducible exact ⟨rfl, rfl⟩))
theorem trainCanonicalIs_pure (kx : Int) (X : List Prt) (hX : ∀ p ∈ X, p.ok) : PureC Tryz.prog tabs 14 [.agg [.int .u8 kx, roP X]] (.bool true) := by
  by_cases hm : (X.length : Int) > 20
  · exact canis_m kx X (decide_eq_true hm)
  · have hra := rawP kx X hX (by omega)
    have hv := val2_listV (most := 8) (by decide) (by decide) hX
    have hk := (canM_all hv).2.1
    have hf := fst_can hv
    exact canis_y kx X _ _ _ hra hv rfl hk (odd_can hv).symm rfl (by unfold icM; rw [hk, hf, ref_can hv]; rfl) hf
end Go.Proofs.YtcfdaddablojlaaGreatDoor.S

/- TrainCanonicalIs returns true whatever the input, and its arguments read as before: the row's statement. -/
namespace Go.Proofs.YtcfdaddablojlaaGreatDoor.trainCanonicalIs
open Go.ChangeShapes Go.WideShapes Go.ChangeAt Go.RowKit Go.Joins Go.Deep
open Go.QfSy (Con RV RRel RsRel FzAt roC Fz Tb TabW PureC)
open S

theorem readable : ∀ t ∈ Tryz.f14.params.toList, Tryz.prog.readableRec t = true ∧ t < Tryz.prog.types.size := by
  have h : (Tryz.f14.params.toList.all fun t => Tryz.prog.readableRec t && Nat.blt t Tryz.prog.types.size) = true := by kernel_rfl
  intro t ht
  have := List.all_eq_true.1 h t ht
  simp only [Bool.and_eq_true] at this
  exact ⟨this.1, Nat.le_of_ble_eq_true this.2⟩

set_option maxRecDepth 100000 in
theorem contract (H : Type) (enc : TypeId × Value → H) (W : World) (base : Nat) (args : Array Value) (ds gs : List (DataW H)) (before : List MemPlace)
    (hval : ∀ (j : Nat) t v, Tryz.f14.params[j]? = some t → args[j]? = some v → Value.okWide Tryz.prog W .any base t v)
    (hW : DataW.Whole enc Tryz.prog Tryz.f14.params.toList Rows.trainCanonicalIsSpec.vars false W args.toList ds gs before) (hO : TabW tabs W) :
    Calls Tryz.prog 14 args W fun e W' => ∃ v, e = .returned v ∧ Rows.trainCanonicalIsSpec.post enc Tryz.prog Tryz.f14 false true false false W args v W' := by
  have hW' := hW
  obtain ⟨p, q, hA0, hV, rfl, hfz, hnd⟩ := hW
  have hA : DataW.TrodAll enc Tryz.prog W 0 (fun _ => true) true Tryz.f14.params.toList args.toList ds p := hA0
  rw [Tryz.params14] at hA hval
  obtain ⟨v0, vs0, d0, ds0, p0, q0, hargs0, rfl, rfl, h0, r0⟩ := trodAll_cons hA
  obtain ⟨rfl, rfl, rfl⟩ := trodAll_nil r0
  obtain rfl : args = #[v0] := by cases args; simp_all
  obtain ⟨P0, X0, hr0, hP0, hn0, ho0⟩ := open_symbol symbolTys (hval 0 27 v0 rfl rfl) h0
  refine (pure_calls (trainCanonicalIs_pure P0 X0 ho0) hO (.cons hr0 .nil)).mono fun e W' ⟨he, hb⟩ => ?_
  exact ⟨_, he, law_post laidOut readable rfl Tryz.underlying4 rfl hW' rfl hb⟩

def wArgs : Array Value := #[.agg #[.int .u8 0, .slice none 0 0]]
theorem laid_met (os : Os) : laidMet Tryz.prog Rows.trainCanonicalIsRow.laid ((laidWorld os).forCall (fun _ _ => 0) ⟨#[], wArgs, []⟩).memory :=
  laidMet_of_run' 8 (by kernel_rfl) (by kernel_rfl)
theorem reads (os : Os) {H : Type} (enc : TypeId × Value → H) : ∃ ds places, DataW.whole enc Tryz.prog ((laidWorld os).forCall (fun _ _ => 0) ⟨#[], wArgs, []⟩).memory Tryz.f14.params.toList Rows.trainCanonicalIsSpec.vars false wArgs.toList 8 = some (ds, [], places) :=
  ⟨[.agg [.lit (.int .u8 0), .nil]], [], by kernel_rfl⟩

set_option maxRecDepth 100000 in
theorem lifted (os : Os) (started : os.Started) (H : Type) (enc : TypeId × Value → H) (F : Stop.Interp) :
    ReturnsInHanded {} Tryz.checked os 14 .any ((OpenSpec.ofChange Rows.trainCanonicalIsSpec).preRow enc Tryz.prog Tryz.f14 Rows.trainCanonicalIsRow.domain false Rows.trainCanonicalIsRow.laid) (((OpenSpec.ofChange Rows.trainCanonicalIsSpec).at F).post enc Tryz.prog Tryz.f14 false true false false) := by
  refine returnsInHanded_of_row (C := Tryz.checked) (s := OpenSpec.ofChange Rows.trainCanonicalIsSpec) own started (by kernel_rfl) Tryz.func14
    (witness_row_at (enc := enc) (C := Tryz.checked) false (laidWorld os) wArgs rfl (by kernel_rfl) (by kernel_rfl) (by kernel_rfl)
      (OpenSpec.preRow_of_cond 8 (reads os enc).choose_spec.choose_spec (by kernel_rfl) (fun k hk => by cases hk) (by kernel_rfl) (laid_met os))) ?_
  intro W base args ds gs before hval hW _ _ _ hL hS _
  exact contract H enc W base args ds gs before hval hW (tabs_of hL hS)

theorem named : Tryz.prog.funcNamed Rows.trainCanonicalIsRow.func = some 14 := by kernel_rfl
theorem facts : joinedFacts Tryz.prog 14 Tryz.f14 (OpenSpec.ofChange Rows.trainCanonicalIsSpec).bare Rows.trainCanonicalIsRow = true := by kernel_rfl
theorem inst : Tryz.f14.isInstance Tryz.prog Rows.trainCanonicalIsRow.origin Rows.trainCanonicalIsRow.targs := of_decide_eq_true (by kernel_rfl)
theorem wrap : Tryz.f14.isWrapper Tryz.prog Rows.trainCanonicalIsRow.wrapper Rows.trainCanonicalIsRow.mainSum := by
  unfold Func.isWrapper; first | (rw [if_pos (by decide +kernel)]; kernel_rfl) | (rw [if_neg (by decide +kernel)]; exact ⟨rfl, rfl⟩)
theorem said : Rows.TrainCanonicalIsSaid :=
  OpenClaim.holds_of_cond 14 Tryz.f14 rfl rfl rfl rfl rfl rfl rfl ⟨rfl, rfl, rfl, rfl, rfl⟩ rfl rfl rfl rfl rfl named Tryz.func14 facts inst wrap
    (fun os started H enc _ F => by rw [OpenClaim.pre_eq_preRow]; exact lifted os started H enc F)
end Go.Proofs.YtcfdaddablojlaaGreatDoor.trainCanonicalIs

/- TrainCanonicalIs returns true whatever the input, and its arguments read as before: the tied card. -/
namespace Go.Proofs.YtcfdaddablojlaaGreatDoor.trainCanonicalIs
open Go.ChangeShapes Go.WideShapes Go.ChangeAt Go.RowKit Go.Joins Go.Deep

theorem stands : (Tryz.f14.params.toList.all fun t => !Tryz.prog.wantsStandIn t) = true := by kernel_rfl
theorem looks : false = Tryz.prog.looks [] := by kernel_rfl
theorem plain (f : FuncId) (fn : Func) (hf : Tryz.pinned.checked.prog.funcNamed "quadform/quadformlaw27.TrainCanonicalIs" = some f) (hfn : Tryz.pinned.checked.prog.funcs[f]? = some fn) :
    false = Tryz.pinned.checked.prog.looks [] ∧ ∀ (j : Nat) t, fn.params[j]? = some t → Tryz.pinned.checked.prog.wantsStandIn t = false := by
  obtain rfl : f = 14 := Option.some.inj (named.symm.trans hf) |>.symm
  obtain rfl : fn = Tryz.f14 := (Option.some.inj (Tryz.func14.symm.trans hfn)).symm
  refine ⟨looks, fun j t ht => ?_⟩
  have := List.all_eq_true.1 stands t (by simpa using Array.mem_of_getElem? ht)
  exact (by simpa using this : Tryz.prog.wantsStandIn t = false)
theorem holds : Rows.TrainCanonicalIsCardSaid :=
  Claim7.holds_tied_plain_at .later [] _ _ _ _ said (fun _ h => by cases h) (by kernel_rfl) (fun _ h => by cases h) trainCanonicalIs_row_tie rfl ⟨rfl, rfl⟩ (by kernel_rfl) rfl plain (by kernel_rfl)
end Go.Proofs.YtcfdaddablojlaaGreatDoor.trainCanonicalIs

