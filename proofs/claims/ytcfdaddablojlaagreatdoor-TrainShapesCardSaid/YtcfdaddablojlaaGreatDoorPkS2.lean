/- A part of the proof of TiedTrainShapes: VJ, VW, YW, YL, YX, VL, LS, CardTrainShapes, TiedTrainShapes. -/
import Derived.Test.YtcfdaddablojlaaGreatDoorPkS1
import Derived.Test.YtcfdaddablojlaaGreatDoorPkSB2
import Derived.Test.YtcfdaddablojlaaGreatDoorPkSB1
import Derived.Test.YtcfdaddablojlaaGreatDoorPkSB3
set_option linter.unusedSimpArgs false
set_option linter.unusedVariables false
namespace Go.Proofs.YtcfdaddablojlaaGreatDoor.S
open Go.QfSy Go.RowKit
noncomputable def entsJT : List OEnt := (entsT3 ++ entsVC) ++ [
  ⟨57, [], fun A => match A with
    | [.agg [.int .i64 p, .sl n 5 row]] => some (roR .i64 (chainsM (consR n row)), [(∀ i, i < n → row i = (Con.ofR (row i)).rvs) ∧ okL (consR n row) ∧ 0 < n])
    | _ => none⟩]
theorem entsJT_ok : ∀ e ∈ entsJT, EntOk Tryz.prog e := by
  intro e he
  rcases List.mem_append.1 he with he | he
  · rcases List.mem_append.1 he with he | he
    · exact entsT3_ok e he
    · exact entsVC_ok e he
  · rw [List.mem_singleton.1 he]
    intro A R ms h hm
    simp only at h
    split at h
    · cases h
      obtain ⟨h1, h2, h3⟩ := all_one hm
      exact PureC.imp (ttrains_pure _ _ h2 (by rw [consR_len]; exact h3)) (.cons (.agg (.cons .same (.cons (.con h1) .nil))) .nil)
    · cases h
noncomputable def entsJR : List OEnt := (entsR3 ++ entsP) ++ [
  ⟨58, [], fun A => match A with
    | [.sl n 5 row] => some (roR .i64 (chainsM (consR n row)), [(∀ i, i < n → row i = (Con.ofR (row i)).rvs) ∧ okL (consR n row) ∧ 0 < n])
    | _ => none⟩]
theorem entsJR_ok : ∀ e ∈ entsJR, EntOk Tryz.prog e := by
  intro e he
  rcases List.mem_append.1 he with he | he
  · rcases List.mem_append.1 he with he | he
    · exact entsR3_ok e he
    · exact entsP_ok e he
  · rw [List.mem_singleton.1 he]
    intro A R ms h hm
    simp only at h
    split at h
    · cases h
      obtain ⟨h1, h2, h3⟩ := all_one hm
      exact PureC.imp (rchains_pure _ h2 (by rw [consR_len]; exact h3)) (.cons (.con h1) .nil)
    · cases h
end Go.Proofs.YtcfdaddablojlaaGreatDoor.S

namespace Go.Proofs.YtcfdaddablojlaaGreatDoor.S
open Go.QfSy Go.RowKit
def sgR (L : List Con) (l : List Int) : Bool := l.all fun i => !((at_ L i.toNat).sign == -1)
def fstM (L : List Con) (P : List (List Int)) : Bool := P.all fun l => sgR L (l.drop 1)
theorem sgR_1 {L : List Con} {l : List Int} {k : Nat} (hk : k < l.length) (h : ((at_ L (l.getD k 0).toNat).sign == -1) = false) : sgR L (l.drop k) = sgR L (l.drop (k + 1)) := by
  rw [drop_int hk]; unfold sgR; rw [List.all_cons, h]; rfl
theorem sgR_2 {L : List Con} {l : List Int} {k : Nat} (hk : k < l.length) (h : ((at_ L (l.getD k 0).toNat).sign == -1) = true) : sgR L (l.drop k) = false := by
  rw [drop_int hk]; unfold sgR; rw [List.all_cons, h]; rfl
theorem sgR_3 {L : List Con} {l : List Int} {k : Nat} (hk : l.length ≤ k) : sgR L (l.drop k) = true := by rw [List.drop_eq_nil_of_le hk]; rfl
theorem fst_1 {L : List Con} {P : List (List Int)} {j : Nat} (hj : j < P.length) (h : sgR L ((rowAt P j).drop 1) = true) : fstM L (P.drop j) = fstM L (P.drop (j + 1)) := by
  rw [drop_row hj]; unfold fstM; rw [List.all_cons, h]; rfl
theorem fst_2 {L : List Con} {P : List (List Int)} {j : Nat} (hj : j < P.length) (h : sgR L ((rowAt P j).drop 1) = false) : fstM L (P.drop j) = false := by
  rw [drop_row hj]; unfold fstM; rw [List.all_cons, h]; rfl
theorem fst_3 {L : List Con} {P : List (List Int)} {j : Nat} (hj : P.length ≤ j) : fstM L (P.drop j) = true := by rw [List.drop_eq_nil_of_le hj]; rfl
noncomputable def dI (l : List Int) : AV := .ro (l.length - 1) 1 fun i => [.int .i64 (l.getD (i + 1) 0)]
noncomputable def fiT (L : List Con) (j : AV) : List (Nat × AV) := [(1, .ptr 1000 0), (9, (roR .i64 (chainsM L)).av), (10, .vint .i64 (chainsM L).length), (11, j)]
noncomputable def fiH (p : Int) (L : List Con) : List (Nat × Blk) := [(1000, ⟨.plain [.vint .i64 p, (roC L).av], 24, 0, false, true⟩)]
noncomputable def fiI (L : List Con) (j : Nat) (k : AV) : List (Nat × AV) := fiT L (.vint .i64 (j : Int)) ++ [(16, dI (rowAt (chainsM L) j)), (17, .vint .i64 (((rowAt (chainsM L) j).length - 1 : Nat) : Int)), (18, k)]
noncomputable def fiIn (p : Int) (L : List Con) (j : Nat) : Ann := ⟨⟨fiI L j (.int .i64 0), fiH p L, 1020⟩, some (sgR L ((rowAt (chainsM L) j).drop 1)), fun d => match d with
  | true => (.exit 2, ⟨fiT L (.vint .i64 (j : Int)), fiH p L, 1020⟩)
  | false => (.ret, ⟨[(2, .bool false)], fiH p L, 1020⟩)⟩
set_option maxRecDepth 100000 in
theorem fi_in (p : Int) (L : List Con) (j : Nat) (hr : inR L.length (rowAt (chainsM L) j)) (hn : (rowAt (chainsM L) j).length ≤ 1000) : AnnOk Tryz.prog EV.ng (Nat.max 1 Tryz.f67.ntmps) (bodyAt Tryz.f67 [0, 1, 1, 0, 0, 1, 1, 0, 0, 1, 0, 1]) (fiIn p L j) := by
  refine ann_of evOk (callF_ok evOk (noOrc_ok _ _) 8) none_ann (by kernel_rfl) (by kernel_rfl) (fun i : Nat => (fun (k : Nat) => (⟨fiI L j (.vint .i64 (k : Int)), fiH p L, 1020⟩ : St)) i) (fun i : Nat => (fun (k : Nat) => ((rowAt (chainsM L) j).length - k : Nat)) i) (fun (d : Bool) (i : Nat) => (fun (k : Nat) => (k ≤ (rowAt (chainsM L) j).length - 1 ∧ sgR L ((rowAt (chainsM L) j).drop (k + 1)) = sgR L ((rowAt (chainsM L) j).drop 1) ∧ sgR L ((rowAt (chainsM L) j).drop 1) = d : Prop)) i) ?_ ?_
  · intro d hd
    exact ⟨(0), [(chainsM L).length = (chainsM L).length ∧ (fun i => [rI IntKind.i64 ((chainsM L).getD i [])]) = fun i => [rI IntKind.i64 ((chainsM L).getD i [])], (↑(chainsM L).length : Int) = (↑(chainsM L).length : Int), (↑j : Int) = (↑j : Int), (rowAt (chainsM L) j).length - (1 : Nat) = (rowAt (chainsM L) j).length - (1 : Nat) ∧ (fun i => [RV.int IntKind.i64 ((rowAt (chainsM L) j).getD (i + (1 : Nat)) (0 : Int))]) = fun i => [RV.int IntKind.i64 ((rowAt (chainsM L) j).getD (i + (1 : Nat)) (0 : Int))], (↑((rowAt (chainsM L) j).length - (1 : Nat)) : Int) = (↑((rowAt (chainsM L) j).length - (1 : Nat)) : Int), (0 : Int) = (↑(0 : Nat) : Int), p = p, L.length = L.length ∧ (rws L) = (rws L)], by kernel_rfl, (by refine ⟨?_, ?_, ?_, ?_, ?_, ?_, ?_, (?_ : L.length = L.length ∧ (rws L) = (rws L))⟩ <;> (first | rfl | assumption | omega | simp_all)), (by exact ⟨Nat.zero_le _, rfl, hd⟩)⟩
  · rintro d hd k hI
    cases d
    · -- d = false
      obtain ⟨ht, hf, hs⟩ := hI
      have ht : k ≤ (rowAt (chainsM L) j).length - 1 := ht
      have hf : sgR L ((rowAt (chainsM L) j).drop (k + 1)) = sgR L ((rowAt (chainsM L) j).drop 1) := hf
      have ek : IntKind.i64.wrap ((k : Int) + 1) = ((k + 1 : Nat) : Int) := by rw [w64 (by omega) (by omega)]; omega
      refine Or.elim (Bool.eq_false_or_eq_true (decide ((↑k : Int) < (↑((rowAt (chainsM L) j).length - (1 : Nat)) : Int)))) (fun d1 => Or.elim (Bool.eq_false_or_eq_true ((L.getD ((rowAt (chainsM L) j).getD (k + (1 : Nat)) (0 : Int)).toNat Con.zero).sign == (-1 : Int))) (fun d2 => ⟨[true, true], .inr ⟨[p = p, L.length = L.length ∧ (rws L) = (rws L), Dec ((L.getD ((rowAt (chainsM L) j).getD (k + (1 : Nat)) (0 : Int)).toNat Con.zero).sign == (-1 : Int)) true, (0 : Int) ≤ (rowAt (chainsM L) j).getD (k + (1 : Nat)) (0 : Int) ∧ (rowAt (chainsM L) j).getD (k + (1 : Nat)) (0 : Int) < (↑L.length : Int), (0 : Int) ≤ (↑k : Int) ∧ (↑k : Int) < (↑((rowAt (chainsM L) j).length - (1 : Nat)) : Int), Dec (decide ((↑k : Int) < (↑((rowAt (chainsM L) j).length - (1 : Nat)) : Int))) true], by kernel_rfl, ⟨?_, ?_, d2, ?_, ?_, d1⟩, rfl⟩⟩)
           (fun d2 => ⟨[true, false], .inl ⟨(k + 1), [(chainsM L).length = (chainsM L).length ∧ (fun i => [rI IntKind.i64 ((chainsM L).getD i [])]) = fun i => [rI IntKind.i64 ((chainsM L).getD i [])], (↑(chainsM L).length : Int) = (↑(chainsM L).length : Int), (↑j : Int) = (↑j : Int), (rowAt (chainsM L) j).length - (1 : Nat) = (rowAt (chainsM L) j).length - (1 : Nat) ∧ (fun i => [RV.int IntKind.i64 ((rowAt (chainsM L) j).getD (i + (1 : Nat)) (0 : Int))]) = fun i => [RV.int IntKind.i64 ((rowAt (chainsM L) j).getD (i + (1 : Nat)) (0 : Int))], (↑((rowAt (chainsM L) j).length - (1 : Nat)) : Int) = (↑((rowAt (chainsM L) j).length - (1 : Nat)) : Int), IntKind.i64.wrap ((↑k : Int) + (1 : Int)) = (↑(k + (1 : Nat)) : Int), p = p, L.length = L.length ∧ (rws L) = (rws L), Dec ((L.getD ((rowAt (chainsM L) j).getD (k + (1 : Nat)) (0 : Int)).toNat Con.zero).sign == (-1 : Int)) false, (0 : Int) ≤ (rowAt (chainsM L) j).getD (k + (1 : Nat)) (0 : Int) ∧ (rowAt (chainsM L) j).getD (k + (1 : Nat)) (0 : Int) < (↑L.length : Int), (0 : Int) ≤ (↑k : Int) ∧ (↑k : Int) < (↑((rowAt (chainsM L) j).length - (1 : Nat)) : Int), Dec (decide ((↑k : Int) < (↑((rowAt (chainsM L) j).length - (1 : Nat)) : Int))) true], by kernel_rfl, ⟨?_, ?_, ?_, ?_, ?_, ?_, ?_, ?_, d2, ?_, ?_, d1⟩, MuG.out ?_, InG.out ?_⟩⟩))
           (fun d1 => CtG.no ?_)
      all_goals first | (refine MuG.mk ?_; (simp only [decide_eq_true_eq] at d1; show (rowAt (chainsM L) j).length - (k + 1) < (rowAt (chainsM L) j).length - k; omega)) | (refine InG.mk ?_; (simp only [ek, decide_eq_true_eq] at *; exact ⟨by omega, by rw [← hf, sgR_1 (by omega) d2], hs⟩)) | (refine CtG.mk ?_; (simp only [decide_eq_true_eq, decide_eq_false_iff_not] at *; first | (rw [← hf, sgR_3 (by omega)] at hs; cases hs; done) | (rw [← hf, sgR_2 (by omega) d2] at hs; cases hs; done))) | (first | (with_reducible rfl) | exact ⟨rfl, rfl⟩ | decide | ((try simp only [ek, Int.toNat_natCast, decide_eq_true_eq, decide_eq_false_iff_not] at *) <;> first | omega | (rw [← hf, sgR_3 (by omega)]; done) | (rw [← hf, sgR_2 (by omega) d2]; done) | (have h2 := hr.at (t := k + 1) (by omega); omega)))
    · -- d = true
      obtain ⟨ht, hf, hs⟩ := hI
      have ht : k ≤ (rowAt (chainsM L) j).length - 1 := ht
      have hf : sgR L ((rowAt (chainsM L) j).drop (k + 1)) = sgR L ((rowAt (chainsM L) j).drop 1) := hf
      have ek : IntKind.i64.wrap ((k : Int) + 1) = ((k + 1 : Nat) : Int) := by rw [w64 (by omega) (by omega)]; omega
      refine Or.elim (Bool.eq_false_or_eq_true (decide ((↑k : Int) < (↑((rowAt (chainsM L) j).length - (1 : Nat)) : Int)))) (fun d1 => Or.elim (Bool.eq_false_or_eq_true ((L.getD ((rowAt (chainsM L) j).getD (k + (1 : Nat)) (0 : Int)).toNat Con.zero).sign == (-1 : Int))) (fun d2 => CtG.no ?_)
           (fun d2 => ⟨[true, false], .inl ⟨(k + 1), [(chainsM L).length = (chainsM L).length ∧ (fun i => [rI IntKind.i64 ((chainsM L).getD i [])]) = fun i => [rI IntKind.i64 ((chainsM L).getD i [])], (↑(chainsM L).length : Int) = (↑(chainsM L).length : Int), (↑j : Int) = (↑j : Int), (rowAt (chainsM L) j).length - (1 : Nat) = (rowAt (chainsM L) j).length - (1 : Nat) ∧ (fun i => [RV.int IntKind.i64 ((rowAt (chainsM L) j).getD (i + (1 : Nat)) (0 : Int))]) = fun i => [RV.int IntKind.i64 ((rowAt (chainsM L) j).getD (i + (1 : Nat)) (0 : Int))], (↑((rowAt (chainsM L) j).length - (1 : Nat)) : Int) = (↑((rowAt (chainsM L) j).length - (1 : Nat)) : Int), IntKind.i64.wrap ((↑k : Int) + (1 : Int)) = (↑(k + (1 : Nat)) : Int), p = p, L.length = L.length ∧ (rws L) = (rws L), Dec ((L.getD ((rowAt (chainsM L) j).getD (k + (1 : Nat)) (0 : Int)).toNat Con.zero).sign == (-1 : Int)) false, (0 : Int) ≤ (rowAt (chainsM L) j).getD (k + (1 : Nat)) (0 : Int) ∧ (rowAt (chainsM L) j).getD (k + (1 : Nat)) (0 : Int) < (↑L.length : Int), (0 : Int) ≤ (↑k : Int) ∧ (↑k : Int) < (↑((rowAt (chainsM L) j).length - (1 : Nat)) : Int), Dec (decide ((↑k : Int) < (↑((rowAt (chainsM L) j).length - (1 : Nat)) : Int))) true], by kernel_rfl, ⟨?_, ?_, ?_, ?_, ?_, ?_, ?_, ?_, d2, ?_, ?_, d1⟩, MuG.out ?_, InG.out ?_⟩⟩))
           (fun d1 => ⟨[false], .inr ⟨[(chainsM L).length = (chainsM L).length ∧ (fun i => [rI IntKind.i64 ((chainsM L).getD i [])]) = fun i => [rI IntKind.i64 ((chainsM L).getD i [])], (↑(chainsM L).length : Int) = (↑(chainsM L).length : Int), (↑j : Int) = (↑j : Int), p = p, L.length = L.length ∧ (rws L) = (rws L), Dec (decide ((↑k : Int) < (↑((rowAt (chainsM L) j).length - (1 : Nat)) : Int))) false], by kernel_rfl, ⟨?_, ?_, ?_, ?_, ?_, d1⟩, rfl⟩⟩)
      all_goals first | (refine MuG.mk ?_; (simp only [decide_eq_true_eq] at d1; show (rowAt (chainsM L) j).length - (k + 1) < (rowAt (chainsM L) j).length - k; omega)) | (refine InG.mk ?_; (simp only [ek, decide_eq_true_eq] at *; exact ⟨by omega, by rw [← hf, sgR_1 (by omega) d2], hs⟩)) | (refine CtG.mk ?_; (simp only [decide_eq_true_eq, decide_eq_false_iff_not] at *; first | (rw [← hf, sgR_3 (by omega)] at hs; cases hs; done) | (rw [← hf, sgR_2 (by omega) d2] at hs; cases hs; done))) | (first | (with_reducible rfl) | exact ⟨rfl, rfl⟩ | decide | ((try simp only [ek, Int.toNat_natCast, decide_eq_true_eq, decide_eq_false_iff_not] at *) <;> first | omega | (rw [← hf, sgR_3 (by omega)]; done) | (rw [← hf, sgR_2 (by omega) d2]; done) | (have h2 := hr.at (t := k + 1) (by omega); omega)))
noncomputable def fiOut (p : Int) (L : List Con) : Ann := ⟨⟨fiT L (.int .i64 0), fiH p L, 1020⟩, some (fstM L (chainsM L)), fun d => match d with
  | true => (.exit 0, ⟨[], fiH p L, 1020⟩)
  | false => (.ret, ⟨[(2, .bool false)], fiH p L, 1020⟩)⟩
set_option maxRecDepth 100000 in
theorem fi_out (p : Int) (L : List Con) (hL : okL L) : AnnOk Tryz.prog EV.ng (Nat.max 1 Tryz.f67.ntmps) (bodyAt Tryz.f67 [0, 1, 0, 1]) (fiOut p L) := by
  refine ann_ofI evOk (callF_ok evOk (noOrc_ok _ _) 8) (by kernel_rfl) (by kernel_rfl) (fun i : Nat => (fun (j : Nat) => (⟨fiT L (.vint .i64 (j : Int)), fiH p L, 1020⟩ : St)) i) (fun i : Nat => (fun (j : Nat) => ((chainsM L).length - j : Nat)) i) (fun (d : Bool) (i : Nat) => (fun (j : Nat) => (j ≤ (chainsM L).length ∧ fstM L ((chainsM L).drop j) = fstM L (chainsM L) ∧ fstM L (chainsM L) = d : Prop)) i) (fun i : Nat => (fun (j : Nat) => ([([0, 1, 1, 0, 0, 1, 1, 0, 0, 1, 0, 1], fiIn p L j)] : List (List Nat × Ann))) i) ?_ ?_ ?_
  · rintro d hd j hI
    have hr : inR L.length (rowAt (chainsM L) j) ∧ (rowAt (chainsM L) j).length ≤ 1000 := by
      have := hL.1
      rcases Nat.lt_or_ge j (chainsM L).length with h | h
      · have h1 := chains_rows _ (rowAt_mem h)
        exact ⟨h1.2.1, by omega⟩
      · have e : rowAt (chainsM L) j = [] := by simp [rowAt, h]
        rw [e]; exact ⟨fun x hx => by simp at hx, by simp⟩
    exact one_ann (fi_in p L j hr.1 hr.2)
  · intro d hd
    exact ⟨(0), [(chainsM L).length = (chainsM L).length ∧ (fun i => [rI IntKind.i64 ((chainsM L).getD i [])]) = fun i => [rI IntKind.i64 ((chainsM L).getD i [])], (↑(chainsM L).length : Int) = (↑(chainsM L).length : Int), (0 : Int) = (↑(0 : Nat) : Int), p = p, L.length = L.length ∧ (rws L) = (rws L)], by kernel_rfl, (by refine ⟨?_, ?_, ?_, ?_, (?_ : L.length = L.length ∧ (rws L) = (rws L))⟩ <;> (first | rfl | assumption | omega | simp_all)), (by exact ⟨Nat.zero_le _, rfl, hd⟩)⟩
  · rintro d hd j hI
    cases d
    · -- d = false
      obtain ⟨ht, hf, hs⟩ := hI
      have ht : j ≤ (chainsM L).length := ht
      have hf : fstM L ((chainsM L).drop j) = fstM L (chainsM L) := hf
      have hl := hL.1
      have hc := chains_len (L := L)
      have ek : IntKind.i64.wrap ((j : Int) + 1) = ((j + 1 : Nat) : Int) := by rw [w64 (by omega) (by omega)]; omega
      refine Or.elim (Bool.eq_false_or_eq_true (decide ((↑j : Int) < (↑(chainsM L).length : Int)))) (fun d1 => Or.elim (Bool.eq_false_or_eq_true (sgR L (List.drop (1 : Nat) (rowAt (chainsM L) j)))) (fun d2 => ⟨[true, true], .inl ⟨(j + 1), [(chainsM L).length = (chainsM L).length ∧ (fun i => [rI IntKind.i64 ((chainsM L).getD i [])]) = fun i => [rI IntKind.i64 ((chainsM L).getD i [])], (↑(chainsM L).length : Int) = (↑(chainsM L).length : Int), IntKind.i64.wrap ((↑j : Int) + (1 : Int)) = (↑(j + (1 : Nat)) : Int), p = p, L.length = L.length ∧ (rws L) = (rws L), (chainsM L).length = (chainsM L).length ∧ (fun i => [rI IntKind.i64 ((chainsM L).getD i [])]) = fun i => [rI IntKind.i64 ((chainsM L).getD i [])], (↑(chainsM L).length : Int) = (↑(chainsM L).length : Int), (↑j : Int) = (↑j : Int), ((chainsM L).getD j []).length - Int.toNat (1 : Int) = (rowAt (chainsM L) j).length - (1 : Nat) ∧ (fun i => (fun j_1 => [RV.int IntKind.i64 (((chainsM L).getD j []).getD j_1 (0 : Int))]) (i + Int.toNat (1 : Int))) = fun i => [RV.int IntKind.i64 ((rowAt (chainsM L) j).getD (i + (1 : Nat)) (0 : Int))], (↑(((chainsM L).getD j []).length - Int.toNat (1 : Int)) : Int) = (↑((rowAt (chainsM L) j).length - (1 : Nat)) : Int), p = p, L.length = L.length ∧ (rws L) = (rws L), Dec (sgR L (List.drop (1 : Nat) (rowAt (chainsM L) j))) true, (0 : Int) ≤ (1 : Int) ∧ (1 : Int) ≤ (↑((chainsM L).getD j []).length : Int), (0 : Int) ≤ (↑j : Int) ∧ (↑j : Int) < (↑(chainsM L).length : Int), Dec (decide ((↑j : Int) < (↑(chainsM L).length : Int))) true], by kernel_rfl, ⟨?_, ?_, ?_, ?_, ?_, ?_, ?_, ?_, ?_, ?_, ?_, ?_, d2, ?_, ?_, d1⟩, MuG.out ?_, InG.out ?_⟩⟩)
           (fun d2 => ⟨[true, false], .inr ⟨[p = p, L.length = L.length ∧ (rws L) = (rws L), (chainsM L).length = (chainsM L).length ∧ (fun i => [rI IntKind.i64 ((chainsM L).getD i [])]) = fun i => [rI IntKind.i64 ((chainsM L).getD i [])], (↑(chainsM L).length : Int) = (↑(chainsM L).length : Int), (↑j : Int) = (↑j : Int), ((chainsM L).getD j []).length - Int.toNat (1 : Int) = (rowAt (chainsM L) j).length - (1 : Nat) ∧ (fun i => (fun j_1 => [RV.int IntKind.i64 (((chainsM L).getD j []).getD j_1 (0 : Int))]) (i + Int.toNat (1 : Int))) = fun i => [RV.int IntKind.i64 ((rowAt (chainsM L) j).getD (i + (1 : Nat)) (0 : Int))], (↑(((chainsM L).getD j []).length - Int.toNat (1 : Int)) : Int) = (↑((rowAt (chainsM L) j).length - (1 : Nat)) : Int), p = p, L.length = L.length ∧ (rws L) = (rws L), Dec (sgR L (List.drop (1 : Nat) (rowAt (chainsM L) j))) false, (0 : Int) ≤ (1 : Int) ∧ (1 : Int) ≤ (↑((chainsM L).getD j []).length : Int), (0 : Int) ≤ (↑j : Int) ∧ (↑j : Int) < (↑(chainsM L).length : Int), Dec (decide ((↑j : Int) < (↑(chainsM L).length : Int))) true], by kernel_rfl, ⟨?_, ?_, ?_, ?_, ?_, ?_, ?_, ?_, ?_, d2, ?_, ?_, d1⟩, rfl⟩⟩))
           (fun d1 => CtG.no ?_)
      all_goals first | (refine MuG.mk ?_; (simp only [decide_eq_true_eq] at d1; show (chainsM L).length - (j + 1) < (chainsM L).length - j; omega)) | (refine InG.mk ?_; (simp only [decide_eq_true_eq] at d1; exact ⟨by omega, by rw [← hf]; exact (fst_1 (by omega) d2).symm, hs⟩)) | (refine CtG.mk ?_; (simp only [decide_eq_true_eq, decide_eq_false_iff_not] at d1; first | (rw [← hf, fst_3 (by omega)] at hs; cases hs; done) | (rw [← hf, fst_2 (by omega) d2] at hs; cases hs; done))) | (first | (with_reducible rfl) | exact ⟨rfl, rfl⟩ | decide | ((try simp only [ek, Int.toNat_natCast, Int.toNat_zero, decide_eq_true_eq, decide_eq_false_iff_not] at *) <;> first | omega | (rw [← hf, fst_3 (by omega)]; done) | (rw [← hf, fst_2 (by omega) d2]; done) | (have h0 := chains_rows _ (rowAt_mem (P := chainsM L) (t := j) (by omega)); have h1 : 0 < (rowAt (chainsM L) j).length := List.length_pos_iff.2 h0.1; have h2 : 0 < ((chainsM L).getD j []).length := h1; first | omega | rfl)))
    · -- d = true
      obtain ⟨ht, hf, hs⟩ := hI
      have ht : j ≤ (chainsM L).length := ht
      have hf : fstM L ((chainsM L).drop j) = fstM L (chainsM L) := hf
      have hl := hL.1
      have hc := chains_len (L := L)
      have ek : IntKind.i64.wrap ((j : Int) + 1) = ((j + 1 : Nat) : Int) := by rw [w64 (by omega) (by omega)]; omega
      refine Or.elim (Bool.eq_false_or_eq_true (decide ((↑j : Int) < (↑(chainsM L).length : Int)))) (fun d1 => Or.elim (Bool.eq_false_or_eq_true (sgR L (List.drop (1 : Nat) (rowAt (chainsM L) j)))) (fun d2 => ⟨[true, true], .inl ⟨(j + 1), [(chainsM L).length = (chainsM L).length ∧ (fun i => [rI IntKind.i64 ((chainsM L).getD i [])]) = fun i => [rI IntKind.i64 ((chainsM L).getD i [])], (↑(chainsM L).length : Int) = (↑(chainsM L).length : Int), IntKind.i64.wrap ((↑j : Int) + (1 : Int)) = (↑(j + (1 : Nat)) : Int), p = p, L.length = L.length ∧ (rws L) = (rws L), (chainsM L).length = (chainsM L).length ∧ (fun i => [rI IntKind.i64 ((chainsM L).getD i [])]) = fun i => [rI IntKind.i64 ((chainsM L).getD i [])], (↑(chainsM L).length : Int) = (↑(chainsM L).length : Int), (↑j : Int) = (↑j : Int), ((chainsM L).getD j []).length - Int.toNat (1 : Int) = (rowAt (chainsM L) j).length - (1 : Nat) ∧ (fun i => (fun j_1 => [RV.int IntKind.i64 (((chainsM L).getD j []).getD j_1 (0 : Int))]) (i + Int.toNat (1 : Int))) = fun i => [RV.int IntKind.i64 ((rowAt (chainsM L) j).getD (i + (1 : Nat)) (0 : Int))], (↑(((chainsM L).getD j []).length - Int.toNat (1 : Int)) : Int) = (↑((rowAt (chainsM L) j).length - (1 : Nat)) : Int), p = p, L.length = L.length ∧ (rws L) = (rws L), Dec (sgR L (List.drop (1 : Nat) (rowAt (chainsM L) j))) true, (0 : Int) ≤ (1 : Int) ∧ (1 : Int) ≤ (↑((chainsM L).getD j []).length : Int), (0 : Int) ≤ (↑j : Int) ∧ (↑j : Int) < (↑(chainsM L).length : Int), Dec (decide ((↑j : Int) < (↑(chainsM L).length : Int))) true], by kernel_rfl, ⟨?_, ?_, ?_, ?_, ?_, ?_, ?_, ?_, ?_, ?_, ?_, ?_, d2, ?_, ?_, d1⟩, MuG.out ?_, InG.out ?_⟩⟩)
           (fun d2 => CtG.no ?_))
           (fun d1 => ⟨[false], .inr ⟨[p = p, L.length = L.length ∧ (fun i => (L.getD i Con.zero).rvs) = fun i => (L.getD i Con.zero).rvs, Dec (decide ((↑j : Int) < (↑(chainsM L).length : Int))) false], by kernel_rfl, ⟨?_, ?_, d1⟩, rfl⟩⟩)
      all_goals first | (refine MuG.mk ?_; (simp only [decide_eq_true_eq] at d1; show (chainsM L).length - (j + 1) < (chainsM L).length - j; omega)) | (refine InG.mk ?_; (simp only [decide_eq_true_eq] at d1; exact ⟨by omega, by rw [← hf]; exact (fst_1 (by omega) d2).symm, hs⟩)) | (refine CtG.mk ?_; (simp only [decide_eq_true_eq, decide_eq_false_iff_not] at d1; first | (rw [← hf, fst_3 (by omega)] at hs; cases hs; done) | (rw [← hf, fst_2 (by omega) d2] at hs; cases hs; done))) | (first | (with_reducible rfl) | exact ⟨rfl, rfl⟩ | decide | ((try simp only [ek, Int.toNat_natCast, Int.toNat_zero, decide_eq_true_eq, decide_eq_false_iff_not] at *) <;> first | omega | (rw [← hf, fst_3 (by omega)]; done) | (rw [← hf, fst_2 (by omega) d2]; done) | (have h0 := chains_rows _ (rowAt_mem (P := chainsM L) (t := j) (by omega)); have h1 : 0 < (rowAt (chainsM L) j).length := List.length_pos_iff.2 h0.1; have h2 : 0 < ((chainsM L).getD j []).length := h1; first | omega | rfl)))
set_option maxRecDepth 100000 in
theorem first_pure (p : Int) (L : List Con) (hL : okL L) (hne : 0 < L.length) : PureC Tryz.prog [] 67 [.agg [.int .i64 p, roC L]] (.bool (fstM L (chainsM L))) := by
  have rr := fun (tp : List Bool) (ms : List Prop) h hm => pure_run evOk (callF_ok evOk (orcOf_ok entsJR_ok) 8) Tryz.func67 (A := [.agg [.int .i64 p, roC L]]) (N := Nat.max 1 Tryz.f67.ntmps) rfl (one_ann (fi_out p L hL)) rfl rfl evNg (tabs := []) (R := .bool (fstM L (chainsM L))) (tp := tp) (ms := ms) h hm
  refine Or.elim (Bool.eq_false_or_eq_true (fstM L (chainsM L))) (fun d1 => rr [true] [true = fstM L (chainsM L), (chainsM (consR L.length (rws L))).length = (chainsM L).length ∧ (fun i => [rI IntKind.i64 ((chainsM (consR L.length (rws L))).getD i [])]) = fun i => [rI IntKind.i64 ((chainsM L).getD i [])], (↑(chainsM (consR L.length (rws L))).length : Int) = (↑(chainsM L).length : Int), p = p, L.length = L.length ∧ (rws L) = (rws L), Dec (fstM L (chainsM L)) true, (∀ (i : Nat), i < L.length → (rws L) i = (Con.ofR ((rws L) i)).rvs) ∧ okL (consR L.length (rws L)) ∧ (0 : Nat) < L.length] (by kernel_rfl) ⟨?_, ?_, ?_, ?_, ?_, d1, (?_ : (∀ (i : Nat), i < L.length → (rws L) i = (Con.ofR ((rws L) i)).rvs) ∧ okL (consR L.length (rws L)) ∧ (0 : Nat) < L.length)⟩)
           (fun d1 => rr [false] [false = fstM L (chainsM L), (chainsM (consR L.length (rws L))).length = (chainsM L).length ∧ (fun i => [rI IntKind.i64 ((chainsM (consR L.length (rws L))).getD i [])]) = fun i => [rI IntKind.i64 ((chainsM L).getD i [])], (↑(chainsM (consR L.length (rws L))).length : Int) = (↑(chainsM L).length : Int), p = p, L.length = L.length ∧ (rws L) = (rws L), Dec (fstM L (chainsM L)) false, (∀ (i : Nat), i < L.length → (rws L) i = (Con.ofR ((rws L) i)).rvs) ∧ okL (consR L.length (rws L)) ∧ (0 : Nat) < L.length] (by kernel_rfl) ⟨?_, ?_, ?_, ?_, ?_, d1, (?_ : (∀ (i : Nat), i < L.length → (rws L) i = (Con.ofR ((rws L) i)).rvs) ∧ okL (consR L.length (rws L)) ∧ (0 : Nat) < L.length)⟩)
  all_goals first | (first | (with_reducible rfl) | exact ⟨rfl, rfl⟩ | exact ⟨fun _ _ => rfl, by rw [consR_ro]; exact hL, hne⟩ | (rw [consR_ro]; exact ⟨rfl, fun _ _ => rfl⟩) | (rw [consR_ro]; exact ⟨rfl, rfl⟩) | (rw [consR_ro]; done) | exact d1 | exact d1.symm)
noncomputable def icM (p : Int) (L : List Con) : Bool := fusM p L && (fstM L (chainsM L) && (refM L).isSome)
noncomputable def entsIC : List OEnt := entsJT ++ [
  ⟨36, [], fun A => match A with
    | [.agg [.int .i64 p, .sl n 5 row]] => some (.tup [.agg [.int .i64 (bP (rfB p (consR n row))), roC (bL (rfB p (consR n row)) (rfL (consR n row)))], .bool (rfB p (consR n row))], [(∀ i, i < n → row i = (Con.ofR (row i)).rvs) ∧ n ≤ 1000])
    | _ => none⟩]
theorem entsIC_ok : ∀ e ∈ entsIC, EntOk Tryz.prog e := by
  intro e he
  rcases List.mem_append.1 he with he | he
  · exact entsJT_ok e he
  · rw [List.mem_singleton.1 he]
    intro A R ms h hm
    simp only at h
    split at h
    · cases h
      obtain ⟨h1, h2⟩ := all_one hm
      exact PureC.imp (tref_pure _ _ (by rw [consR_len]; exact h2)) (.cons (.agg (.cons .same (.cons (.con h1) .nil))) .nil)
    · cases h
noncomputable def icT (L : List Con) (j : AV) : List (Nat × AV) := [(1, .ptr 1000 0), (13, (roR .i64 (chainsM L)).av), (14, .vint .i64 (chainsM L).length), (15, j)]
noncomputable def icI (L : List Con) (j : Nat) (k : AV) : List (Nat × AV) := icT L (.vint .i64 (j : Int)) ++ [(20, dI (rowAt (chainsM L) j)), (21, .vint .i64 (((rowAt (chainsM L) j).length - 1 : Nat) : Int)), (22, k)]
noncomputable def icIn (p : Int) (L : List Con) (j : Nat) : Ann := ⟨⟨icI L j (.int .i64 0), fiH p L, 1020⟩, some (sgR L ((rowAt (chainsM L) j).drop 1)), fun d => match d with
  | true => (.exit 2, ⟨icT L (.vint .i64 (j : Int)), fiH p L, 1020⟩)
  | false => (.ret, ⟨[(2, .bool false)], fiH p L, 1020⟩)⟩
set_option maxRecDepth 100000 in
theorem ic_in (p : Int) (L : List Con) (j : Nat) (hr : inR L.length (rowAt (chainsM L) j)) (hn : (rowAt (chainsM L) j).length ≤ 1000) : AnnOk Tryz.prog EV.ng (Nat.max 1 Tryz.f41.ntmps) (bodyAt Tryz.f41 [0, 1, 1, 0, 0, 1, 1, 0, 0, 1, 0, 1, 1]) (icIn p L j) := by
  refine ann_of evOk (callF_ok evOk (noOrc_ok _ _) 8) none_ann (by kernel_rfl) (by kernel_rfl) (fun i : Nat => (fun (k : Nat) => (⟨icI L j (.vint .i64 (k : Int)), fiH p L, 1020⟩ : St)) i) (fun i : Nat => (fun (k : Nat) => ((rowAt (chainsM L) j).length - k : Nat)) i) (fun (d : Bool) (i : Nat) => (fun (k : Nat) => (k ≤ (rowAt (chainsM L) j).length - 1 ∧ sgR L ((rowAt (chainsM L) j).drop (k + 1)) = sgR L ((rowAt (chainsM L) j).drop 1) ∧ sgR L ((rowAt (chainsM L) j).drop 1) = d : Prop)) i) ?_ ?_
  · intro d hd
    exact ⟨(0), [(chainsM L).length = (chainsM L).length ∧ (fun i => [rI IntKind.i64 ((chainsM L).getD i [])]) = fun i => [rI IntKind.i64 ((chainsM L).getD i [])], (↑(chainsM L).length : Int) = (↑(chainsM L).length : Int), (↑j : Int) = (↑j : Int), (rowAt (chainsM L) j).length - (1 : Nat) = (rowAt (chainsM L) j).length - (1 : Nat) ∧ (fun i => [RV.int IntKind.i64 ((rowAt (chainsM L) j).getD (i + (1 : Nat)) (0 : Int))]) = fun i => [RV.int IntKind.i64 ((rowAt (chainsM L) j).getD (i + (1 : Nat)) (0 : Int))], (↑((rowAt (chainsM L) j).length - (1 : Nat)) : Int) = (↑((rowAt (chainsM L) j).length - (1 : Nat)) : Int), (0 : Int) = (↑(0 : Nat) : Int), p = p, L.length = L.length ∧ (rws L) = (rws L)], by kernel_rfl, (by refine ⟨?_, ?_, ?_, ?_, ?_, ?_, ?_, (?_ : L.length = L.length ∧ (rws L) = (rws L))⟩ <;> (first | rfl | assumption | omega | simp_all)), (by exact ⟨Nat.zero_le _, rfl, hd⟩)⟩
  · rintro d hd k hI
    cases d
    · -- d = false
      obtain ⟨ht, hf, hs⟩ := hI
      have ht : k ≤ (rowAt (chainsM L) j).length - 1 := ht
      have hf : sgR L ((rowAt (chainsM L) j).drop (k + 1)) = sgR L ((rowAt (chainsM L) j).drop 1) := hf
      have ek : IntKind.i64.wrap ((k : Int) + 1) = ((k + 1 : Nat) : Int) := by rw [w64 (by omega) (by omega)]; omega
      refine Or.elim (Bool.eq_false_or_eq_true (decide ((↑k : Int) < (↑((rowAt (chainsM L) j).length - (1 : Nat)) : Int)))) (fun d1 => Or.elim (Bool.eq_false_or_eq_true ((L.getD ((rowAt (chainsM L) j).getD (k + (1 : Nat)) (0 : Int)).toNat Con.zero).sign == (-1 : Int))) (fun d2 => ⟨[true, true], .inr ⟨[p = p, L.length = L.length ∧ (rws L) = (rws L), Dec ((L.getD ((rowAt (chainsM L) j).getD (k + (1 : Nat)) (0 : Int)).toNat Con.zero).sign == (-1 : Int)) true, (0 : Int) ≤ (rowAt (chainsM L) j).getD (k + (1 : Nat)) (0 : Int) ∧ (rowAt (chainsM L) j).getD (k + (1 : Nat)) (0 : Int) < (↑L.length : Int), (0 : Int) ≤ (↑k : Int) ∧ (↑k : Int) < (↑((rowAt (chainsM L) j).length - (1 : Nat)) : Int), Dec (decide ((↑k : Int) < (↑((rowAt (chainsM L) j).length - (1 : Nat)) : Int))) true], by kernel_rfl, ⟨?_, ?_, d2, ?_, ?_, d1⟩, rfl⟩⟩)
           (fun d2 => ⟨[true, false], .inl ⟨(k + 1), [(chainsM L).length = (chainsM L).length ∧ (fun i => [rI IntKind.i64 ((chainsM L).getD i [])]) = fun i => [rI IntKind.i64 ((chainsM L).getD i [])], (↑(chainsM L).length : Int) = (↑(chainsM L).length : Int), (↑j : Int) = (↑j : Int), (rowAt (chainsM L) j).length - (1 : Nat) = (rowAt (chainsM L) j).length - (1 : Nat) ∧ (fun i => [RV.int IntKind.i64 ((rowAt (chainsM L) j).getD (i + (1 : Nat)) (0 : Int))]) = fun i => [RV.int IntKind.i64 ((rowAt (chainsM L) j).getD (i + (1 : Nat)) (0 : Int))], (↑((rowAt (chainsM L) j).length - (1 : Nat)) : Int) = (↑((rowAt (chainsM L) j).length - (1 : Nat)) : Int), IntKind.i64.wrap ((↑k : Int) + (1 : Int)) = (↑(k + (1 : Nat)) : Int), p = p, L.length = L.length ∧ (rws L) = (rws L), Dec ((L.getD ((rowAt (chainsM L) j).getD (k + (1 : Nat)) (0 : Int)).toNat Con.zero).sign == (-1 : Int)) false, (0 : Int) ≤ (rowAt (chainsM L) j).getD (k + (1 : Nat)) (0 : Int) ∧ (rowAt (chainsM L) j).getD (k + (1 : Nat)) (0 : Int) < (↑L.length : Int), (0 : Int) ≤ (↑k : Int) ∧ (↑k : Int) < (↑((rowAt (chainsM L) j).length - (1 : Nat)) : Int), Dec (decide ((↑k : Int) < (↑((rowAt (chainsM L) j).length - (1 : Nat)) : Int))) true], by kernel_rfl, ⟨?_, ?_, ?_, ?_, ?_, ?_, ?_, ?_, d2, ?_, ?_, d1⟩, MuG.out ?_, InG.out ?_⟩⟩))
           (fun d1 => CtG.no ?_)
      all_goals first | (refine MuG.mk ?_; (simp only [decide_eq_true_eq] at d1; show (rowAt (chainsM L) j).length - (k + 1) < (rowAt (chainsM L) j).length - k; omega)) | (refine InG.mk ?_; (simp only [ek, decide_eq_true_eq] at *; exact ⟨by omega, by rw [← hf, sgR_1 (by omega) d2], hs⟩)) | (refine CtG.mk ?_; (simp only [decide_eq_true_eq, decide_eq_false_iff_not] at *; first | (rw [← hf, sgR_3 (by omega)] at hs; cases hs; done) | (rw [← hf, sgR_2 (by omega) d2] at hs; cases hs; done))) | (first | (with_reducible rfl) | exact ⟨rfl, rfl⟩ | decide | ((try simp only [ek, Int.toNat_natCast, decide_eq_true_eq, decide_eq_false_iff_not] at *) <;> first | omega | (rw [← hf, sgR_3 (by omega)]; done) | (rw [← hf, sgR_2 (by omega) d2]; done) | (have h2 := hr.at (t := k + 1) (by omega); omega)))
    · -- d = true
      obtain ⟨ht, hf, hs⟩ := hI
      have ht : k ≤ (rowAt (chainsM L) j).length - 1 := ht
      have hf : sgR L ((rowAt (chainsM L) j).drop (k + 1)) = sgR L ((rowAt (chainsM L) j).drop 1) := hf
      have ek : IntKind.i64.wrap ((k : Int) + 1) = ((k + 1 : Nat) : Int) := by rw [w64 (by omega) (by omega)]; omega
      refine Or.elim (Bool.eq_false_or_eq_true (decide ((↑k : Int) < (↑((rowAt (chainsM L) j).length - (1 : Nat)) : Int)))) (fun d1 => Or.elim (Bool.eq_false_or_eq_true ((L.getD ((rowAt (chainsM L) j).getD (k + (1 : Nat)) (0 : Int)).toNat Con.zero).sign == (-1 : Int))) (fun d2 => CtG.no ?_)
           (fun d2 => ⟨[true, false], .inl ⟨(k + 1), [(chainsM L).length = (chainsM L).length ∧ (fun i => [rI IntKind.i64 ((chainsM L).getD i [])]) = fun i => [rI IntKind.i64 ((chainsM L).getD i [])], (↑(chainsM L).length : Int) = (↑(chainsM L).length : Int), (↑j : Int) = (↑j : Int), (rowAt (chainsM L) j).length - (1 : Nat) = (rowAt (chainsM L) j).length - (1 : Nat) ∧ (fun i => [RV.int IntKind.i64 ((rowAt (chainsM L) j).getD (i + (1 : Nat)) (0 : Int))]) = fun i => [RV.int IntKind.i64 ((rowAt (chainsM L) j).getD (i + (1 : Nat)) (0 : Int))], (↑((rowAt (chainsM L) j).length - (1 : Nat)) : Int) = (↑((rowAt (chainsM L) j).length - (1 : Nat)) : Int), IntKind.i64.wrap ((↑k : Int) + (1 : Int)) = (↑(k + (1 : Nat)) : Int), p = p, L.length = L.length ∧ (rws L) = (rws L), Dec ((L.getD ((rowAt (chainsM L) j).getD (k + (1 : Nat)) (0 : Int)).toNat Con.zero).sign == (-1 : Int)) false, (0 : Int) ≤ (rowAt (chainsM L) j).getD (k + (1 : Nat)) (0 : Int) ∧ (rowAt (chainsM L) j).getD (k + (1 : Nat)) (0 : Int) < (↑L.length : Int), (0 : Int) ≤ (↑k : Int) ∧ (↑k : Int) < (↑((rowAt (chainsM L) j).length - (1 : Nat)) : Int), Dec (decide ((↑k : Int) < (↑((rowAt (chainsM L) j).length - (1 : Nat)) : Int))) true], by kernel_rfl, ⟨?_, ?_, ?_, ?_, ?_, ?_, ?_, ?_, d2, ?_, ?_, d1⟩, MuG.out ?_, InG.out ?_⟩⟩))
           (fun d1 => ⟨[false], .inr ⟨[(chainsM L).length = (chainsM L).length ∧ (fun i => [rI IntKind.i64 ((chainsM L).getD i [])]) = fun i => [rI IntKind.i64 ((chainsM L).getD i [])], (↑(chainsM L).length : Int) = (↑(chainsM L).length : Int), (↑j : Int) = (↑j : Int), p = p, L.length = L.length ∧ (rws L) = (rws L), Dec (decide ((↑k : Int) < (↑((rowAt (chainsM L) j).length - (1 : Nat)) : Int))) false], by kernel_rfl, ⟨?_, ?_, ?_, ?_, ?_, d1⟩, rfl⟩⟩)
      all_goals first | (refine MuG.mk ?_; (simp only [decide_eq_true_eq] at d1; show (rowAt (chainsM L) j).length - (k + 1) < (rowAt (chainsM L) j).length - k; omega)) | (refine InG.mk ?_; (simp only [ek, decide_eq_true_eq] at *; exact ⟨by omega, by rw [← hf, sgR_1 (by omega) d2], hs⟩)) | (refine CtG.mk ?_; (simp only [decide_eq_true_eq, decide_eq_false_iff_not] at *; first | (rw [← hf, sgR_3 (by omega)] at hs; cases hs; done) | (rw [← hf, sgR_2 (by omega) d2] at hs; cases hs; done))) | (first | (with_reducible rfl) | exact ⟨rfl, rfl⟩ | decide | ((try simp only [ek, Int.toNat_natCast, decide_eq_true_eq, decide_eq_false_iff_not] at *) <;> first | omega | (rw [← hf, sgR_3 (by omega)]; done) | (rw [← hf, sgR_2 (by omega) d2]; done) | (have h2 := hr.at (t := k + 1) (by omega); omega)))
noncomputable def icOut (p : Int) (L : List Con) : Ann := ⟨⟨icT L (.int .i64 0), fiH p L, 1020⟩, some (fstM L (chainsM L)), fun d => match d with
  | true => (.exit 0, ⟨[(1, .ptr 1000 0)], fiH p L, 1020⟩)
  | false => (.ret, ⟨[(2, .bool false)], fiH p L, 1020⟩)⟩
set_option maxRecDepth 100000 in
theorem ic_out (p : Int) (L : List Con) (hL : okL L) : AnnOk Tryz.prog EV.ng (Nat.max 1 Tryz.f41.ntmps) (bodyAt Tryz.f41 [0, 1, 0, 1, 1]) (icOut p L) := by
  refine ann_ofI evOk (callF_ok evOk (noOrc_ok _ _) 8) (by kernel_rfl) (by kernel_rfl) (fun i : Nat => (fun (j : Nat) => (⟨icT L (.vint .i64 (j : Int)), fiH p L, 1020⟩ : St)) i) (fun i : Nat => (fun (j : Nat) => ((chainsM L).length - j : Nat)) i) (fun (d : Bool) (i : Nat) => (fun (j : Nat) => (j ≤ (chainsM L).length ∧ fstM L ((chainsM L).drop j) = fstM L (chainsM L) ∧ fstM L (chainsM L) = d : Prop)) i) (fun i : Nat => (fun (j : Nat) => ([([0, 1, 1, 0, 0, 1, 1, 0, 0, 1, 0, 1, 1], icIn p L j)] : List (List Nat × Ann))) i) ?_ ?_ ?_
  · rintro d hd j hI
    have hr : inR L.length (rowAt (chainsM L) j) ∧ (rowAt (chainsM L) j).length ≤ 1000 := by
      have := hL.1
      rcases Nat.lt_or_ge j (chainsM L).length with h | h
      · have h1 := chains_rows _ (rowAt_mem h)
        exact ⟨h1.2.1, by omega⟩
      · have e : rowAt (chainsM L) j = [] := by simp [rowAt, h]
        rw [e]; exact ⟨fun x hx => by simp at hx, by simp⟩
    exact one_ann (ic_in p L j hr.1 hr.2)
  · intro d hd
    exact ⟨(0), [(chainsM L).length = (chainsM L).length ∧ (fun i => [rI IntKind.i64 ((chainsM L).getD i [])]) = fun i => [rI IntKind.i64 ((chainsM L).getD i [])], (↑(chainsM L).length : Int) = (↑(chainsM L).length : Int), (0 : Int) = (↑(0 : Nat) : Int), p = p, L.length = L.length ∧ (rws L) = (rws L)], by kernel_rfl, (by refine ⟨?_, ?_, ?_, ?_, (?_ : L.length = L.length ∧ (rws L) = (rws L))⟩ <;> (first | rfl | assumption | omega | simp_all)), (by exact ⟨Nat.zero_le _, rfl, hd⟩)⟩
  · rintro d hd j hI
    cases d
    · -- d = false
      obtain ⟨ht, hf, hs⟩ := hI
      have ht : j ≤ (chainsM L).length := ht
      have hf : fstM L ((chainsM L).drop j) = fstM L (chainsM L) := hf
      have hl := hL.1
      have hc := chains_len (L := L)
      have ek : IntKind.i64.wrap ((j : Int) + 1) = ((j + 1 : Nat) : Int) := by rw [w64 (by omega) (by omega)]; omega
      refine Or.elim (Bool.eq_false_or_eq_true (decide ((↑j : Int) < (↑(chainsM L).length : Int)))) (fun d1 => Or.elim (Bool.eq_false_or_eq_true (sgR L (List.drop (1 : Nat) (rowAt (chainsM L) j)))) (fun d2 => ⟨[true, true], .inl ⟨(j + 1), [(chainsM L).length = (chainsM L).length ∧ (fun i => [rI IntKind.i64 ((chainsM L).getD i [])]) = fun i => [rI IntKind.i64 ((chainsM L).getD i [])], (↑(chainsM L).length : Int) = (↑(chainsM L).length : Int), IntKind.i64.wrap ((↑j : Int) + (1 : Int)) = (↑(j + (1 : Nat)) : Int), p = p, L.length = L.length ∧ (rws L) = (rws L), (chainsM L).length = (chainsM L).length ∧ (fun i => [rI IntKind.i64 ((chainsM L).getD i [])]) = fun i => [rI IntKind.i64 ((chainsM L).getD i [])], (↑(chainsM L).length : Int) = (↑(chainsM L).length : Int), (↑j : Int) = (↑j : Int), ((chainsM L).getD j []).length - Int.toNat (1 : Int) = (rowAt (chainsM L) j).length - (1 : Nat) ∧ (fun i => (fun j_1 => [RV.int IntKind.i64 (((chainsM L).getD j []).getD j_1 (0 : Int))]) (i + Int.toNat (1 : Int))) = fun i => [RV.int IntKind.i64 ((rowAt (chainsM L) j).getD (i + (1 : Nat)) (0 : Int))], (↑(((chainsM L).getD j []).length - Int.toNat (1 : Int)) : Int) = (↑((rowAt (chainsM L) j).length - (1 : Nat)) : Int), p = p, L.length = L.length ∧ (rws L) = (rws L), Dec (sgR L (List.drop (1 : Nat) (rowAt (chainsM L) j))) true, (0 : Int) ≤ (1 : Int) ∧ (1 : Int) ≤ (↑((chainsM L).getD j []).length : Int), (0 : Int) ≤ (↑j : Int) ∧ (↑j : Int) < (↑(chainsM L).length : Int), Dec (decide ((↑j : Int) < (↑(chainsM L).length : Int))) true], by kernel_rfl, ⟨?_, ?_, ?_, ?_, ?_, ?_, ?_, ?_, ?_, ?_, ?_, ?_, d2, ?_, ?_, d1⟩, MuG.out ?_, InG.out ?_⟩⟩)
           (fun d2 => ⟨[true, false], .inr ⟨[p = p, L.length = L.length ∧ (rws L) = (rws L), (chainsM L).length = (chainsM L).length ∧ (fun i => [rI IntKind.i64 ((chainsM L).getD i [])]) = fun i => [rI IntKind.i64 ((chainsM L).getD i [])], (↑(chainsM L).length : Int) = (↑(chainsM L).length : Int), (↑j : Int) = (↑j : Int), ((chainsM L).getD j []).length - Int.toNat (1 : Int) = (rowAt (chainsM L) j).length - (1 : Nat) ∧ (fun i => (fun j_1 => [RV.int IntKind.i64 (((chainsM L).getD j []).getD j_1 (0 : Int))]) (i + Int.toNat (1 : Int))) = fun i => [RV.int IntKind.i64 ((rowAt (chainsM L) j).getD (i + (1 : Nat)) (0 : Int))], (↑(((chainsM L).getD j []).length - Int.toNat (1 : Int)) : Int) = (↑((rowAt (chainsM L) j).length - (1 : Nat)) : Int), p = p, L.length = L.length ∧ (rws L) = (rws L), Dec (sgR L (List.drop (1 : Nat) (rowAt (chainsM L) j))) false, (0 : Int) ≤ (1 : Int) ∧ (1 : Int) ≤ (↑((chainsM L).getD j []).length : Int), (0 : Int) ≤ (↑j : Int) ∧ (↑j : Int) < (↑(chainsM L).length : Int), Dec (decide ((↑j : Int) < (↑(chainsM L).length : Int))) true], by kernel_rfl, ⟨?_, ?_, ?_, ?_, ?_, ?_, ?_, ?_, ?_, d2, ?_, ?_, d1⟩, rfl⟩⟩))
           (fun d1 => CtG.no ?_)
      all_goals first | (refine MuG.mk ?_; (simp only [decide_eq_true_eq] at d1; show (chainsM L).length - (j + 1) < (chainsM L).length - j; omega)) | (refine InG.mk ?_; (simp only [decide_eq_true_eq] at d1; exact ⟨by omega, by rw [← hf]; exact (fst_1 (by omega) d2).symm, hs⟩)) | (refine CtG.mk ?_; (simp only [decide_eq_true_eq, decide_eq_false_iff_not] at d1; first | (rw [← hf, fst_3 (by omega)] at hs; cases hs; done) | (rw [← hf, fst_2 (by omega) d2] at hs; cases hs; done))) | (first | (with_reducible rfl) | exact ⟨rfl, rfl⟩ | decide | ((try simp only [ek, Int.toNat_natCast, Int.toNat_zero, decide_eq_true_eq, decide_eq_false_iff_not] at *) <;> first | omega | (rw [← hf, fst_3 (by omega)]; done) | (rw [← hf, fst_2 (by omega) d2]; done) | (have h0 := chains_rows _ (rowAt_mem (P := chainsM L) (t := j) (by omega)); have h1 : 0 < (rowAt (chainsM L) j).length := List.length_pos_iff.2 h0.1; have h2 : 0 < ((chainsM L).getD j []).length := h1; first | omega | rfl)))
    · -- d = true
      obtain ⟨ht, hf, hs⟩ := hI
      have ht : j ≤ (chainsM L).length := ht
      have hf : fstM L ((chainsM L).drop j) = fstM L (chainsM L) := hf
      have hl := hL.1
      have hc := chains_len (L := L)
      have ek : IntKind.i64.wrap ((j : Int) + 1) = ((j + 1 : Nat) : Int) := by rw [w64 (by omega) (by omega)]; omega
      refine Or.elim (Bool.eq_false_or_eq_true (decide ((↑j : Int) < (↑(chainsM L).length : Int)))) (fun d1 => Or.elim (Bool.eq_false_or_eq_true (sgR L (List.drop (1 : Nat) (rowAt (chainsM L) j)))) (fun d2 => ⟨[true, true], .inl ⟨(j + 1), [(chainsM L).length = (chainsM L).length ∧ (fun i => [rI IntKind.i64 ((chainsM L).getD i [])]) = fun i => [rI IntKind.i64 ((chainsM L).getD i [])], (↑(chainsM L).length : Int) = (↑(chainsM L).length : Int), IntKind.i64.wrap ((↑j : Int) + (1 : Int)) = (↑(j + (1 : Nat)) : Int), p = p, L.length = L.length ∧ (rws L) = (rws L), (chainsM L).length = (chainsM L).length ∧ (fun i => [rI IntKind.i64 ((chainsM L).getD i [])]) = fun i => [rI IntKind.i64 ((chainsM L).getD i [])], (↑(chainsM L).length : Int) = (↑(chainsM L).length : Int), (↑j : Int) = (↑j : Int), ((chainsM L).getD j []).length - Int.toNat (1 : Int) = (rowAt (chainsM L) j).length - (1 : Nat) ∧ (fun i => (fun j_1 => [RV.int IntKind.i64 (((chainsM L).getD j []).getD j_1 (0 : Int))]) (i + Int.toNat (1 : Int))) = fun i => [RV.int IntKind.i64 ((rowAt (chainsM L) j).getD (i + (1 : Nat)) (0 : Int))], (↑(((chainsM L).getD j []).length - Int.toNat (1 : Int)) : Int) = (↑((rowAt (chainsM L) j).length - (1 : Nat)) : Int), p = p, L.length = L.length ∧ (rws L) = (rws L), Dec (sgR L (List.drop (1 : Nat) (rowAt (chainsM L) j))) true, (0 : Int) ≤ (1 : Int) ∧ (1 : Int) ≤ (↑((chainsM L).getD j []).length : Int), (0 : Int) ≤ (↑j : Int) ∧ (↑j : Int) < (↑(chainsM L).length : Int), Dec (decide ((↑j : Int) < (↑(chainsM L).length : Int))) true], by kernel_rfl, ⟨?_, ?_, ?_, ?_, ?_, ?_, ?_, ?_, ?_, ?_, ?_, ?_, d2, ?_, ?_, d1⟩, MuG.out ?_, InG.out ?_⟩⟩)
           (fun d2 => CtG.no ?_))
           (fun d1 => ⟨[false], .inr ⟨[p = p, L.length = L.length ∧ (fun i => (L.getD i Con.zero).rvs) = fun i => (L.getD i Con.zero).rvs, Dec (decide ((↑j : Int) < (↑(chainsM L).length : Int))) false], by kernel_rfl, ⟨?_, ?_, d1⟩, rfl⟩⟩)
      all_goals first | (refine MuG.mk ?_; (simp only [decide_eq_true_eq] at d1; show (chainsM L).length - (j + 1) < (chainsM L).length - j; omega)) | (refine InG.mk ?_; (simp only [decide_eq_true_eq] at d1; exact ⟨by omega, by rw [← hf]; exact (fst_1 (by omega) d2).symm, hs⟩)) | (refine CtG.mk ?_; (simp only [decide_eq_true_eq, decide_eq_false_iff_not] at d1; first | (rw [← hf, fst_3 (by omega)] at hs; cases hs; done) | (rw [← hf, fst_2 (by omega) d2] at hs; cases hs; done))) | (first | (with_reducible rfl) | exact ⟨rfl, rfl⟩ | decide | ((try simp only [ek, Int.toNat_natCast, Int.toNat_zero, decide_eq_true_eq, decide_eq_false_iff_not] at *) <;> first | omega | (rw [← hf, fst_3 (by omega)]; done) | (rw [← hf, fst_2 (by omega) d2]; done) | (have h0 := chains_rows _ (rowAt_mem (P := chainsM L) (t := j) (by omega)); have h1 : 0 < (rowAt (chainsM L) j).length := List.length_pos_iff.2 h0.1; have h2 : 0 < ((chainsM L).getD j []).length := h1; first | omega | rfl)))
set_option maxRecDepth 100000 in
theorem tic_yes (p : Int) (L : List Con) (hL : okL L) (hne : 0 < L.length) (hf : fusM p L = true) : PureC Tryz.prog [] 41 [.agg [.int .i64 p, roC L]] (.bool (fstM L (chainsM L) && (refM L).isSome)) := by
  have hl := hL.1; have k1 : fusM p (consR L.length fun i => (L.getD i Con.zero).rvs) = true := (by rw [consR_ro]; exact hf)
  have rr := fun (tp : List Bool) (ms : List Prop) h hm => pure_run evOk (callF_ok evOk (orcOf_ok entsIC_ok) 8) Tryz.func41 (A := [.agg [.int .i64 p, roC L]]) (N := Nat.max 1 Tryz.f41.ntmps) rfl (one_ann (ic_out p L hL)) rfl rfl evNg (tabs := []) (R := .bool (fstM L (chainsM L) && (refM L).isSome)) (tp := tp) (ms := ms) h hm
  refine Or.elim (Bool.eq_false_or_eq_true (fstM L (chainsM L))) (fun d1 => rr [false, true] [rfB p (consR L.length (rws L)) = (fstM L (chainsM L) && (refM L).isSome), (∀ (i : Nat), i < L.length → (rws L) i = (Con.ofR ((rws L) i)).rvs) ∧ L.length ≤ (1000 : Nat), (chainsM (consR L.length (rws L))).length = (chainsM L).length ∧ (fun i => [rI IntKind.i64 ((chainsM (consR L.length (rws L))).getD i [])]) = fun i => [rI IntKind.i64 ((chainsM L).getD i [])], (↑(chainsM (consR L.length (rws L))).length : Int) = (↑(chainsM L).length : Int), p = p, L.length = L.length ∧ (rws L) = (rws L), Dec (fstM L (chainsM L)) true, (∀ (i : Nat), i < L.length → (rws L) i = (Con.ofR ((rws L) i)).rvs) ∧ okL (consR L.length (rws L)) ∧ (0 : Nat) < L.length, Dec (!fusM p (consR L.length (rws L))) false, (∀ (i : Nat), i < L.length → (rws L) i = (Con.ofR ((rws L) i)).rvs) ∧ L.length ≤ (1000 : Nat)] (by kernel_rfl) ⟨?_, ?_, ?_, ?_, ?_, ?_, d1, ?_, (dN k1), (?_ : (∀ (i : Nat), i < L.length → (rws L) i = (Con.ofR ((rws L) i)).rvs) ∧ L.length ≤ (1000 : Nat))⟩)
           (fun d1 => rr [false, false] [false = (fstM L (chainsM L) && (refM L).isSome), (chainsM (consR L.length (rws L))).length = (chainsM L).length ∧ (fun i => [rI IntKind.i64 ((chainsM (consR L.length (rws L))).getD i [])]) = fun i => [rI IntKind.i64 ((chainsM L).getD i [])], (↑(chainsM (consR L.length (rws L))).length : Int) = (↑(chainsM L).length : Int), p = p, L.length = L.length ∧ (rws L) = (rws L), Dec (fstM L (chainsM L)) false, (∀ (i : Nat), i < L.length → (rws L) i = (Con.ofR ((rws L) i)).rvs) ∧ okL (consR L.length (rws L)) ∧ (0 : Nat) < L.length, Dec (!fusM p (consR L.length (rws L))) false, (∀ (i : Nat), i < L.length → (rws L) i = (Con.ofR ((rws L) i)).rvs) ∧ L.length ≤ (1000 : Nat)] (by kernel_rfl) ⟨?_, ?_, ?_, ?_, ?_, d1, ?_, (dN k1), (?_ : (∀ (i : Nat), i < L.length → (rws L) i = (Con.ofR ((rws L) i)).rvs) ∧ L.length ≤ (1000 : Nat))⟩)
  all_goals first | (first | (with_reducible rfl) | exact ⟨rfl, rfl⟩ | exact ⟨fun _ _ => rfl, hl⟩ | exact ⟨fun _ _ => rfl, by rw [consR_ro]; exact hL, hne⟩ | (rw [d1]; rfl) | (rw [d1, Bool.true_and, consR_ro]; unfold rfB; rw [hf, Bool.true_and]; done) | (rw [consR_ro]; exact ⟨rfl, rfl⟩) | (rw [consR_ro]; done) | exact (5 : Nat))
set_option maxRecDepth 100000 in
theorem tic_no (p : Int) (L : List Con) (hn : L.length ≤ 1000) (hf : fusM p L = false) : PureC Tryz.prog [] 41 [.agg [.int .i64 p, roC L]] (.bool false) := by
  have k1 : fusM p (consR L.length fun i => (L.getD i Con.zero).rvs) = false := (by rw [consR_ro]; exact hf)
  have rr := fun (tp : List Bool) (ms : List Prop) h hm => pure_run evOk (callF_ok evOk (orcOf_ok entsIC_ok) 8) Tryz.func41 (A := [.agg [.int .i64 p, roC L]]) rfl none_ann rfl rfl evNg (tabs := []) (R := .bool false) (tp := tp) (ms := ms) h hm
  refine rr [true] [false = false, Dec (!fusM p (consR L.length (rws L))) true, (∀ (i : Nat), i < L.length → (rws L) i = (Con.ofR ((rws L) i)).rvs) ∧ L.length ≤ (1000 : Nat)] (by kernel_rfl) ⟨?_, (dN k1), (?_ : (∀ (i : Nat), i < L.length → (rws L) i = (Con.ofR ((rws L) i)).rvs) ∧ L.length ≤ (1000 : Nat))⟩
  all_goals first | (first | rfl | exact ⟨rfl, rfl⟩ | exact ⟨fun _ _ => rfl, hn⟩)
theorem tic_pure (p : Int) (L : List Con) (hn : L.length ≤ 1000) : PureC Tryz.prog [] 41 [.agg [.int .i64 p, roC L]] (.bool (icM p L)) := by
  unfold icM
  cases h : fusM p L with
  | false => exact tic_no p L hn h
  | true =>
    have := fus_p h
    subst this
    exact tic_yes 2 L (fus_okL h) (fus_parts h).2.1 h
noncomputable def entsIR : List OEnt := [
  ⟨40, [], fun A => match A with
    | [.agg [.int .i64 p, .sl n 5 row]] => some (.bool (fusM p (consR n row)), [(∀ i, i < n → row i = (Con.ofR (row i)).rvs) ∧ n ≤ 1000])
    | _ => none⟩,
  ⟨67, [], fun A => match A with
    | [.agg [.int .i64 p, .sl n 5 row]] => some (.bool (fstM (consR n row) (chainsM (consR n row))), [(∀ i, i < n → row i = (Con.ofR (row i)).rvs) ∧ okL (consR n row) ∧ 0 < n])
    | _ => none⟩,
  ⟨37, [], fun A => match A with
    | [.agg [.int .i64 p, .sl n 5 row]] => some (.tup [.agg [.int .i64 (bP (rfB p (consR n row))), roC (bL (rfB p (consR n row)) (rfL (consR n row)))], .bool (rfB p (consR n row))], [(∀ i, i < n → row i = (Con.ofR (row i)).rvs) ∧ n ≤ 1000])
    | _ => none⟩]
theorem entsIR_ok : ∀ e ∈ entsIR, EntOk Tryz.prog e := by
  intro e he
  simp only [entsIR, List.mem_cons, List.not_mem_nil, or_false] at he
  rcases he with rfl | rfl | rfl
  all_goals
    intro A R ms h hm
    simp only at h
    split at h
    all_goals first | (cases h; done) | cases h
  · obtain ⟨h1, h2⟩ := all_one hm
    exact PureC.imp (rfused_pure _ _ (by rw [consR_len]; exact h2)) (.cons (.agg (.cons .same (.cons (.con h1) .nil))) .nil)
  · obtain ⟨h1, h2, h3⟩ := all_one hm
    exact PureC.imp (first_pure _ _ h2 (by rw [consR_len]; exact h3)) (.cons (.agg (.cons .same (.cons (.con h1) .nil))) .nil)
  · obtain ⟨h1, h2⟩ := all_one hm
    exact PureC.imp (rref_pure _ _ (by rw [consR_len]; exact h2)) (.cons (.agg (.cons .same (.cons (.con h1) .nil))) .nil)
set_option maxRecDepth 100000 in
theorem ric_pure (p : Int) (L : List Con) (hn : L.length ≤ 1000) : PureC Tryz.prog [] 42 [.agg [.int .i64 p, roC L]] (.bool (icM p L)) := by
  have k0 : consR L.length (fun i => (L.getD i Con.zero).rvs) = L := consR_ro L
  have rr := fun (tp : List Bool) (ms : List Prop) h hm => pure_run evOk (callF_ok evOk (orcOf_ok entsIR_ok) 8) Tryz.func42 (A := [.agg [.int .i64 p, roC L]]) rfl none_ann rfl rfl evNg (tabs := []) (R := .bool (icM p L)) (tp := tp) (ms := ms) h hm
  refine Or.elim (Bool.eq_false_or_eq_true (fusM p (consR L.length (rws L)))) (fun d1 => Or.elim (Bool.eq_false_or_eq_true (fstM (consR L.length (rws L)) (chainsM (consR L.length (rws L))))) (fun d2 => rr [false, false] [rfB p (consR L.length (rws L)) = icM p L, (∀ (i : Nat), i < L.length → (rws L) i = (Con.ofR ((rws L) i)).rvs) ∧ L.length ≤ (1000 : Nat), Dec (!fstM (consR L.length (rws L)) (chainsM (consR L.length (rws L)))) false, (∀ (i : Nat), i < L.length → (rws L) i = (Con.ofR ((rws L) i)).rvs) ∧ okL (consR L.length (rws L)) ∧ (0 : Nat) < L.length, Dec (!fusM p (consR L.length (rws L))) false, (∀ (i : Nat), i < L.length → (rws L) i = (Con.ofR ((rws L) i)).rvs) ∧ L.length ≤ (1000 : Nat)] (by kernel_rfl) ⟨?_, ?_, (dN d2), ?_, (dN d1), (?_ : (∀ (i : Nat), i < L.length → (rws L) i = (Con.ofR ((rws L) i)).rvs) ∧ L.length ≤ (1000 : Nat))⟩)
           (fun d2 => rr [false, true] [false = icM p L, Dec (!fstM (consR L.length (rws L)) (chainsM (consR L.length (rws L)))) true, (∀ (i : Nat), i < L.length → (rws L) i = (Con.ofR ((rws L) i)).rvs) ∧ okL (consR L.length (rws L)) ∧ (0 : Nat) < L.length, Dec (!fusM p (consR L.length (rws L))) false, (∀ (i : Nat), i < L.length → (rws L) i = (Con.ofR ((rws L) i)).rvs) ∧ L.length ≤ (1000 : Nat)] (by kernel_rfl) ⟨?_, (dN d2), ?_, (dN d1), (?_ : (∀ (i : Nat), i < L.length → (rws L) i = (Con.ofR ((rws L) i)).rvs) ∧ L.length ≤ (1000 : Nat))⟩))
           (fun d1 => rr [true] [false = icM p L, Dec (!fusM p (consR L.length (rws L))) true, (∀ (i : Nat), i < L.length → (rws L) i = (Con.ofR ((rws L) i)).rvs) ∧ L.length ≤ (1000 : Nat)] (by kernel_rfl) ⟨?_, (dN d1), (?_ : (∀ (i : Nat), i < L.length → (rws L) i = (Con.ofR ((rws L) i)).rvs) ∧ L.length ≤ (1000 : Nat))⟩)
  all_goals first | (first | rfl | exact ⟨rfl, rfl⟩ | exact ⟨fun _ _ => rfl, hn⟩ | (rw [k0] at *; have := fus_p d1; subst this; exact ⟨fun _ _ => rfl, fus_okL d1, (fus_parts d1).2.1⟩) | (simp only [k0] at *; unfold icM; simp_all [rfB]; done) | exact (5 : Nat))
end Go.Proofs.YtcfdaddablojlaaGreatDoor.S

namespace Go.Proofs.YtcfdaddablojlaaGreatDoor.S
open Go.QfSy Go.RowKit
noncomputable def entsK : List OEnt := [
  ⟨56, [], fun A => match A with
    | [.agg [.int .i64 p, .sl n 5 row], .int .i64 a] => some (.agg [.int .i64 2, roC (stepM (consR n row) a.toNat)], [(∀ i, i < n → row i = (Con.ofR (row i)).rvs) ∧ p = 2 ∧ okL (consR n row) ∧ 1 ≤ a ∧ a < (n : Int)])
    | _ => none⟩,
  ⟨55, [], fun A => match A with
    | [.sl n 5 row, .int .i64 a] => some (.bool (linkM (consR n row) a.toNat), [(∀ i, i < n → row i = (Con.ofR (row i)).rvs) ∧ okL (consR n row) ∧ 1 ≤ a ∧ a < (n : Int)])
    | _ => none⟩,
  ⟨20, [], fun A => match A with
    | [.agg [.int .i64 p, .sl n 5 row]] => some (.tup [.agg [.int .i64 2, roC (fuseM (consR n row))], .bool true], [(∀ i, i < n → row i = (Con.ofR (row i)).rvs) ∧ p = 2 ∧ okL (consR n row) ∧ val2M 2 (consR n row) = true ∧ 0 < n])
    | _ => none⟩]
theorem entsK_ok : ∀ e ∈ entsK, EntOk Tryz.prog e := by
  intro e he
  simp only [entsK, List.mem_cons, List.not_mem_nil, or_false] at he
  rcases he with rfl | rfl | rfl
  all_goals
    intro A R ms h hm
    simp only at h
    split at h
    all_goals first | (cases h; done) | cases h
  · obtain ⟨h1, h2, h3, h4, h5⟩ := all_one hm
    rename_i a
    subst h2
    have e : ((a.toNat : Nat) : Int) = a := by omega
    have := step_pure _ a.toNat h3 (by omega) (by rw [consR_len]; omega)
    rw [e] at this
    exact PureC.imp this (.cons (.agg (.cons .same (.cons (.con h1) .nil))) (.cons .same .nil))
  · obtain ⟨h1, h3, h4, h5⟩ := all_one hm
    rename_i a
    have e : ((a.toNat : Nat) : Int) = a := by omega
    have := linked_pure _ a.toNat h3 (by omega) (by rw [consR_len]; omega)
    rw [e] at this
    exact PureC.imp this (.cons (.con h1) (.cons .same .nil))
  · obtain ⟨h1, h2, h4, h5, h6⟩ := all_one hm
    subst h2
    exact PureC.imp (fuse_yes _ h4 h5 (by rw [consR_len]; exact h6)) (.cons (.agg (.cons .same (.cons (.con h1) .nil))) .nil)
noncomputable def canAnn (L : List Con) : Ann := ⟨⟨[(2, .ptr 1001 0), (4, .ptr 1002 0), (6, .vint .i64 (IntKind.i64.wrap (((fuseM L).length : Int) - 1)))], [(1001, ⟨.plain [.int .i64 0, .nils], 24, 0, false, true⟩), (1002, ⟨.plain [.vint .i64 2, (roC (fuseM L)).av], 24, 0, false, true⟩)], 1010⟩, none, fun _ =>
  (.exit 0, ⟨[(2, .ptr 1001 0), (4, .ptr 1002 0)], [(1001, ⟨.plain [.int .i64 0, .nils], 24, 0, false, true⟩), (1002, ⟨.plain [.vint .i64 2, (roC (canM L)).av], 24, 0, false, true⟩)], 1010⟩)⟩
theorem canG_end {M : List Con} {k : Nat} (h : ¬ 1 ≤ k) : canG M k = M := by
  have : k = 0 := by omega
  subst this; rfl
theorem canG_no {M : List Con} {k : Nat} (h : 1 ≤ k) (hs : ((at_ M k).sign == -1 && linkM M k) = false) : canG M (k - 1) = canG M k := by
  obtain ⟨j, rfl⟩ : ∃ j, k = j + 1 := ⟨k - 1, by omega⟩
  show canG M j = canG (canS M (j + 1)) j
  rw [canS, hs]; rfl
theorem canG_yes {M : List Con} {k : Nat} (h : 1 ≤ k) (hs : ((at_ M k).sign == -1 && linkM M k) = true) : canG (stepM M k) (k - 1) = canG M k := by
  obtain ⟨j, rfl⟩ : ∃ j, k = j + 1 := ⟨k - 1, by omega⟩
  show canG (stepM M (j + 1)) j = canG (canS M (j + 1)) j
  rw [canS, hs]; rfl
set_option maxRecDepth 100000 in
theorem can_loop (L : List Con) (hL : okL (fuseM L)) (hne : 0 < (fuseM L).length) : AnnOk Tryz.prog EV.ng (Nat.max 1 Tryz.f23.ntmps) (bodyAt Tryz.f23 [0, 1, 0, 1, 1, 1]) (canAnn L) := by
  refine ann_of evOk (callF_ok evOk (orcOf_ok entsK_ok) 8) none_ann (by kernel_rfl) (by kernel_rfl) (fun i : Nat × List Con => (fun (k : Nat) (M : List Con) => (⟨[(2, .ptr 1001 0), (4, .ptr 1002 0), (6, .vint .i64 (k : Int))], [(1001, ⟨.plain [.int .i64 0, .nils], 24, 0, false, true⟩), (1002, ⟨.plain [.vint .i64 2, (roC M).av], 24, 0, false, true⟩)], 1010⟩ : St)) i.1 i.2) (fun i : Nat × List Con => (fun (k : Nat) (M : List Con) => (k : Nat)) i.1 i.2) (fun (d : Bool) (i : Nat × List Con) => (fun (k : Nat) (M : List Con) => (okL M ∧ k < M.length ∧ canG M k = canM L : Prop)) i.1 i.2) ?_ ?_
  · intro d hd
    exact ⟨((fuseM L).length - 1, fuseM L), [IntKind.i64.wrap ((↑(fuseM L).length : Int) - (1 : Int)) = (↑((fuseM L).length - (1 : Nat)) : Int), (2 : Int) = (2 : Int), (fuseM L).length = (fuseM L).length ∧ (fun i => ((fuseM L).getD i Con.zero).rvs) = fun i => ((fuseM L).getD i Con.zero).rvs], by kernel_rfl, (by refine ⟨?_, ?_, (?_ : (fuseM L).length = (fuseM L).length ∧ (fun i => ((fuseM L).getD i Con.zero).rvs) = fun i => ((fuseM L).getD i Con.zero).rvs)⟩ <;> (first | rfl | exact ⟨rfl, rfl⟩ | (have := hL.1; rw [w64 (by omega) (by omega)]; omega))), (by exact ⟨hL, Nat.sub_lt hne (by decide), rfl⟩)⟩
  · rintro d hd ⟨k, M⟩ hI
    cases d
    · -- d = false
      exact Bool.noConfusion (show false = true from hd)
    · -- d = true
      obtain ⟨hM, hk, hc⟩ := hI
      have hl := hM.1
      have ek : IntKind.i64.wrap ((k : Int) - 1) = (k : Int) - 1 := w64 (by omega) (by omega)
      refine Or.elim (Bool.eq_false_or_eq_true (decide ((↑k : Int) ≥ (1 : Int)))) (fun d1 => Or.elim (Bool.eq_false_or_eq_true ((M.getD k Con.zero).sign == (-1 : Int))) (fun d2 => Or.elim (Bool.eq_false_or_eq_true (linkM (consR M.length (rws M)) k)) (fun d3 => ⟨[true, true, true], .inl ⟨(k - 1, canS M k), [IntKind.i64.wrap ((↑k : Int) - (1 : Int)) = (↑(k - (1 : Nat)) : Int), (2 : Int) = (2 : Int), (stepM (consR M.length (rws M)) k).length = (canS M k).length ∧ (fun i => ((stepM (consR M.length (rws M)) k).getD i Con.zero).rvs) = fun i => ((canS M k).getD i Con.zero).rvs, (∀ (i : Nat), i < M.length → (rws M) i = (Con.ofR ((rws M) i)).rvs) ∧ (2 : Int) = (2 : Int) ∧ okL (consR M.length (rws M)) ∧ (1 : Int) ≤ (↑k : Int) ∧ (↑k : Int) < (↑M.length : Int), Dec (linkM (consR M.length (rws M)) k) true, (∀ (i : Nat), i < M.length → (rws M) i = (Con.ofR ((rws M) i)).rvs) ∧ okL (consR M.length (rws M)) ∧ (1 : Int) ≤ (↑k : Int) ∧ (↑k : Int) < (↑M.length : Int), Dec ((M.getD k Con.zero).sign == (-1 : Int)) true, (0 : Int) ≤ (↑k : Int) ∧ (↑k : Int) < (↑M.length : Int), Dec (decide ((↑k : Int) ≥ (1 : Int))) true], by kernel_rfl, ⟨?_, ?_, ?_, ?_, d3, ?_, d2, ?_, d1⟩, MuG.out ?_, InG.out ?_⟩⟩)
           (fun d3 => ⟨[true, true, false], .inl ⟨(k - 1, canS M k), [IntKind.i64.wrap ((↑k : Int) - (1 : Int)) = (↑(k - (1 : Nat)) : Int), (2 : Int) = (2 : Int), M.length = (canS M k).length ∧ (rws M) = fun i => ((canS M k).getD i Con.zero).rvs, Dec (linkM (consR M.length (rws M)) k) false, (∀ (i : Nat), i < M.length → (rws M) i = (Con.ofR ((rws M) i)).rvs) ∧ okL (consR M.length (rws M)) ∧ (1 : Int) ≤ (↑k : Int) ∧ (↑k : Int) < (↑M.length : Int), Dec ((M.getD k Con.zero).sign == (-1 : Int)) true, (0 : Int) ≤ (↑k : Int) ∧ (↑k : Int) < (↑M.length : Int), Dec (decide ((↑k : Int) ≥ (1 : Int))) true], by kernel_rfl, ⟨?_, ?_, ?_, d3, ?_, d2, ?_, d1⟩, MuG.out ?_, InG.out ?_⟩⟩))
           (fun d2 => ⟨[true, false], .inl ⟨(k - 1, canS M k), [IntKind.i64.wrap ((↑k : Int) - (1 : Int)) = (↑(k - (1 : Nat)) : Int), (2 : Int) = (2 : Int), M.length = (canS M k).length ∧ (rws M) = fun i => ((canS M k).getD i Con.zero).rvs, Dec ((M.getD k Con.zero).sign == (-1 : Int)) false, (0 : Int) ≤ (↑k : Int) ∧ (↑k : Int) < (↑M.length : Int), Dec (decide ((↑k : Int) ≥ (1 : Int))) true], by kernel_rfl, ⟨?_, ?_, ?_, d2, ?_, d1⟩, MuG.out ?_, InG.out ?_⟩⟩))
           (fun d1 => ⟨[false], .inr ⟨[(2 : Int) = (2 : Int), M.length = (canM L).length ∧ (fun i => (M.getD i Con.zero).rvs) = fun i => ((canM L).getD i Con.zero).rvs, Dec (decide ((↑k : Int) ≥ (1 : Int))) false], by kernel_rfl, ⟨?_, ?_, d1⟩, rfl⟩⟩)
      all_goals first | (refine MuG.mk ?_; (simp only [decide_eq_true_eq, ge_iff_le] at *; show k - 1 < k; omega)) | (refine InG.mk ?_; (simp only [decide_eq_true_eq, ge_iff_le] at *; refine ⟨canS_ok hM hk, by rw [canS_len]; omega, ?_⟩; rw [← hc]; unfold canS; cases hs : ((at_ M k).sign == -1 && linkM M k) with | true => exact canG_yes (by omega) hs | false => exact canG_no (by omega) hs)) | (refine CtG.mk ?_; (simp_all)) | (first | (with_reducible rfl) | exact ⟨rfl, rfl⟩ | ((try simp only [ek, consR_ro, Int.toNat_natCast, decide_eq_true_eq, decide_eq_false_iff_not, ge_iff_le] at *) <;> first | omega | rfl | exact ⟨fun _ _ => rfl, hM, by omega, by omega⟩ | exact ⟨fun _ _ => rfl, by trivial, hM, by omega, by omega⟩ | (rw [canS, show ((at_ M k).sign == -1 && linkM M k) = true from by simp_all [at_]]; exact ⟨rfl, rfl⟩) | (rw [canS, show ((at_ M k).sign == -1 && linkM M k) = false from by simp_all [at_]]; exact ⟨rfl, rfl⟩) | (rw [← hc, canG_end (by omega)]; exact ⟨rfl, rfl⟩)))
set_option maxRecDepth 100000 in
theorem can_yes (L : List Con) (hL : okL L) (hv : val2M 2 L = true) (hne : 0 < L.length) : PureC Tryz.prog [] 23 [.agg [.int .i64 2, roC L]] (.tup [.agg [.int .i64 2, roC (canM L)], .bool true]) := by
  have rr := fun (tp : List Bool) (ms : List Prop) h hm => pure_run evOk (callF_ok evOk (orcOf_ok entsK_ok) 8) Tryz.func23 (A := [.agg [.int .i64 2, roC L]]) (N := Nat.max 1 Tryz.f23.ntmps) rfl (one_ann (can_loop L (fuseM_ok hL) (by rw [fuseM_len]; exact hne))) rfl rfl evNg (tabs := []) (R := .tup [.agg [.int .i64 2, roC (canM L)], .bool true]) (tp := tp) (ms := ms) h hm
  refine rr [false] [(2 : Int) = (2 : Int), (canM L).length = (canM L).length ∧ (fun i => ((canM L).getD i Con.zero).rvs) = fun i => ((canM L).getD i Con.zero).rvs, true = true, IntKind.i64.wrap ((↑(fuseM (consR L.length (rws L))).length : Int) - (1 : Int)) = IntKind.i64.wrap ((↑(fuseM L).length : Int) - (1 : Int)), (2 : Int) = (2 : Int), (fuseM (consR L.length (rws L))).length = (fuseM L).length ∧ (fun i => ((fuseM (consR L.length (rws L))).getD i Con.zero).rvs) = fun i => ((fuseM L).getD i Con.zero).rvs, Dec (!true) false, (∀ (i : Nat), i < L.length → (rws L) i = (Con.ofR ((rws L) i)).rvs) ∧ (2 : Int) = (2 : Int) ∧ okL (consR L.length (rws L)) ∧ val2M (2 : Int) (consR L.length (rws L)) = true ∧ (0 : Nat) < L.length] (by kernel_rfl) ⟨?_, ?_, ?_, ?_, ?_, ?_, (dN rfl), (?_ : (∀ (i : Nat), i < L.length → (rws L) i = (Con.ofR ((rws L) i)).rvs) ∧ (2 : Int) = (2 : Int) ∧ okL (consR L.length (rws L)) ∧ val2M (2 : Int) (consR L.length (rws L)) = true ∧ (0 : Nat) < L.length)⟩
  all_goals first | (first | (with_reducible rfl) | exact ⟨rfl, rfl⟩ | exact ⟨fun _ _ => rfl, rfl, by rw [consR_ro]; exact hL, by rw [consR_ro]; exact hv, hne⟩ | (rw [consR_ro]; first | done | rfl | exact ⟨rfl, rfl⟩))
end Go.Proofs.YtcfdaddablojlaaGreatDoor.S

namespace Go.Proofs.YtcfdaddablojlaaGreatDoor.S
open Go.QfSy Go.RowKit
def Prt.ofR : List RV → Prt
  | [.int .u8 a, .int .u8 b, .int .u8 c, .int .u8 d, .int .u8 e] => ⟨a, b, c, d, e⟩
  | _ => Prt.zero
def prtR (n : Nat) (row : Nat → List RV) : List Prt := (List.range n).map fun i => Prt.ofR (row i)
theorem prtR_ro (L : List Prt) : prtR L.length (fun i => (L.getD i Prt.zero).rvs) = L := by
  apply List.ext_getElem
  · simp [prtR]
  · intro i h1 h2
    simp [prtR, h2]; rfl
theorem roP_ro {n : Nat} {row : Nat → List RV} (h : ∀ i, i < n → row i = (Prt.ofR (row i)).rvs) {F : Fz} {V : Value} (k : RRel F (.sl n 5 row) V) : RRel F (roP (prtR n row)) V := by
  unfold roP
  have hn : (prtR n row).length = n := by simp [prtR]
  rw [hn]
  refine k.rows (fun i hi => ?_)
  rw [h i hi]
  congr 1
  simp [prtR, hi]
theorem list_rows {pr most : Int} {two : Bool} {n : Nat} {row : Nat → List RV} (h1 : ∀ i, i < n → row i = (Prt.ofR (row i)).rvs) (h2 : ∀ p ∈ prtR n row, p.ok) (h3 : 1 ≤ most) (h4 : most ≤ 100) (h5 : n ≤ 1000) : PureC Tryz.prog [] 59 [.agg [.int .u8 pr, .sl n 5 row], .int .i64 most, .bool two] (roC (listV most two (prtR n row))) := by
  refine (list_pure pr _ most two h2 h3 h4 (by simpa [prtR] using h5)).args (fun F Args hr => ?_)
  cases hr with | cons k0 hr => cases k0 with | agg k0 => cases k0 with | cons a0 k0 => cases k0 with | cons a1 k0 =>
  cases k0
  exact .cons (.agg (.cons a0 (.cons (roP_ro h1 a1) .nil))) hr
theorem RImp.prt {n : Nat} {row : Nat → List RV} (h : ∀ i, i < n → row i = (Prt.ofR (row i)).rvs) : RImp (.sl n 5 row) (roP (prtR n row)) := fun F V k => roP_ro h k
theorem prtR_len {n : Nat} {row : Nat → List RV} : (prtR n row).length = n := by simp [prtR]
theorem listV_len {most : Int} {two : Bool} {X : List Prt} : (listV most two X).length ≤ X.length + 1 := by
  have key : ∀ (X : List Prt) (e n : Int), (listM most two X e n).length ≤ X.length := by
    intro X
    induction X with
    | nil => intro e n; simp [listM]
    | cons p l ih =>
      intro e n
      simp only [listM]
      split
      · simp
      · simp; exact ih _ _
  unfold listV
  cases (listF most two X).isEmpty
  · have := key X (-1) 0
    simp only [cond_false]; unfold listF; omega
  · simp
end Go.Proofs.YtcfdaddablojlaaGreatDoor.S

namespace Go.Proofs.YtcfdaddablojlaaGreatDoor.S
open Go.QfSy Go.RowKit
noncomputable def entsA : List OEnt := [
  ⟨59, [], fun A => match A with
    | [.agg [.int .u8 pr, .sl n 5 row], .int .i64 most, .bool two] => some (roC (listV most two (prtR n row)), [(∀ i, i < n → row i = (Prt.ofR (row i)).rvs) ∧ (∀ p ∈ prtR n row, p.ok) ∧ 1 ≤ most ∧ most ≤ 100 ∧ n ≤ 1000])
    | _ => none⟩,
  ⟨86, [], fun A => match A with
    | [.int .u8 k] => some (.int .i64 (Q.oddPr k), [0 ≤ k ∧ k ≤ 255])
    | _ => none⟩,
  ⟨20, [], fun A => match A with
    | [.agg [.int .i64 p, .sl n 5 row]] => some (.tup [.agg [.int .i64 2, roC (fuseM (consR n row))], .bool true], [(∀ i, i < n → row i = (Con.ofR (row i)).rvs) ∧ p = 2 ∧ val2M 2 (consR n row) = true])
    | _ => none⟩,
  ⟨23, [], fun A => match A with
    | [.agg [.int .i64 p, .sl n 5 row]] => some (.tup [.agg [.int .i64 2, roC (canM (consR n row))], .bool true], [(∀ i, i < n → row i = (Con.ofR (row i)).rvs) ∧ p = 2 ∧ val2M 2 (consR n row) = true])
    | _ => none⟩]
theorem entsA_ok : ∀ e ∈ entsA, EntOk Tryz.prog e := by
  intro e he
  simp only [entsA, List.mem_cons, List.not_mem_nil, or_false] at he
  rcases he with rfl | rfl | rfl | rfl
  all_goals
    intro A R ms h hm
    simp only at h
    split at h
    all_goals first | (cases h; done) | cases h
  · obtain ⟨h1, h2, h3, h4, h5⟩ := all_one hm
    exact list_rows h1 h2 h3 h4 h5
  · obtain ⟨h1, h2⟩ := all_one hm
    exact oddPrime_pure _ h1 h2
  · obtain ⟨h1, h2, h3⟩ := all_one hm
    subst h2
    obtain ⟨a, b, c, d⟩ := val2_ok h3
    exact PureC.imp (fuse_yes _ a h3 c) (.cons (.agg (.cons .same (.cons (.con h1) .nil))) .nil)
  · obtain ⟨h1, h2, h3⟩ := all_one hm
    subst h2
    obtain ⟨a, b, c, d⟩ := val2_ok h3
    exact PureC.imp (can_yes _ a h3 c) (.cons (.agg (.cons .same (.cons (.con h1) .nil))) .nil)
noncomputable def anyP (pr : Int) : Int := bif decide (pr % 8 < 3) then Q.oddPr pr else 2
noncomputable def anyL (pr : Int) (X : List Prt) (most : Int) : List Con := bif decide (pr % 8 < 3) then listV most false X else bif decide (pr % 8 < 5) then listV most true X else bif pr % 8 == 5 then fuseM (listV most true X) else canM (listV most true X)
theorem anyP_1 {pr : Int} (h : pr % 8 < 3) : anyP pr = Q.oddPr pr := by unfold anyP; rw [decide_eq_true h]; rfl
theorem anyP_2 {pr : Int} (h : ¬ pr % 8 < 3) : anyP pr = 2 := by unfold anyP; rw [decide_eq_false h]; rfl
theorem anyL_1 {pr : Int} {X : List Prt} {most : Int} (h : pr % 8 < 3) : anyL pr X most = listV most false X := by unfold anyL; rw [decide_eq_true h]; rfl
theorem anyL_2 {pr : Int} {X : List Prt} {most : Int} (h : ¬ pr % 8 < 3) (h2 : pr % 8 < 5) : anyL pr X most = listV most true X := by unfold anyL; rw [decide_eq_false h, decide_eq_true h2]; rfl
theorem anyL_3 {pr : Int} {X : List Prt} {most : Int} (h : pr % 8 = 5) : anyL pr X most = fuseM (listV most true X) := by unfold anyL; rw [decide_eq_false (by omega), decide_eq_false (by omega), h]; rfl
theorem anyL_4 {pr : Int} {X : List Prt} {most : Int} (h : ¬ pr % 8 < 5) (h2 : ¬ pr % 8 = 5) : anyL pr X most = canM (listV most true X) := by unfold anyL; rw [decide_eq_false (by omega), decide_eq_false h, beq_eq_false_iff_ne.2 h2]; rfl
set_option maxRecDepth 100000 in
theorem any_pure (pr : Int) (X : List Prt) (most : Int) (hp : U8 pr) (hX : ∀ p ∈ X, p.ok) (hn : X.length ≤ 900) (hm1 : 1 ≤ most) (hm2 : most ≤ 8) : PureC Tryz.prog [] 46 [.agg [.int .u8 pr, roP X], .int .i64 most] (.agg [.int .i64 (anyP pr), roC (anyL pr X most)]) := by
  obtain ⟨p1, p2⟩ := hp; have et : pr.tmod 8 = pr % 8 := Int.tmod_eq_emod_of_nonneg p1; have hv := val2_listV hm1 hm2 hX; have hl := listV_len (most := most) (two := true) (X := X)
  have rr := fun (tp : List Bool) (ms : List Prop) h hm => pure_run evOk (callF_ok evOk (orcOf_ok entsA_ok) 8) Tryz.func46 (A := [.agg [.int .u8 pr, roP X], .int .i64 most]) rfl none_ann rfl rfl evNg (tabs := []) (R := .agg [.int .i64 (anyP pr), roC (anyL pr X most)]) (tp := tp) (ms := ms) h hm
  refine Or.elim (Bool.eq_false_or_eq_true (pr.tmod (8 : Int) == (0 : Int))) (fun d1 => rr [true, true] [Q.oddPr pr = anyP pr, (listV most false (prtR X.length fun i => (X.getD i Prt.zero).rvs)).length = (anyL pr X most).length ∧ (fun i => ((listV most false (prtR X.length fun i => (X.getD i Prt.zero).rvs)).getD i Con.zero).rvs) = fun i => ((anyL pr X most).getD i Con.zero).rvs, (∀ (i : Nat), i < X.length → (fun i => (X.getD i Prt.zero).rvs) i = (Prt.ofR ((fun i => (X.getD i Prt.zero).rvs) i)).rvs) ∧ (∀ (p : Prt), (p ∈ prtR X.length fun i => (X.getD i Prt.zero).rvs) → p.ok) ∧ (1 : Int) ≤ most ∧ most ≤ (100 : Int) ∧ X.length ≤ (1000 : Nat), pr = pr, X.length = X.length ∧ (fun i => (X.getD i Prt.zero).rvs) = fun i => (X.getD i Prt.zero).rvs, (0 : Int) ≤ pr ∧ pr ≤ (255 : Int), Dec (pr.tmod (8 : Int) == (0 : Int)) true, Dec (pr.tmod (8 : Int) == (0 : Int)) true, (8 : Int) ≠ (0 : Int)] (by kernel_rfl) ⟨?_, ?_, ?_, ?_, ?_, ?_, d1, d1, (?_ : (8 : Int) ≠ (0 : Int))⟩)
           (fun d1 => Or.elim (Bool.eq_false_or_eq_true (pr.tmod (8 : Int) == (1 : Int))) (fun d2 => rr [false, true, true] [Q.oddPr pr = anyP pr, (listV most false (prtR X.length fun i => (X.getD i Prt.zero).rvs)).length = (anyL pr X most).length ∧ (fun i => ((listV most false (prtR X.length fun i => (X.getD i Prt.zero).rvs)).getD i Con.zero).rvs) = fun i => ((anyL pr X most).getD i Con.zero).rvs, (∀ (i : Nat), i < X.length → (fun i => (X.getD i Prt.zero).rvs) i = (Prt.ofR ((fun i => (X.getD i Prt.zero).rvs) i)).rvs) ∧ (∀ (p : Prt), (p ∈ prtR X.length fun i => (X.getD i Prt.zero).rvs) → p.ok) ∧ (1 : Int) ≤ most ∧ most ≤ (100 : Int) ∧ X.length ≤ (1000 : Nat), pr = pr, X.length = X.length ∧ (fun i => (X.getD i Prt.zero).rvs) = fun i => (X.getD i Prt.zero).rvs, (0 : Int) ≤ pr ∧ pr ≤ (255 : Int), Dec (pr.tmod (8 : Int) == (1 : Int)) true, Dec (pr.tmod (8 : Int) == (1 : Int)) true, Dec (pr.tmod (8 : Int) == (0 : Int)) false, (8 : Int) ≠ (0 : Int)] (by kernel_rfl) ⟨?_, ?_, ?_, ?_, ?_, ?_, d2, d2, d1, (?_ : (8 : Int) ≠ (0 : Int))⟩)
           (fun d2 => Or.elim (Bool.eq_false_or_eq_true (pr.tmod (8 : Int) == (2 : Int))) (fun d3 => rr [false, false, true] [Q.oddPr pr = anyP pr, (listV most false (prtR X.length fun i => (X.getD i Prt.zero).rvs)).length = (anyL pr X most).length ∧ (fun i => ((listV most false (prtR X.length fun i => (X.getD i Prt.zero).rvs)).getD i Con.zero).rvs) = fun i => ((anyL pr X most).getD i Con.zero).rvs, (∀ (i : Nat), i < X.length → (fun i => (X.getD i Prt.zero).rvs) i = (Prt.ofR ((fun i => (X.getD i Prt.zero).rvs) i)).rvs) ∧ (∀ (p : Prt), (p ∈ prtR X.length fun i => (X.getD i Prt.zero).rvs) → p.ok) ∧ (1 : Int) ≤ most ∧ most ≤ (100 : Int) ∧ X.length ≤ (1000 : Nat), pr = pr, X.length = X.length ∧ (fun i => (X.getD i Prt.zero).rvs) = fun i => (X.getD i Prt.zero).rvs, (0 : Int) ≤ pr ∧ pr ≤ (255 : Int), Dec (pr.tmod (8 : Int) == (2 : Int)) true, Dec (pr.tmod (8 : Int) == (1 : Int)) false, Dec (pr.tmod (8 : Int) == (0 : Int)) false, (8 : Int) ≠ (0 : Int)] (by kernel_rfl) ⟨?_, ?_, ?_, ?_, ?_, ?_, d3, d2, d1, (?_ : (8 : Int) ≠ (0 : Int))⟩)
           (fun d3 => Or.elim (Bool.eq_false_or_eq_true (pr.tmod (8 : Int) == (3 : Int))) (fun d4 => rr [false, false, false, true, true] [(2 : Int) = anyP pr, (listV most true (prtR X.length fun i => (X.getD i Prt.zero).rvs)).length = (anyL pr X most).length ∧ (fun i => ((listV most true (prtR X.length fun i => (X.getD i Prt.zero).rvs)).getD i Con.zero).rvs) = fun i => ((anyL pr X most).getD i Con.zero).rvs, (∀ (i : Nat), i < X.length → (fun i => (X.getD i Prt.zero).rvs) i = (Prt.ofR ((fun i => (X.getD i Prt.zero).rvs) i)).rvs) ∧ (∀ (p : Prt), (p ∈ prtR X.length fun i => (X.getD i Prt.zero).rvs) → p.ok) ∧ (1 : Int) ≤ most ∧ most ≤ (100 : Int) ∧ X.length ≤ (1000 : Nat), Dec (pr.tmod (8 : Int) == (3 : Int)) true, Dec (pr.tmod (8 : Int) == (3 : Int)) true, Dec (pr.tmod (8 : Int) == (2 : Int)) false, Dec (pr.tmod (8 : Int) == (1 : Int)) false, Dec (pr.tmod (8 : Int) == (0 : Int)) false, (8 : Int) ≠ (0 : Int)] (by kernel_rfl) ⟨?_, ?_, ?_, d4, d4, d3, d2, d1, (?_ : (8 : Int) ≠ (0 : Int))⟩)
           (fun d4 => Or.elim (Bool.eq_false_or_eq_true (pr.tmod (8 : Int) == (4 : Int))) (fun d5 => rr [false, false, false, false, true] [(2 : Int) = anyP pr, (listV most true (prtR X.length fun i => (X.getD i Prt.zero).rvs)).length = (anyL pr X most).length ∧ (fun i => ((listV most true (prtR X.length fun i => (X.getD i Prt.zero).rvs)).getD i Con.zero).rvs) = fun i => ((anyL pr X most).getD i Con.zero).rvs, (∀ (i : Nat), i < X.length → (fun i => (X.getD i Prt.zero).rvs) i = (Prt.ofR ((fun i => (X.getD i Prt.zero).rvs) i)).rvs) ∧ (∀ (p : Prt), (p ∈ prtR X.length fun i => (X.getD i Prt.zero).rvs) → p.ok) ∧ (1 : Int) ≤ most ∧ most ≤ (100 : Int) ∧ X.length ≤ (1000 : Nat), Dec (pr.tmod (8 : Int) == (4 : Int)) true, Dec (pr.tmod (8 : Int) == (3 : Int)) false, Dec (pr.tmod (8 : Int) == (2 : Int)) false, Dec (pr.tmod (8 : Int) == (1 : Int)) false, Dec (pr.tmod (8 : Int) == (0 : Int)) false, (8 : Int) ≠ (0 : Int)] (by kernel_rfl) ⟨?_, ?_, ?_, d5, d4, d3, d2, d1, (?_ : (8 : Int) ≠ (0 : Int))⟩)
           (fun d5 => Or.elim (Bool.eq_false_or_eq_true (pr.tmod (8 : Int) == (5 : Int))) (fun d6 => rr [false, false, false, false, false, true] [(2 : Int) = anyP pr, (fuseM (consR (listV most true (prtR X.length fun i => (X.getD i Prt.zero).rvs)).length fun i => ((listV most true (prtR X.length fun i => (X.getD i Prt.zero).rvs)).getD i Con.zero).rvs)).length = (anyL pr X most).length ∧ (fun i => ((fuseM (consR (listV most true (prtR X.length fun i => (X.getD i Prt.zero).rvs)).length fun i => ((listV most true (prtR X.length fun i => (X.getD i Prt.zero).rvs)).getD i Con.zero).rvs)).getD i Con.zero).rvs) = fun i => ((anyL pr X most).getD i Con.zero).rvs, (∀ (i : Nat), i < (listV most true (prtR X.length fun i => (X.getD i Prt.zero).rvs)).length → (fun i => ((listV most true (prtR X.length fun i => (X.getD i Prt.zero).rvs)).getD i Con.zero).rvs) i = (Con.ofR ((fun i => ((listV most true (prtR X.length fun i => (X.getD i Prt.zero).rvs)).getD i Con.zero).rvs) i)).rvs) ∧ (2 : Int) = (2 : Int) ∧ val2M (2 : Int) (consR (listV most true (prtR X.length fun i => (X.getD i Prt.zero).rvs)).length fun i => ((listV most true (prtR X.length fun i => (X.getD i Prt.zero).rvs)).getD i Con.zero).rvs) = true, (∀ (i : Nat), i < X.length → (fun i => (X.getD i Prt.zero).rvs) i = (Prt.ofR ((fun i => (X.getD i Prt.zero).rvs) i)).rvs) ∧ (∀ (p : Prt), (p ∈ prtR X.length fun i => (X.getD i Prt.zero).rvs) → p.ok) ∧ (1 : Int) ≤ most ∧ most ≤ (100 : Int) ∧ X.length ≤ (1000 : Nat), Dec (pr.tmod (8 : Int) == (5 : Int)) true, Dec (pr.tmod (8 : Int) == (4 : Int)) false, Dec (pr.tmod (8 : Int) == (3 : Int)) false, Dec (pr.tmod (8 : Int) == (2 : Int)) false, Dec (pr.tmod (8 : Int) == (1 : Int)) false, Dec (pr.tmod (8 : Int) == (0 : Int)) false, (8 : Int) ≠ (0 : Int)] (by kernel_rfl) ⟨?_, ?_, ?_, ?_, d6, d5, d4, d3, d2, d1, (?_ : (8 : Int) ≠ (0 : Int))⟩)
           (fun d6 => rr [false, false, false, false, false, false] [(2 : Int) = anyP pr, (canM (consR (listV most true (prtR X.length fun i => (X.getD i Prt.zero).rvs)).length fun i => ((listV most true (prtR X.length fun i => (X.getD i Prt.zero).rvs)).getD i Con.zero).rvs)).length = (anyL pr X most).length ∧ (fun i => ((canM (consR (listV most true (prtR X.length fun i => (X.getD i Prt.zero).rvs)).length fun i => ((listV most true (prtR X.length fun i => (X.getD i Prt.zero).rvs)).getD i Con.zero).rvs)).getD i Con.zero).rvs) = fun i => ((anyL pr X most).getD i Con.zero).rvs, (∀ (i : Nat), i < (listV most true (prtR X.length fun i => (X.getD i Prt.zero).rvs)).length → (fun i => ((listV most true (prtR X.length fun i => (X.getD i Prt.zero).rvs)).getD i Con.zero).rvs) i = (Con.ofR ((fun i => ((listV most true (prtR X.length fun i => (X.getD i Prt.zero).rvs)).getD i Con.zero).rvs) i)).rvs) ∧ (2 : Int) = (2 : Int) ∧ val2M (2 : Int) (consR (listV most true (prtR X.length fun i => (X.getD i Prt.zero).rvs)).length fun i => ((listV most true (prtR X.length fun i => (X.getD i Prt.zero).rvs)).getD i Con.zero).rvs) = true, (∀ (i : Nat), i < X.length → (fun i => (X.getD i Prt.zero).rvs) i = (Prt.ofR ((fun i => (X.getD i Prt.zero).rvs) i)).rvs) ∧ (∀ (p : Prt), (p ∈ prtR X.length fun i => (X.getD i Prt.zero).rvs) → p.ok) ∧ (1 : Int) ≤ most ∧ most ≤ (100 : Int) ∧ X.length ≤ (1000 : Nat), Dec (pr.tmod (8 : Int) == (5 : Int)) false, Dec (pr.tmod (8 : Int) == (4 : Int)) false, Dec (pr.tmod (8 : Int) == (3 : Int)) false, Dec (pr.tmod (8 : Int) == (2 : Int)) false, Dec (pr.tmod (8 : Int) == (1 : Int)) false, Dec (pr.tmod (8 : Int) == (0 : Int)) false, (8 : Int) ≠ (0 : Int)] (by kernel_rfl) ⟨?_, ?_, ?_, ?_, d6, d5, d4, d3, d2, d1, (?_ : (8 : Int) ≠ (0 : Int))⟩))))))
  all_goals first | (first | (with_reducible rfl) | (with_reducible exact ⟨rfl, rfl⟩) | exact ⟨p1, p2⟩ | (exact (by decide : (8 : Int) ≠ 0)) | exact ⟨fun _ _ => rfl, by rw [prtR_ro]; exact hX, hm1, by omega, by omega⟩ | exact ⟨fun _ _ => rfl, rfl, by rw [consR_ro, prtR_ro]; exact hv⟩ | (simp only [et, prtR_ro, consR_ro, beq_iff_eq, beq_eq_false_iff_ne, ne_eq] at * <;> first | (rw [anyP_1 (by omega)]; done) | (rw [anyP_2 (by omega)]; done) | (rw [anyL_1 (by omega)]; exact ⟨rfl, rfl⟩) | (rw [anyL_2 (by omega) (by omega)]; exact ⟨rfl, rfl⟩) | (rw [anyL_3 (by omega)]; exact ⟨rfl, rfl⟩) | (rw [anyL_4 (by omega) (by omega)]; exact ⟨rfl, rfl⟩)))
noncomputable def bentI (L : List Con) (a : Int) : Nat := ((IntKind.i64.wrap a).tmod (L.length : Int)).toNat
noncomputable def bentP (p : Int) (L : List Con) (f n : Int) : Int := bif decide (0 < L.length) && (f % 8 == 6) then IntKind.i64.wrap (p + IntKind.i64.wrap (n.tmod 2)) else p
noncomputable def bentL (L : List Con) (a f n : Int) : List Con :=
  bif f % 8 == 0 then updE L (bentI L a) (IntKind.i64.wrap ((L.getD (bentI L a) Con.zero).exp + IntKind.i64.wrap (n.tmod 3)))
  else bif f % 8 == 1 then updD L (bentI L a) (IntKind.i64.wrap ((L.getD (bentI L a) Con.zero).dim + IntKind.i64.wrap (n.tmod 3)))
  else bif f % 8 == 2 then updS L (bentI L a) (IntKind.i64.wrap (n.tmod 3))
  else bif f % 8 == 3 then updO L (bentI L a) (!(L.getD (bentI L a) Con.zero).odd)
  else bif decide (f % 8 < 6) then updT L (bentI L a) (IntKind.i64.wrap ((L.getD (bentI L a) Con.zero).oddity + IntKind.i64.wrap (n.tmod 9)))
  else L
theorem bentL_len {L : List Con} {a f n : Int} : (bentL L a f n).length = L.length := by
  unfold bentL
  cases f % 8 == 0
  · cases f % 8 == 1
    · cases f % 8 == 2
      · cases f % 8 == 3
        · cases decide (f % 8 < 6) <;> simp [updT]
        · simp [updO]
      · simp [updS]
    · simp [updD]
  · simp [updE]
theorem bent_0 {L : List Con} {a f n : Int} (h : f % 8 = 0) : bentL L a f n = updE L (bentI L a) (IntKind.i64.wrap ((L.getD (bentI L a) Con.zero).exp + IntKind.i64.wrap (n.tmod 3))) := by unfold bentL; rw [h]; rfl
theorem bent_1 {L : List Con} {a f n : Int} (h : f % 8 = 1) : bentL L a f n = updD L (bentI L a) (IntKind.i64.wrap ((L.getD (bentI L a) Con.zero).dim + IntKind.i64.wrap (n.tmod 3))) := by unfold bentL; rw [h]; rfl
theorem bent_2 {L : List Con} {a f n : Int} (h : f % 8 = 2) : bentL L a f n = updS L (bentI L a) (IntKind.i64.wrap (n.tmod 3)) := by unfold bentL; rw [h]; rfl
theorem bent_3 {L : List Con} {a f n : Int} (h : f % 8 = 3) : bentL L a f n = updO L (bentI L a) (!(L.getD (bentI L a) Con.zero).odd) := by unfold bentL; rw [h]; rfl
theorem bent_4 {L : List Con} {a f n : Int} (h : f % 8 = 4 ∨ f % 8 = 5) : bentL L a f n = updT L (bentI L a) (IntKind.i64.wrap ((L.getD (bentI L a) Con.zero).oddity + IntKind.i64.wrap (n.tmod 9))) := by unfold bentL; rcases h with h | h <;> (rw [h]; rfl)
theorem bent_6 {L : List Con} {a f n : Int} (h : ¬ f % 8 < 6) : bentL L a f n = L := by
  unfold bentL
  rw [beq_eq_false_iff_ne.2 (by omega), beq_eq_false_iff_ne.2 (by omega), beq_eq_false_iff_ne.2 (by omega), beq_eq_false_iff_ne.2 (by omega), decide_eq_false h]; rfl
theorem bentP_y {p f n : Int} {L : List Con} (h : 0 < L.length) (h6 : f % 8 = 6) : bentP p L f n = IntKind.i64.wrap (p + IntKind.i64.wrap (n.tmod 2)) := by unfold bentP; rw [decide_eq_true h, h6]; rfl
theorem bentP_n {p f n : Int} {L : List Con} (h6 : ¬ f % 8 = 6) : bentP p L f n = p := by unfold bentP; rw [beq_eq_false_iff_ne.2 h6, Bool.and_false]; rfl
theorem bentP_0 {p f n : Int} {L : List Con} (h : ¬ 0 < L.length) : bentP p L f n = p := by unfold bentP; rw [decide_eq_false h]; rfl
theorem bentI_b {L : List Con} {a : Int} (ha : U8 a) (h : 0 < L.length) : 0 ≤ (IntKind.i64.wrap a).tmod (L.length : Int) ∧ (IntKind.i64.wrap a).tmod (L.length : Int) < (L.length : Int) := by
  obtain ⟨h1, h2⟩ := ha
  rw [w64 (by omega) (by omega), Int.tmod_eq_emod_of_nonneg h1]
  exact ⟨Int.emod_nonneg _ (by omega), Int.emod_lt_of_pos _ (by omega)⟩
set_option maxHeartbeats 2000000 in
set_option maxRecDepth 100000 in
theorem bent_pure (p : Int) (L : List Con) (a f n : Int) (hn : L.length ≤ 1000) (ha : U8 a) (hf : U8 f) : PureC Tryz.prog [] 45 [.agg [.int .i64 p, roC L], .int .u8 a, .int .u8 f, .int .i8 n] (.agg [.int .i64 (bentP p L f n), roC (bentL L a f n)]) := by
  have ft : f.tmod 8 = f % 8 := Int.tmod_eq_emod_of_nonneg hf.1; have f7 : 0 ≤ f % 8 ∧ f % 8 < 8 := (by omega); have hb := bentI_b (L := L) ha; have lE : ∀ v, (updE L (bentI L a) v).length = L.length := (fun v => by simp [updE]); have lD : ∀ v, (updD L (bentI L a) v).length = L.length := (fun v => by simp [updD]); have lS : ∀ v, (updS L (bentI L a) v).length = L.length := (fun v => by simp [updS]); have lO : ∀ v, (updO L (bentI L a) v).length = L.length := (fun v => by simp [updO]); have lT : ∀ v, (updT L (bentI L a) v).length = L.length := (fun v => by simp [updT])
  have rr := fun (tp : List Bool) (ms : List Prop) h hm => pure_run evOk (callF_ok evOk (noOrc_ok _ _) 8) Tryz.func45 (A := [.agg [.int .i64 p, roC L], .int .u8 a, .int .u8 f, .int .i8 n]) rfl none_ann rfl rfl evNg (tabs := []) (R := .agg [.int .i64 (bentP p L f n), roC (bentL L a f n)]) (tp := tp) (ms := ms) h hm
  refine Or.elim (Bool.eq_false_or_eq_true (L.length.beq (0 : Nat))) (fun d1 => rr [true] [p = bentP p L f n, (bentL L a f n).length = (0 : Nat), p = p, ∀ (i : Nat), i < L.length → (rws L) i = (Con.ofR ((rws L) i)).rvs, Dec (L.length.beq (0 : Nat)) true] (by kernel_rfl) ⟨?_, ?_, ?_, ?_, d1⟩)
           (fun d1 => Or.elim (Bool.eq_false_or_eq_true ((↑L.length : Int) == (0 : Int))) (fun d2 => rr [false, true] [p = bentP p L f n, L.length = (bentL L a f n).length ∧ L.length = (consR L.length (rws L)).length ∧ ∀ (i : Nat), i < L.length → (fun i => ((bentL L a f n).getD i Con.zero).rvs) i = ((consR L.length (rws L)).getD i Con.zero).rvs, Dec ((↑L.length : Int) == (0 : Int)) true, p = p, (0 : Nat) < L.length ∧ L.length ≤ (1000000 : Nat), ∀ (i : Nat), i < L.length → (rws L) i = (Con.ofR ((rws L) i)).rvs, Dec (L.length.beq (0 : Nat)) false] (by kernel_rfl) ⟨?_, ?_, d2, ?_, ?_, ?_, d1⟩)
           (fun d2 => Or.elim (Bool.eq_false_or_eq_true (f.tmod (8 : Int) == (0 : Int))) (fun d3 => rr [false, false, true] [p = bentP p L f n, L.length = (bentL L a f n).length ∧ L.length = (updE (consR L.length (rws L)) ((IntKind.i64.wrap a).tmod (↑L.length : Int)).toNat (IntKind.i64.wrap (((consR L.length (rws L)).getD ((IntKind.i64.wrap a).tmod (↑L.length : Int)).toNat Con.zero).exp + IntKind.i64.wrap (n.tmod (3 : Int))))).length ∧ ∀ (i : Nat), i < L.length → (fun i => ((bentL L a f n).getD i Con.zero).rvs) i = ((updE (consR L.length (rws L)) ((IntKind.i64.wrap a).tmod (↑L.length : Int)).toNat (IntKind.i64.wrap (((consR L.length (rws L)).getD ((IntKind.i64.wrap a).tmod (↑L.length : Int)).toNat Con.zero).exp + IntKind.i64.wrap (n.tmod (3 : Int))))).getD i Con.zero).rvs, ((IntKind.i64.wrap a).tmod (↑L.length : Int)).toNat < (consR L.length (rws L)).length, (3 : Int) ≠ (0 : Int), ((IntKind.i64.wrap a).tmod (↑L.length : Int)).toNat < (consR L.length (rws L)).length, Dec (f.tmod (8 : Int) == (0 : Int)) true, (8 : Int) ≠ (0 : Int), (0 : Int) ≤ (IntKind.i64.wrap a).tmod (↑L.length : Int) ∧ (IntKind.i64.wrap a).tmod (↑L.length : Int) < (↑L.length : Int), (↑L.length : Int) ≠ (0 : Int), Dec ((↑L.length : Int) == (0 : Int)) false, p = p, (0 : Nat) < L.length ∧ L.length ≤ (1000000 : Nat), ∀ (i : Nat), i < L.length → (rws L) i = (Con.ofR ((rws L) i)).rvs, Dec (L.length.beq (0 : Nat)) false] (by kernel_rfl) ⟨?_, ?_, ?_, ?_, ?_, d3, ?_, ?_, ?_, d2, ?_, ?_, ?_, d1⟩)
           (fun d3 => Or.elim (Bool.eq_false_or_eq_true (f.tmod (8 : Int) == (1 : Int))) (fun d4 => rr [false, false, false, true] [p = bentP p L f n, L.length = (bentL L a f n).length ∧ L.length = (updD (consR L.length (rws L)) ((IntKind.i64.wrap a).tmod (↑L.length : Int)).toNat (IntKind.i64.wrap (((consR L.length (rws L)).getD ((IntKind.i64.wrap a).tmod (↑L.length : Int)).toNat Con.zero).dim + IntKind.i64.wrap (n.tmod (3 : Int))))).length ∧ ∀ (i : Nat), i < L.length → (fun i => ((bentL L a f n).getD i Con.zero).rvs) i = ((updD (consR L.length (rws L)) ((IntKind.i64.wrap a).tmod (↑L.length : Int)).toNat (IntKind.i64.wrap (((consR L.length (rws L)).getD ((IntKind.i64.wrap a).tmod (↑L.length : Int)).toNat Con.zero).dim + IntKind.i64.wrap (n.tmod (3 : Int))))).getD i Con.zero).rvs, ((IntKind.i64.wrap a).tmod (↑L.length : Int)).toNat < (consR L.length (rws L)).length, (3 : Int) ≠ (0 : Int), ((IntKind.i64.wrap a).tmod (↑L.length : Int)).toNat < (consR L.length (rws L)).length, Dec (f.tmod (8 : Int) == (1 : Int)) true, Dec (f.tmod (8 : Int) == (0 : Int)) false, (8 : Int) ≠ (0 : Int), (0 : Int) ≤ (IntKind.i64.wrap a).tmod (↑L.length : Int) ∧ (IntKind.i64.wrap a).tmod (↑L.length : Int) < (↑L.length : Int), (↑L.length : Int) ≠ (0 : Int), Dec ((↑L.length : Int) == (0 : Int)) false, p = p, (0 : Nat) < L.length ∧ L.length ≤ (1000000 : Nat), ∀ (i : Nat), i < L.length → (rws L) i = (Con.ofR ((rws L) i)).rvs, Dec (L.length.beq (0 : Nat)) false] (by kernel_rfl) ⟨?_, ?_, ?_, ?_, ?_, d4, d3, ?_, ?_, ?_, d2, ?_, ?_, ?_, d1⟩)
           (fun d4 => Or.elim (Bool.eq_false_or_eq_true (f.tmod (8 : Int) == (2 : Int))) (fun d5 => rr [false, false, false, false, true] [p = bentP p L f n, L.length = (bentL L a f n).length ∧ L.length = (updS (consR L.length (rws L)) ((IntKind.i64.wrap a).tmod (↑L.length : Int)).toNat (IntKind.i64.wrap (n.tmod (3 : Int)))).length ∧ ∀ (i : Nat), i < L.length → (fun i => ((bentL L a f n).getD i Con.zero).rvs) i = ((updS (consR L.length (rws L)) ((IntKind.i64.wrap a).tmod (↑L.length : Int)).toNat (IntKind.i64.wrap (n.tmod (3 : Int)))).getD i Con.zero).rvs, ((IntKind.i64.wrap a).tmod (↑L.length : Int)).toNat < (consR L.length (rws L)).length, (3 : Int) ≠ (0 : Int), Dec (f.tmod (8 : Int) == (2 : Int)) true, Dec (f.tmod (8 : Int) == (1 : Int)) false, Dec (f.tmod (8 : Int) == (0 : Int)) false, (8 : Int) ≠ (0 : Int), (0 : Int) ≤ (IntKind.i64.wrap a).tmod (↑L.length : Int) ∧ (IntKind.i64.wrap a).tmod (↑L.length : Int) < (↑L.length : Int), (↑L.length : Int) ≠ (0 : Int), Dec ((↑L.length : Int) == (0 : Int)) false, p = p, (0 : Nat) < L.length ∧ L.length ≤ (1000000 : Nat), ∀ (i : Nat), i < L.length → (rws L) i = (Con.ofR ((rws L) i)).rvs, Dec (L.length.beq (0 : Nat)) false] (by kernel_rfl) ⟨?_, ?_, ?_, ?_, d5, d4, d3, ?_, ?_, ?_, d2, ?_, ?_, ?_, d1⟩)
           (fun d5 => Or.elim (Bool.eq_false_or_eq_true (f.tmod (8 : Int) == (3 : Int))) (fun d6 => rr [false, false, false, false, false, true] [p = bentP p L f n, L.length = (bentL L a f n).length ∧ L.length = (updO (consR L.length (rws L)) ((IntKind.i64.wrap a).tmod (↑L.length : Int)).toNat !((consR L.length (rws L)).getD ((IntKind.i64.wrap a).tmod (↑L.length : Int)).toNat Con.zero).odd).length ∧ ∀ (i : Nat), i < L.length → (fun i => ((bentL L a f n).getD i Con.zero).rvs) i = ((updO (consR L.length (rws L)) ((IntKind.i64.wrap a).tmod (↑L.length : Int)).toNat !((consR L.length (rws L)).getD ((IntKind.i64.wrap a).tmod (↑L.length : Int)).toNat Con.zero).odd).getD i Con.zero).rvs, ((IntKind.i64.wrap a).tmod (↑L.length : Int)).toNat < (consR L.length (rws L)).length, ((IntKind.i64.wrap a).tmod (↑L.length : Int)).toNat < (consR L.length (rws L)).length, Dec (f.tmod (8 : Int) == (3 : Int)) true, Dec (f.tmod (8 : Int) == (2 : Int)) false, Dec (f.tmod (8 : Int) == (1 : Int)) false, Dec (f.tmod (8 : Int) == (0 : Int)) false, (8 : Int) ≠ (0 : Int), (0 : Int) ≤ (IntKind.i64.wrap a).tmod (↑L.length : Int) ∧ (IntKind.i64.wrap a).tmod (↑L.length : Int) < (↑L.length : Int), (↑L.length : Int) ≠ (0 : Int), Dec ((↑L.length : Int) == (0 : Int)) false, p = p, (0 : Nat) < L.length ∧ L.length ≤ (1000000 : Nat), ∀ (i : Nat), i < L.length → (rws L) i = (Con.ofR ((rws L) i)).rvs, Dec (L.length.beq (0 : Nat)) false] (by kernel_rfl) ⟨?_, ?_, ?_, ?_, d6, d5, d4, d3, ?_, ?_, ?_, d2, ?_, ?_, ?_, d1⟩)
           (fun d6 => Or.elim (Bool.eq_false_or_eq_true (f.tmod (8 : Int) == (4 : Int))) (fun d7 => rr [false, false, false, false, false, false, true, true] [p = bentP p L f n, L.length = (bentL L a f n).length ∧ L.length = (updT (consR L.length (rws L)) ((IntKind.i64.wrap a).tmod (↑L.length : Int)).toNat (IntKind.i64.wrap (((consR L.length (rws L)).getD ((IntKind.i64.wrap a).tmod (↑L.length : Int)).toNat Con.zero).oddity + IntKind.i64.wrap (n.tmod (9 : Int))))).length ∧ ∀ (i : Nat), i < L.length → (fun i => ((bentL L a f n).getD i Con.zero).rvs) i = ((updT (consR L.length (rws L)) ((IntKind.i64.wrap a).tmod (↑L.length : Int)).toNat (IntKind.i64.wrap (((consR L.length (rws L)).getD ((IntKind.i64.wrap a).tmod (↑L.length : Int)).toNat Con.zero).oddity + IntKind.i64.wrap (n.tmod (9 : Int))))).getD i Con.zero).rvs, ((IntKind.i64.wrap a).tmod (↑L.length : Int)).toNat < (consR L.length (rws L)).length, (9 : Int) ≠ (0 : Int), ((IntKind.i64.wrap a).tmod (↑L.length : Int)).toNat < (consR L.length (rws L)).length, Dec (f.tmod (8 : Int) == (4 : Int)) true, Dec (f.tmod (8 : Int) == (4 : Int)) true, Dec (f.tmod (8 : Int) == (3 : Int)) false, Dec (f.tmod (8 : Int) == (2 : Int)) false, Dec (f.tmod (8 : Int) == (1 : Int)) false, Dec (f.tmod (8 : Int) == (0 : Int)) false, (8 : Int) ≠ (0 : Int), (0 : Int) ≤ (IntKind.i64.wrap a).tmod (↑L.length : Int) ∧ (IntKind.i64.wrap a).tmod (↑L.length : Int) < (↑L.length : Int), (↑L.length : Int) ≠ (0 : Int), Dec ((↑L.length : Int) == (0 : Int)) false, p = p, (0 : Nat) < L.length ∧ L.length ≤ (1000000 : Nat), ∀ (i : Nat), i < L.length → (rws L) i = (Con.ofR ((rws L) i)).rvs, Dec (L.length.beq (0 : Nat)) false] (by kernel_rfl) ⟨?_, ?_, ?_, ?_, ?_, d7, d7, d6, d5, d4, d3, ?_, ?_, ?_, d2, ?_, ?_, ?_, d1⟩)
           (fun d7 => Or.elim (Bool.eq_false_or_eq_true (f.tmod (8 : Int) == (5 : Int))) (fun d8 => rr [false, false, false, false, false, false, false, true] [p = bentP p L f n, L.length = (bentL L a f n).length ∧ L.length = (updT (consR L.length (rws L)) ((IntKind.i64.wrap a).tmod (↑L.length : Int)).toNat (IntKind.i64.wrap (((consR L.length (rws L)).getD ((IntKind.i64.wrap a).tmod (↑L.length : Int)).toNat Con.zero).oddity + IntKind.i64.wrap (n.tmod (9 : Int))))).length ∧ ∀ (i : Nat), i < L.length → (fun i => ((bentL L a f n).getD i Con.zero).rvs) i = ((updT (consR L.length (rws L)) ((IntKind.i64.wrap a).tmod (↑L.length : Int)).toNat (IntKind.i64.wrap (((consR L.length (rws L)).getD ((IntKind.i64.wrap a).tmod (↑L.length : Int)).toNat Con.zero).oddity + IntKind.i64.wrap (n.tmod (9 : Int))))).getD i Con.zero).rvs, ((IntKind.i64.wrap a).tmod (↑L.length : Int)).toNat < (consR L.length (rws L)).length, (9 : Int) ≠ (0 : Int), ((IntKind.i64.wrap a).tmod (↑L.length : Int)).toNat < (consR L.length (rws L)).length, Dec (f.tmod (8 : Int) == (5 : Int)) true, Dec (f.tmod (8 : Int) == (4 : Int)) false, Dec (f.tmod (8 : Int) == (3 : Int)) false, Dec (f.tmod (8 : Int) == (2 : Int)) false, Dec (f.tmod (8 : Int) == (1 : Int)) false, Dec (f.tmod (8 : Int) == (0 : Int)) false, (8 : Int) ≠ (0 : Int), (0 : Int) ≤ (IntKind.i64.wrap a).tmod (↑L.length : Int) ∧ (IntKind.i64.wrap a).tmod (↑L.length : Int) < (↑L.length : Int), (↑L.length : Int) ≠ (0 : Int), Dec ((↑L.length : Int) == (0 : Int)) false, p = p, (0 : Nat) < L.length ∧ L.length ≤ (1000000 : Nat), ∀ (i : Nat), i < L.length → (rws L) i = (Con.ofR ((rws L) i)).rvs, Dec (L.length.beq (0 : Nat)) false] (by kernel_rfl) ⟨?_, ?_, ?_, ?_, ?_, d8, d7, d6, d5, d4, d3, ?_, ?_, ?_, d2, ?_, ?_, ?_, d1⟩)
           (fun d8 => Or.elim (Bool.eq_false_or_eq_true (f.tmod (8 : Int) == (6 : Int))) (fun d9 => rr [false, false, false, false, false, false, false, false, true] [IntKind.i64.wrap (p + IntKind.i64.wrap (n.tmod (2 : Int))) = bentP p L f n, L.length = (bentL L a f n).length ∧ L.length = (consR L.length (rws L)).length ∧ ∀ (i : Nat), i < L.length → (fun i => ((bentL L a f n).getD i Con.zero).rvs) i = ((consR L.length (rws L)).getD i Con.zero).rvs, (2 : Int) ≠ (0 : Int), Dec (f.tmod (8 : Int) == (6 : Int)) true, Dec (f.tmod (8 : Int) == (5 : Int)) false, Dec (f.tmod (8 : Int) == (4 : Int)) false, Dec (f.tmod (8 : Int) == (3 : Int)) false, Dec (f.tmod (8 : Int) == (2 : Int)) false, Dec (f.tmod (8 : Int) == (1 : Int)) false, Dec (f.tmod (8 : Int) == (0 : Int)) false, (8 : Int) ≠ (0 : Int), (0 : Int) ≤ (IntKind.i64.wrap a).tmod (↑L.length : Int) ∧ (IntKind.i64.wrap a).tmod (↑L.length : Int) < (↑L.length : Int), (↑L.length : Int) ≠ (0 : Int), Dec ((↑L.length : Int) == (0 : Int)) false, p = p, (0 : Nat) < L.length ∧ L.length ≤ (1000000 : Nat), ∀ (i : Nat), i < L.length → (rws L) i = (Con.ofR ((rws L) i)).rvs, Dec (L.length.beq (0 : Nat)) false] (by kernel_rfl) ⟨?_, ?_, ?_, d9, d8, d7, d6, d5, d4, d3, ?_, ?_, ?_, d2, ?_, ?_, ?_, d1⟩)
           (fun d9 => rr [false, false, false, false, false, false, false, false, false] [p = bentP p L f n, L.length = (bentL L a f n).length ∧ L.length = (consR L.length (rws L)).length ∧ ∀ (i : Nat), i < L.length → (fun i => ((bentL L a f n).getD i Con.zero).rvs) i = ((consR L.length (rws L)).getD i Con.zero).rvs, Dec (f.tmod (8 : Int) == (6 : Int)) false, Dec (f.tmod (8 : Int) == (5 : Int)) false, Dec (f.tmod (8 : Int) == (4 : Int)) false, Dec (f.tmod (8 : Int) == (3 : Int)) false, Dec (f.tmod (8 : Int) == (2 : Int)) false, Dec (f.tmod (8 : Int) == (1 : Int)) false, Dec (f.tmod (8 : Int) == (0 : Int)) false, (8 : Int) ≠ (0 : Int), (0 : Int) ≤ (IntKind.i64.wrap a).tmod (↑L.length : Int) ∧ (IntKind.i64.wrap a).tmod (↑L.length : Int) < (↑L.length : Int), (↑L.length : Int) ≠ (0 : Int), Dec ((↑L.length : Int) == (0 : Int)) false, p = p, (0 : Nat) < L.length ∧ L.length ≤ (1000000 : Nat), ∀ (i : Nat), i < L.length → (rws L) i = (Con.ofR ((rws L) i)).rvs, Dec (L.length.beq (0 : Nat)) false] (by kernel_rfl) ⟨?_, ?_, d9, d8, d7, d6, d5, d4, d3, ?_, ?_, ?_, d2, ?_, ?_, ?_, d1⟩)))))))))
  all_goals first | (first | (with_reducible rfl) | (with_reducible exact ⟨rfl, rfl⟩) | exact fun _ _ => rfl | (exact (by decide : (8 : Int) ≠ 0)) | (exact (by decide : (3 : Int) ≠ 0)) | (exact (by decide : (9 : Int) ≠ 0)) | (exact (by decide : (2 : Int) ≠ 0)) | (simp only [ft, consR_ro, Nat.beq_eq_true_eq, beq_iff_eq, beq_eq_false_iff_ne, ne_eq] at * <;> (have e0 : L.length = 0 ∨ 0 < L.length := Nat.eq_zero_or_pos _); first | omega | (have h0 := Nat.ne_of_beq_eq_false d1; exact ⟨by omega, by omega⟩) | (have h0 := Nat.ne_of_beq_eq_false d1; exact hb (by omega)) | (have h0 := Nat.ne_of_beq_eq_false d1; have := hb (by omega); omega) | (have h0 := Nat.ne_of_beq_eq_false d1; omega) | (have h0 := Nat.eq_of_beq_eq_true d1; first | (rw [bentP_0 (by omega)]; done) | (rw [bentL_len]; exact h0)) | (rw [bentP_n (by omega)]; done) | (have h0 := Nat.ne_of_beq_eq_false d1; rw [bentP_y (by omega) (by omega)]; done) | (rw [bent_0 (by omega)]; exact ⟨(lE _).symm, (lE _).symm, fun _ _ => rfl⟩) | (rw [bent_1 (by omega)]; exact ⟨(lD _).symm, (lD _).symm, fun _ _ => rfl⟩) | (rw [bent_2 (by omega)]; exact ⟨(lS _).symm, (lS _).symm, fun _ _ => rfl⟩) | (rw [bent_3 (by omega)]; exact ⟨(lO _).symm, (lO _).symm, fun _ _ => rfl⟩) | (rw [bent_4 (by omega)]; exact ⟨(lT _).symm, (lT _).symm, fun _ _ => rfl⟩) | (rw [bent_6 (by omega)]; exact ⟨by trivial, by trivial, fun _ _ => rfl⟩) | (exfalso; have h0 := Nat.ne_of_beq_eq_false d1; omega)))
end Go.Proofs.YtcfdaddablojlaaGreatDoor.S

namespace Go.Proofs.YtcfdaddablojlaaGreatDoor.S
open Go.QfSy Go.RowKit
theorem canM_len {L : List Con} : (canM L).length = L.length := by unfold canM; rw [canG_len, fuseM_len]
theorem anyL_len' {pr : Int} {X : List Prt} {most : Int} : (anyL pr X most).length ≤ X.length + 1 := by
  have h1 := listV_len (most := most) (two := false) (X := X)
  have h2 := listV_len (most := most) (two := true) (X := X)
  unfold anyL
  cases decide (pr % 8 < 3)
  · cases decide (pr % 8 < 5)
    · cases pr % 8 == 5
      · simp only [cond_false]; rw [canM_len]; exact h2
      · simp only [cond_false, cond_true]; rw [fuseM_len]; exact h2
    · exact h2
  · exact h1
end Go.Proofs.YtcfdaddablojlaaGreatDoor.S

namespace Go.Proofs.YtcfdaddablojlaaGreatDoor.S
open Go.QfSy Go.RowKit
noncomputable def entsShapes : List OEnt := [
  ⟨38, [], fun A => match A with
    | [.agg [.int .i64 p, .sl n 5 row]] => some (.bool (val2M p (consR n row)), [(∀ i, i < n → row i = (Con.ofR (row i)).rvs) ∧ n ≤ 1000])
    | _ => none⟩,
  ⟨39, [], fun A => match A with
    | [.agg [.int .i64 p, .sl n 5 row]] => some (.bool (val2M p (consR n row)), [(∀ i, i < n → row i = (Con.ofR (row i)).rvs) ∧ n ≤ 1000])
    | _ => none⟩,
  ⟨35, [], fun A => match A with
    | [.agg [.int .i64 p, .sl n 5 row]] => some (.bool (fusM p (consR n row)), [(∀ i, i < n → row i = (Con.ofR (row i)).rvs) ∧ n ≤ 1000])
    | _ => none⟩,
  ⟨40, [], fun A => match A with
    | [.agg [.int .i64 p, .sl n 5 row]] => some (.bool (fusM p (consR n row)), [(∀ i, i < n → row i = (Con.ofR (row i)).rvs) ∧ n ≤ 1000])
    | _ => none⟩,
  ⟨41, [], fun A => match A with
    | [.agg [.int .i64 p, .sl n 5 row]] => some (.bool (icM p (consR n row)), [(∀ i, i < n → row i = (Con.ofR (row i)).rvs) ∧ n ≤ 1000])
    | _ => none⟩,
  ⟨42, [], fun A => match A with
    | [.agg [.int .i64 p, .sl n 5 row]] => some (.bool (icM p (consR n row)), [(∀ i, i < n → row i = (Con.ofR (row i)).rvs) ∧ n ≤ 1000])
    | _ => none⟩,
  ⟨46, [], fun A => match A with
    | [.agg [.int .u8 pr, .sl n 5 row], .int .i64 most] => some (.agg [.int .i64 (anyP pr), roC (anyL pr (prtR n row) most)], [(∀ i, i < n → row i = (Prt.ofR (row i)).rvs) ∧ U8 pr ∧ (∀ p ∈ prtR n row, p.ok) ∧ n ≤ 900 ∧ 1 ≤ most ∧ most ≤ 8])
    | _ => none⟩,
  ⟨45, [], fun A => match A with
    | [.agg [.int .i64 p, .sl n 5 row], .int .u8 a, .int .u8 f, .int .i8 m] => some (.agg [.int .i64 (bentP p (consR n row) f m), roC (bentL (consR n row) a f m)], [(∀ i, i < n → row i = (Con.ofR (row i)).rvs) ∧ n ≤ 1000 ∧ U8 a ∧ U8 f])
    | _ => none⟩,
  ⟨17, tabs, fun A => match A with
    | [] => some (.bool true, [])
    | _ => none⟩]
theorem entsShapes_ok : ∀ e ∈ entsShapes, EntOk Tryz.prog e := by
  intro e he
  simp only [entsShapes, List.mem_cons, List.not_mem_nil, or_false] at he
  rcases he with rfl | rfl | rfl | rfl | rfl | rfl | rfl | rfl | rfl
  all_goals
    intro A R ms h hm
    simp only at h
    split at h
    all_goals first | (cases h; done) | cases h
  · obtain ⟨h1, h2⟩ := all_one hm
    exact PureC.imp (tvalid_pure _ _ (by rw [consR_len]; exact h2)) (.cons (.agg (.cons .same (.cons (.con h1) .nil))) .nil)
  · obtain ⟨h1, h2⟩ := all_one hm
    exact PureC.imp (val2_pure _ _ (by rw [consR_len]; exact h2)) (.cons (.agg (.cons .same (.cons (.con h1) .nil))) .nil)
  · obtain ⟨h1, h2⟩ := all_one hm
    exact PureC.imp (tfused_pure _ _ (by rw [consR_len]; exact h2)) (.cons (.agg (.cons .same (.cons (.con h1) .nil))) .nil)
  · obtain ⟨h1, h2⟩ := all_one hm
    exact PureC.imp (rfused_pure _ _ (by rw [consR_len]; exact h2)) (.cons (.agg (.cons .same (.cons (.con h1) .nil))) .nil)
  · obtain ⟨h1, h2⟩ := all_one hm
    exact PureC.imp (tic_pure _ _ (by rw [consR_len]; exact h2)) (.cons (.agg (.cons .same (.cons (.con h1) .nil))) .nil)
  · obtain ⟨h1, h2⟩ := all_one hm
    exact PureC.imp (ric_pure _ _ (by rw [consR_len]; exact h2)) (.cons (.agg (.cons .same (.cons (.con h1) .nil))) .nil)
  · obtain ⟨h1, h2, h3, h4, h5, h6⟩ := all_one hm
    exact PureC.imp (any_pure _ _ _ h2 h3 (by rw [prtR_len]; exact h4) h5 h6) (.cons (.agg (.cons .same (.cons (.prt h1) .nil))) .same)
  · obtain ⟨h1, h2, h3, h4⟩ := all_one hm
    exact PureC.imp (bent_pure _ _ _ _ _ (by rw [consR_len]; exact h2) h3 h4) (.cons (.agg (.cons .same (.cons (.con h1) .nil))) .same)
  · exact awake_pure
set_option maxHeartbeats 2000000 in
set_option maxRecDepth 100000 in
theorem trainShapes_pure (p : Int) (L : List Con) (kx : Int) (X : List Prt) (a f n : Int) (made : Bool) (hk : U8 kx) (hX : ∀ p ∈ X, p.ok) (ha : U8 a) (hf : U8 f) : PureC Tryz.prog tabs 13 [.agg [.int .i64 p, roC L], .agg [.int .u8 kx, roP X], .int .u8 a, .int .u8 f, .int .i8 n, .bool made] (.bool true) := by
  have l2 := anyL_len' (pr := kx) (most := 8) (X := X); have l3 := bentL_len (L := anyL kx X 8) (a := a) (f := f) (n := n)
  have rr := fun (tp : List Bool) (ms : List Prop) h hm => pure_run evOk (callF_ok evOk (orcOf_ok entsShapes_ok) 8) Tryz.func13 (A := [.agg [.int .i64 p, roC L], .agg [.int .u8 kx, roP X], .int .u8 a, .int .u8 f, .int .i8 n, .bool made]) rfl none_ann rfl rfl evNg (tabs := tabs) (R := .bool true) (tp := tp) (ms := ms) h hm
  refine Or.elim (Bool.eq_false_or_eq_true (decide ((↑L.length : Int) > (20 : Int)))) (fun d1 => rr [true] [true = true, Dec (decide ((↑L.length : Int) > (20 : Int))) true] (by kernel_rfl) ⟨?_, d1⟩)
           (fun d1 => Or.elim (Bool.eq_false_or_eq_true (decide ((↑X.length : Int) > (20 : Int)))) (fun d2 => rr [false, true] [true = true, Dec (decide ((↑X.length : Int) > (20 : Int))) true, Dec (decide ((↑L.length : Int) > (20 : Int))) false] (by kernel_rfl) ⟨?_, d2, d1⟩)
           (fun d2 => Or.elim (Bool.eq_false_or_eq_true (made)) (fun d3 => Or.elim (Bool.eq_false_or_eq_true (val2M (bentP (anyP kx) (consR (anyL kx (prtR X.length fun i => (X.getD i Prt.zero).rvs) (8 : Int)).length fun i => ((anyL kx (prtR X.length fun i => (X.getD i Prt.zero).rvs) (8 : Int)).getD i Con.zero).rvs) f n) (consR (bentL (consR (anyL kx (prtR X.length fun i => (X.getD i Prt.zero).rvs) (8 : Int)).length fun i => ((anyL kx (prtR X.length fun i => (X.getD i Prt.zero).rvs) (8 : Int)).getD i Con.zero).rvs) a f n).length fun i => ((bentL (consR (anyL kx (prtR X.length fun i => (X.getD i Prt.zero).rvs) (8 : Int)).length fun i => ((anyL kx (prtR X.length fun i => (X.getD i Prt.zero).rvs) (8 : Int)).getD i Con.zero).rvs) a f n).getD i Con.zero).rvs) == val2M (bentP (anyP kx) (consR (anyL kx (prtR X.length fun i => (X.getD i Prt.zero).rvs) (8 : Int)).length fun i => ((anyL kx (prtR X.length fun i => (X.getD i Prt.zero).rvs) (8 : Int)).getD i Con.zero).rvs) f n) (consR (bentL (consR (anyL kx (prtR X.length fun i => (X.getD i Prt.zero).rvs) (8 : Int)).length fun i => ((anyL kx (prtR X.length fun i => (X.getD i Prt.zero).rvs) (8 : Int)).getD i Con.zero).rvs) a f n).length fun i => ((bentL (consR (anyL kx (prtR X.length fun i => (X.getD i Prt.zero).rvs) (8 : Int)).length fun i => ((anyL kx (prtR X.length fun i => (X.getD i Prt.zero).rvs) (8 : Int)).getD i Con.zero).rvs) a f n).getD i Con.zero).rvs))) (fun d4 => Or.elim (Bool.eq_false_or_eq_true (fusM (bentP (anyP kx) (consR (anyL kx (prtR X.length fun i => (X.getD i Prt.zero).rvs) (8 : Int)).length fun i => ((anyL kx (prtR X.length fun i => (X.getD i Prt.zero).rvs) (8 : Int)).getD i Con.zero).rvs) f n) (consR (bentL (consR (anyL kx (prtR X.length fun i => (X.getD i Prt.zero).rvs) (8 : Int)).length fun i => ((anyL kx (prtR X.length fun i => (X.getD i Prt.zero).rvs) (8 : Int)).getD i Con.zero).rvs) a f n).length fun i => ((bentL (consR (anyL kx (prtR X.length fun i => (X.getD i Prt.zero).rvs) (8 : Int)).length fun i => ((anyL kx (prtR X.length fun i => (X.getD i Prt.zero).rvs) (8 : Int)).getD i Con.zero).rvs) a f n).getD i Con.zero).rvs) == fusM (bentP (anyP kx) (consR (anyL kx (prtR X.length fun i => (X.getD i Prt.zero).rvs) (8 : Int)).length fun i => ((anyL kx (prtR X.length fun i => (X.getD i Prt.zero).rvs) (8 : Int)).getD i Con.zero).rvs) f n) (consR (bentL (consR (anyL kx (prtR X.length fun i => (X.getD i Prt.zero).rvs) (8 : Int)).length fun i => ((anyL kx (prtR X.length fun i => (X.getD i Prt.zero).rvs) (8 : Int)).getD i Con.zero).rvs) a f n).length fun i => ((bentL (consR (anyL kx (prtR X.length fun i => (X.getD i Prt.zero).rvs) (8 : Int)).length fun i => ((anyL kx (prtR X.length fun i => (X.getD i Prt.zero).rvs) (8 : Int)).getD i Con.zero).rvs) a f n).getD i Con.zero).rvs))) (fun d5 => Or.elim (Bool.eq_false_or_eq_true (icM (bentP (anyP kx) (consR (anyL kx (prtR X.length fun i => (X.getD i Prt.zero).rvs) (8 : Int)).length fun i => ((anyL kx (prtR X.length fun i => (X.getD i Prt.zero).rvs) (8 : Int)).getD i Con.zero).rvs) f n) (consR (bentL (consR (anyL kx (prtR X.length fun i => (X.getD i Prt.zero).rvs) (8 : Int)).length fun i => ((anyL kx (prtR X.length fun i => (X.getD i Prt.zero).rvs) (8 : Int)).getD i Con.zero).rvs) a f n).length fun i => ((bentL (consR (anyL kx (prtR X.length fun i => (X.getD i Prt.zero).rvs) (8 : Int)).length fun i => ((anyL kx (prtR X.length fun i => (X.getD i Prt.zero).rvs) (8 : Int)).getD i Con.zero).rvs) a f n).getD i Con.zero).rvs) == icM (bentP (anyP kx) (consR (anyL kx (prtR X.length fun i => (X.getD i Prt.zero).rvs) (8 : Int)).length fun i => ((anyL kx (prtR X.length fun i => (X.getD i Prt.zero).rvs) (8 : Int)).getD i Con.zero).rvs) f n) (consR (bentL (consR (anyL kx (prtR X.length fun i => (X.getD i Prt.zero).rvs) (8 : Int)).length fun i => ((anyL kx (prtR X.length fun i => (X.getD i Prt.zero).rvs) (8 : Int)).getD i Con.zero).rvs) a f n).length fun i => ((bentL (consR (anyL kx (prtR X.length fun i => (X.getD i Prt.zero).rvs) (8 : Int)).length fun i => ((anyL kx (prtR X.length fun i => (X.getD i Prt.zero).rvs) (8 : Int)).getD i Con.zero).rvs) a f n).getD i Con.zero).rvs))) (fun d6 => rr [false, false, true, true, true, true] [true = true, Dec (icM (bentP (anyP kx) (consR (anyL kx (prtR X.length fun i => (X.getD i Prt.zero).rvs) (8 : Int)).length fun i => ((anyL kx (prtR X.length fun i => (X.getD i Prt.zero).rvs) (8 : Int)).getD i Con.zero).rvs) f n) (consR (bentL (consR (anyL kx (prtR X.length fun i => (X.getD i Prt.zero).rvs) (8 : Int)).length fun i => ((anyL kx (prtR X.length fun i => (X.getD i Prt.zero).rvs) (8 : Int)).getD i Con.zero).rvs) a f n).length fun i => ((bentL (consR (anyL kx (prtR X.length fun i => (X.getD i Prt.zero).rvs) (8 : Int)).length fun i => ((anyL kx (prtR X.length fun i => (X.getD i Prt.zero).rvs) (8 : Int)).getD i Con.zero).rvs) a f n).getD i Con.zero).rvs) == icM (bentP (anyP kx) (consR (anyL kx (prtR X.length fun i => (X.getD i Prt.zero).rvs) (8 : Int)).length fun i => ((anyL kx (prtR X.length fun i => (X.getD i Prt.zero).rvs) (8 : Int)).getD i Con.zero).rvs) f n) (consR (bentL (consR (anyL kx (prtR X.length fun i => (X.getD i Prt.zero).rvs) (8 : Int)).length fun i => ((anyL kx (prtR X.length fun i => (X.getD i Prt.zero).rvs) (8 : Int)).getD i Con.zero).rvs) a f n).length fun i => ((bentL (consR (anyL kx (prtR X.length fun i => (X.getD i Prt.zero).rvs) (8 : Int)).length fun i => ((anyL kx (prtR X.length fun i => (X.getD i Prt.zero).rvs) (8 : Int)).getD i Con.zero).rvs) a f n).getD i Con.zero).rvs)) true, (∀ (i : Nat), i < (bentL (consR (anyL kx (prtR X.length fun i => (X.getD i Prt.zero).rvs) (8 : Int)).length fun i => ((anyL kx (prtR X.length fun i => (X.getD i Prt.zero).rvs) (8 : Int)).getD i Con.zero).rvs) a f n).length → (fun i => ((bentL (consR (anyL kx (prtR X.length fun i => (X.getD i Prt.zero).rvs) (8 : Int)).length fun i => ((anyL kx (prtR X.length fun i => (X.getD i Prt.zero).rvs) (8 : Int)).getD i Con.zero).rvs) a f n).getD i Con.zero).rvs) i = (Con.ofR ((fun i => ((bentL (consR (anyL kx (prtR X.length fun i => (X.getD i Prt.zero).rvs) (8 : Int)).length fun i => ((anyL kx (prtR X.length fun i => (X.getD i Prt.zero).rvs) (8 : Int)).getD i Con.zero).rvs) a f n).getD i Con.zero).rvs) i)).rvs) ∧ (bentL (consR (anyL kx (prtR X.length fun i => (X.getD i Prt.zero).rvs) (8 : Int)).length fun i => ((anyL kx (prtR X.length fun i => (X.getD i Prt.zero).rvs) (8 : Int)).getD i Con.zero).rvs) a f n).length ≤ (1000 : Nat), bentP (anyP kx) (consR (anyL kx (prtR X.length fun i => (X.getD i Prt.zero).rvs) (8 : Int)).length fun i => ((anyL kx (prtR X.length fun i => (X.getD i Prt.zero).rvs) (8 : Int)).getD i Con.zero).rvs) f n = bentP (anyP kx) (consR (anyL kx (prtR X.length fun i => (X.getD i Prt.zero).rvs) (8 : Int)).length fun i => ((anyL kx (prtR X.length fun i => (X.getD i Prt.zero).rvs) (8 : Int)).getD i Con.zero).rvs) f n, (bentL (consR (anyL kx (prtR X.length fun i => (X.getD i Prt.zero).rvs) (8 : Int)).length fun i => ((anyL kx (prtR X.length fun i => (X.getD i Prt.zero).rvs) (8 : Int)).getD i Con.zero).rvs) a f n).length = (bentL (consR (anyL kx (prtR X.length fun i => (X.getD i Prt.zero).rvs) (8 : Int)).length fun i => ((anyL kx (prtR X.length fun i => (X.getD i Prt.zero).rvs) (8 : Int)).getD i Con.zero).rvs) a f n).length ∧ (fun i => ((bentL (consR (anyL kx (prtR X.length fun i => (X.getD i Prt.zero).rvs) (8 : Int)).length fun i => ((anyL kx (prtR X.length fun i => (X.getD i Prt.zero).rvs) (8 : Int)).getD i Con.zero).rvs) a f n).getD i Con.zero).rvs) = fun i => ((bentL (consR (anyL kx (prtR X.length fun i => (X.getD i Prt.zero).rvs) (8 : Int)).length fun i => ((anyL kx (prtR X.length fun i => (X.getD i Prt.zero).rvs) (8 : Int)).getD i Con.zero).rvs) a f n).getD i Con.zero).rvs, (∀ (i : Nat), i < (bentL (consR (anyL kx (prtR X.length fun i => (X.getD i Prt.zero).rvs) (8 : Int)).length fun i => ((anyL kx (prtR X.length fun i => (X.getD i Prt.zero).rvs) (8 : Int)).getD i Con.zero).rvs) a f n).length → (fun i => ((bentL (consR (anyL kx (prtR X.length fun i => (X.getD i Prt.zero).rvs) (8 : Int)).length fun i => ((anyL kx (prtR X.length fun i => (X.getD i Prt.zero).rvs) (8 : Int)).getD i Con.zero).rvs) a f n).getD i Con.zero).rvs) i = (Con.ofR ((fun i => ((bentL (consR (anyL kx (prtR X.length fun i => (X.getD i Prt.zero).rvs) (8 : Int)).length fun i => ((anyL kx (prtR X.length fun i => (X.getD i Prt.zero).rvs) (8 : Int)).getD i Con.zero).rvs) a f n).getD i Con.zero).rvs) i)).rvs) ∧ (bentL (consR (anyL kx (prtR X.length fun i => (X.getD i Prt.zero).rvs) (8 : Int)).length fun i => ((anyL kx (prtR X.length fun i => (X.getD i Prt.zero).rvs) (8 : Int)).getD i Con.zero).rvs) a f n).length ≤ (1000 : Nat), Dec (fusM (bentP (anyP kx) (consR (anyL kx (prtR X.length fun i => (X.getD i Prt.zero).rvs) (8 : Int)).length fun i => ((anyL kx (prtR X.length fun i => (X.getD i Prt.zero).rvs) (8 : Int)).getD i Con.zero).rvs) f n) (consR (bentL (consR (anyL kx (prtR X.length fun i => (X.getD i Prt.zero).rvs) (8 : Int)).length fun i => ((anyL kx (prtR X.length fun i => (X.getD i Prt.zero).rvs) (8 : Int)).getD i Con.zero).rvs) a f n).length fun i => ((bentL (consR (anyL kx (prtR X.length fun i => (X.getD i Prt.zero).rvs) (8 : Int)).length fun i => ((anyL kx (prtR X.length fun i => (X.getD i Prt.zero).rvs) (8 : Int)).getD i Con.zero).rvs) a f n).getD i Con.zero).rvs) == fusM (bentP (anyP kx) (consR (anyL kx (prtR X.length fun i => (X.getD i Prt.zero).rvs) (8 : Int)).length fun i => ((anyL kx (prtR X.length fun i => (X.getD i Prt.zero).rvs) (8 : Int)).getD i Con.zero).rvs) f n) (consR (bentL (consR (anyL kx (prtR X.length fun i => (X.getD i Prt.zero).rvs) (8 : Int)).length fun i => ((anyL kx (prtR X.length fun i => (X.getD i Prt.zero).rvs) (8 : Int)).getD i Con.zero).rvs) a f n).length fun i => ((bentL (consR (anyL kx (prtR X.length fun i => (X.getD i Prt.zero).rvs) (8 : Int)).length fun i => ((anyL kx (prtR X.length fun i => (X.getD i Prt.zero).rvs) (8 : Int)).getD i Con.zero).rvs) a f n).getD i Con.zero).rvs)) true, (∀ (i : Nat), i < (bentL (consR (anyL kx (prtR X.length fun i => (X.getD i Prt.zero).rvs) (8 : Int)).length fun i => ((anyL kx (prtR X.length fun i => (X.getD i Prt.zero).rvs) (8 : Int)).getD i Con.zero).rvs) a f n).length → (fun i => ((bentL (consR (anyL kx (prtR X.length fun i => (X.getD i Prt.zero).rvs) (8 : Int)).length fun i => ((anyL kx (prtR X.length fun i => (X.getD i Prt.zero).rvs) (8 : Int)).getD i Con.zero).rvs) a f n).getD i Con.zero).rvs) i = (Con.ofR ((fun i => ((bentL (consR (anyL kx (prtR X.length fun i => (X.getD i Prt.zero).rvs) (8 : Int)).length fun i => ((anyL kx (prtR X.length fun i => (X.getD i Prt.zero).rvs) (8 : Int)).getD i Con.zero).rvs) a f n).getD i Con.zero).rvs) i)).rvs) ∧ (bentL (consR (anyL kx (prtR X.length fun i => (X.getD i Prt.zero).rvs) (8 : Int)).length fun i => ((anyL kx (prtR X.length fun i => (X.getD i Prt.zero).rvs) (8 : Int)).getD i Con.zero).rvs) a f n).length ≤ (1000 : Nat), bentP (anyP kx) (consR (anyL kx (prtR X.length fun i => (X.getD i Prt.zero).rvs) (8 : Int)).length fun i => ((anyL kx (prtR X.length fun i => (X.getD i Prt.zero).rvs) (8 : Int)).getD i Con.zero).rvs) f n = bentP (anyP kx) (consR (anyL kx (prtR X.length fun i => (X.getD i Prt.zero).rvs) (8 : Int)).length fun i => ((anyL kx (prtR X.length fun i => (X.getD i Prt.zero).rvs) (8 : Int)).getD i Con.zero).rvs) f n, (bentL (consR (anyL kx (prtR X.length fun i => (X.getD i Prt.zero).rvs) (8 : Int)).length fun i => ((anyL kx (prtR X.length fun i => (X.getD i Prt.zero).rvs) (8 : Int)).getD i Con.zero).rvs) a f n).length = (bentL (consR (anyL kx (prtR X.length fun i => (X.getD i Prt.zero).rvs) (8 : Int)).length fun i => ((anyL kx (prtR X.length fun i => (X.getD i Prt.zero).rvs) (8 : Int)).getD i Con.zero).rvs) a f n).length ∧ (fun i => ((bentL (consR (anyL kx (prtR X.length fun i => (X.getD i Prt.zero).rvs) (8 : Int)).length fun i => ((anyL kx (prtR X.length fun i => (X.getD i Prt.zero).rvs) (8 : Int)).getD i Con.zero).rvs) a f n).getD i Con.zero).rvs) = fun i => ((bentL (consR (anyL kx (prtR X.length fun i => (X.getD i Prt.zero).rvs) (8 : Int)).length fun i => ((anyL kx (prtR X.length fun i => (X.getD i Prt.zero).rvs) (8 : Int)).getD i Con.zero).rvs) a f n).getD i Con.zero).rvs, (∀ (i : Nat), i < (bentL (consR (anyL kx (prtR X.length fun i => (X.getD i Prt.zero).rvs) (8 : Int)).length fun i => ((anyL kx (prtR X.length fun i => (X.getD i Prt.zero).rvs) (8 : Int)).getD i Con.zero).rvs) a f n).length → (fun i => ((bentL (consR (anyL kx (prtR X.length fun i => (X.getD i Prt.zero).rvs) (8 : Int)).length fun i => ((anyL kx (prtR X.length fun i => (X.getD i Prt.zero).rvs) (8 : Int)).getD i Con.zero).rvs) a f n).getD i Con.zero).rvs) i = (Con.ofR ((fun i => ((bentL (consR (anyL kx (prtR X.length fun i => (X.getD i Prt.zero).rvs) (8 : Int)).length fun i => ((anyL kx (prtR X.length fun i => (X.getD i Prt.zero).rvs) (8 : Int)).getD i Con.zero).rvs) a f n).getD i Con.zero).rvs) i)).rvs) ∧ (bentL (consR (anyL kx (prtR X.length fun i => (X.getD i Prt.zero).rvs) (8 : Int)).length fun i => ((anyL kx (prtR X.length fun i => (X.getD i Prt.zero).rvs) (8 : Int)).getD i Con.zero).rvs) a f n).length ≤ (1000 : Nat), Dec (val2M (bentP (anyP kx) (consR (anyL kx (prtR X.length fun i => (X.getD i Prt.zero).rvs) (8 : Int)).length fun i => ((anyL kx (prtR X.length fun i => (X.getD i Prt.zero).rvs) (8 : Int)).getD i Con.zero).rvs) f n) (consR (bentL (consR (anyL kx (prtR X.length fun i => (X.getD i Prt.zero).rvs) (8 : Int)).length fun i => ((anyL kx (prtR X.length fun i => (X.getD i Prt.zero).rvs) (8 : Int)).getD i Con.zero).rvs) a f n).length fun i => ((bentL (consR (anyL kx (prtR X.length fun i => (X.getD i Prt.zero).rvs) (8 : Int)).length fun i => ((anyL kx (prtR X.length fun i => (X.getD i Prt.zero).rvs) (8 : Int)).getD i Con.zero).rvs) a f n).getD i Con.zero).rvs) == val2M (bentP (anyP kx) (consR (anyL kx (prtR X.length fun i => (X.getD i Prt.zero).rvs) (8 : Int)).length fun i => ((anyL kx (prtR X.length fun i => (X.getD i Prt.zero).rvs) (8 : Int)).getD i Con.zero).rvs) f n) (consR (bentL (consR (anyL kx (prtR X.length fun i => (X.getD i Prt.zero).rvs) (8 : Int)).length fun i => ((anyL kx (prtR X.length fun i => (X.getD i Prt.zero).rvs) (8 : Int)).getD i Con.zero).rvs) a f n).length fun i => ((bentL (consR (anyL kx (prtR X.length fun i => (X.getD i Prt.zero).rvs) (8 : Int)).length fun i => ((anyL kx (prtR X.length fun i => (X.getD i Prt.zero).rvs) (8 : Int)).getD i Con.zero).rvs) a f n).getD i Con.zero).rvs)) true, (∀ (i : Nat), i < (bentL (consR (anyL kx (prtR X.length fun i => (X.getD i Prt.zero).rvs) (8 : Int)).length fun i => ((anyL kx (prtR X.length fun i => (X.getD i Prt.zero).rvs) (8 : Int)).getD i Con.zero).rvs) a f n).length → (fun i => ((bentL (consR (anyL kx (prtR X.length fun i => (X.getD i Prt.zero).rvs) (8 : Int)).length fun i => ((anyL kx (prtR X.length fun i => (X.getD i Prt.zero).rvs) (8 : Int)).getD i Con.zero).rvs) a f n).getD i Con.zero).rvs) i = (Con.ofR ((fun i => ((bentL (consR (anyL kx (prtR X.length fun i => (X.getD i Prt.zero).rvs) (8 : Int)).length fun i => ((anyL kx (prtR X.length fun i => (X.getD i Prt.zero).rvs) (8 : Int)).getD i Con.zero).rvs) a f n).getD i Con.zero).rvs) i)).rvs) ∧ (bentL (consR (anyL kx (prtR X.length fun i => (X.getD i Prt.zero).rvs) (8 : Int)).length fun i => ((anyL kx (prtR X.length fun i => (X.getD i Prt.zero).rvs) (8 : Int)).getD i Con.zero).rvs) a f n).length ≤ (1000 : Nat), bentP (anyP kx) (consR (anyL kx (prtR X.length fun i => (X.getD i Prt.zero).rvs) (8 : Int)).length fun i => ((anyL kx (prtR X.length fun i => (X.getD i Prt.zero).rvs) (8 : Int)).getD i Con.zero).rvs) f n = bentP (anyP kx) (consR (anyL kx (prtR X.length fun i => (X.getD i Prt.zero).rvs) (8 : Int)).length fun i => ((anyL kx (prtR X.length fun i => (X.getD i Prt.zero).rvs) (8 : Int)).getD i Con.zero).rvs) f n, (bentL (consR (anyL kx (prtR X.length fun i => (X.getD i Prt.zero).rvs) (8 : Int)).length fun i => ((anyL kx (prtR X.length fun i => (X.getD i Prt.zero).rvs) (8 : Int)).getD i Con.zero).rvs) a f n).length = (bentL (consR (anyL kx (prtR X.length fun i => (X.getD i Prt.zero).rvs) (8 : Int)).length fun i => ((anyL kx (prtR X.length fun i => (X.getD i Prt.zero).rvs) (8 : Int)).getD i Con.zero).rvs) a f n).length ∧ (fun i => ((bentL (consR (anyL kx (prtR X.length fun i => (X.getD i Prt.zero).rvs) (8 : Int)).length fun i => ((anyL kx (prtR X.length fun i => (X.getD i Prt.zero).rvs) (8 : Int)).getD i Con.zero).rvs) a f n).getD i Con.zero).rvs) = fun i => ((bentL (consR (anyL kx (prtR X.length fun i => (X.getD i Prt.zero).rvs) (8 : Int)).length fun i => ((anyL kx (prtR X.length fun i => (X.getD i Prt.zero).rvs) (8 : Int)).getD i Con.zero).rvs) a f n).getD i Con.zero).rvs, (∀ (i : Nat), i < (bentL (consR (anyL kx (prtR X.length fun i => (X.getD i Prt.zero).rvs) (8 : Int)).length fun i => ((anyL kx (prtR X.length fun i => (X.getD i Prt.zero).rvs) (8 : Int)).getD i Con.zero).rvs) a f n).length → (fun i => ((bentL (consR (anyL kx (prtR X.length fun i => (X.getD i Prt.zero).rvs) (8 : Int)).length fun i => ((anyL kx (prtR X.length fun i => (X.getD i Prt.zero).rvs) (8 : Int)).getD i Con.zero).rvs) a f n).getD i Con.zero).rvs) i = (Con.ofR ((fun i => ((bentL (consR (anyL kx (prtR X.length fun i => (X.getD i Prt.zero).rvs) (8 : Int)).length fun i => ((anyL kx (prtR X.length fun i => (X.getD i Prt.zero).rvs) (8 : Int)).getD i Con.zero).rvs) a f n).getD i Con.zero).rvs) i)).rvs) ∧ (bentL (consR (anyL kx (prtR X.length fun i => (X.getD i Prt.zero).rvs) (8 : Int)).length fun i => ((anyL kx (prtR X.length fun i => (X.getD i Prt.zero).rvs) (8 : Int)).getD i Con.zero).rvs) a f n).length ≤ (1000 : Nat), (∀ (i : Nat), i < (anyL kx (prtR X.length fun i => (X.getD i Prt.zero).rvs) (8 : Int)).length → (fun i => ((anyL kx (prtR X.length fun i => (X.getD i Prt.zero).rvs) (8 : Int)).getD i Con.zero).rvs) i = (Con.ofR ((fun i => ((anyL kx (prtR X.length fun i => (X.getD i Prt.zero).rvs) (8 : Int)).getD i Con.zero).rvs) i)).rvs) ∧ (anyL kx (prtR X.length fun i => (X.getD i Prt.zero).rvs) (8 : Int)).length ≤ (1000 : Nat) ∧ U8 a ∧ U8 f, (∀ (i : Nat), i < X.length → (fun i => (X.getD i Prt.zero).rvs) i = (Prt.ofR ((fun i => (X.getD i Prt.zero).rvs) i)).rvs) ∧ U8 kx ∧ (∀ (p : Prt), (p ∈ prtR X.length fun i => (X.getD i Prt.zero).rvs) → p.ok) ∧ X.length ≤ (900 : Nat) ∧ (1 : Int) ≤ (8 : Int) ∧ (8 : Int) ≤ (8 : Int), Dec made true, Dec (decide ((↑X.length : Int) > (20 : Int))) false, Dec (decide ((↑L.length : Int) > (20 : Int))) false] (by kernel_rfl) ⟨?_, d6, ?_, ?_, ?_, ?_, d5, ?_, ?_, ?_, ?_, d4, ?_, ?_, ?_, ?_, ?_, ?_, d3, d2, d1⟩)
           (fun d6 => CtG.no ?_))
           (fun d5 => CtG.no ?_))
           (fun d4 => CtG.no ?_))
           (fun d3 => Or.elim (Bool.eq_false_or_eq_true (val2M p (consR L.length (rws L)) == val2M p (consR L.length (rws L)))) (fun d4 => Or.elim (Bool.eq_false_or_eq_true (fusM p (consR L.length (rws L)) == fusM p (consR L.length (rws L)))) (fun d5 => Or.elim (Bool.eq_false_or_eq_true (icM p (consR L.length (rws L)) == icM p (consR L.length (rws L)))) (fun d6 => rr [false, false, false, true, true, true] [true = true, Dec (icM p (consR L.length (rws L)) == icM p (consR L.length (rws L))) true, (∀ (i : Nat), i < L.length → (rws L) i = (Con.ofR ((rws L) i)).rvs) ∧ L.length ≤ (1000 : Nat), p = p, L.length = L.length ∧ (rws L) = (rws L), (∀ (i : Nat), i < L.length → (rws L) i = (Con.ofR ((rws L) i)).rvs) ∧ L.length ≤ (1000 : Nat), Dec (fusM p (consR L.length (rws L)) == fusM p (consR L.length (rws L))) true, (∀ (i : Nat), i < L.length → (rws L) i = (Con.ofR ((rws L) i)).rvs) ∧ L.length ≤ (1000 : Nat), p = p, L.length = L.length ∧ (rws L) = (rws L), (∀ (i : Nat), i < L.length → (rws L) i = (Con.ofR ((rws L) i)).rvs) ∧ L.length ≤ (1000 : Nat), Dec (val2M p (consR L.length (rws L)) == val2M p (consR L.length (rws L))) true, (∀ (i : Nat), i < L.length → (rws L) i = (Con.ofR ((rws L) i)).rvs) ∧ L.length ≤ (1000 : Nat), p = p, L.length = L.length ∧ (rws L) = (rws L), (∀ (i : Nat), i < L.length → (rws L) i = (Con.ofR ((rws L) i)).rvs) ∧ L.length ≤ (1000 : Nat), Dec made false, Dec (decide ((↑X.length : Int) > (20 : Int))) false, Dec (decide ((↑L.length : Int) > (20 : Int))) false] (by kernel_rfl) ⟨?_, d6, ?_, ?_, ?_, ?_, d5, ?_, ?_, ?_, ?_, d4, ?_, ?_, ?_, ?_, d3, d2, d1⟩)
           (fun d6 => CtG.no ?_))
           (fun d5 => CtG.no ?_))
           (fun d4 => CtG.no ?_))))
  all_goals first | (refine CtG.mk ?_; (first | (simp only [beq_self_eq_true] at *; contradiction) | simp_all)) | (first | (with_reducible rfl) | (with_reducible exact ⟨rfl, rfl⟩) | exact ⟨hk.1, hk.2⟩ | (simp only [prtR_ro, consR_ro, decide_eq_false_iff_not, gt_iff_lt] at * <;> first | trivial | exact ⟨fun _ _ => rfl, by omega⟩ | exact ⟨fun _ _ => rfl, hk, hX, by omega, by decide, by decide⟩ | exact ⟨fun _ _ => rfl, by omega, ha, hf⟩ | exact ⟨trivial, trivial⟩))
end Go.Proofs.YtcfdaddablojlaaGreatDoor.S

namespace Go.Proofs.YtcfdaddablojlaaGreatDoor.trainShapes
open Go.ChangeShapes Go.WideShapes Go.ChangeAt Go.RowKit Go.Joins Go.Deep
open Go.QfSy (Con RV RRel RsRel FzAt roC Fz Tb TabW PureC)
open S
theorem readable : ∀ t ∈ Tryz.f13.params.toList, Tryz.prog.readableRec t = true ∧ t < Tryz.prog.types.size := by
  have h : (Tryz.f13.params.toList.all fun t => Tryz.prog.readableRec t && Nat.blt t Tryz.prog.types.size) = true := by kernel_rfl
  intro t ht
  have := List.all_eq_true.1 h t ht
  simp only [Bool.and_eq_true] at this
  exact ⟨this.1, Nat.le_of_ble_eq_true this.2⟩
set_option maxRecDepth 100000 in
theorem contract (H : Type) (enc : TypeId × Value → H) (W : World) (base : Nat) (args : Array Value) (ds gs : List (DataW H)) (before : List MemPlace)
    (hval : ∀ (j : Nat) t v, Tryz.f13.params[j]? = some t → args[j]? = some v → Value.okWide Tryz.prog W .any base t v)
    (hW : DataW.Whole enc Tryz.prog Tryz.f13.params.toList Rows.trainShapesSpec.vars false W args.toList ds gs before) (hO : TabW tabs W) :
    Calls Tryz.prog 13 args W fun e W' => ∃ v, e = .returned v ∧ Rows.trainShapesSpec.post enc Tryz.prog Tryz.f13 false true false false W args v W' := by
  have hW' := hW
  obtain ⟨p, q, hA0, hV, rfl, hfz, hnd⟩ := hW
  have hA : DataW.TrodAll enc Tryz.prog W 0 (fun _ => true) true Tryz.f13.params.toList args.toList ds p := hA0
  rw [Tryz.params13] at hA hval
  obtain ⟨v0, vs0, d0, ds0, p0, q0, hargs0, rfl, rfl, h0, r0⟩ := trodAll_cons hA
  obtain ⟨v1, vs1, d1, ds1, p1, q1, hargs1, rfl, rfl, h1, r1⟩ := trodAll_cons r0
  obtain ⟨v2, vs2, d2, ds2, p2, q2, hargs2, rfl, rfl, h2, r2⟩ := trodAll_cons r1
  obtain ⟨v3, vs3, d3, ds3, p3, q3, hargs3, rfl, rfl, h3, r3⟩ := trodAll_cons r2
  obtain ⟨v4, vs4, d4, ds4, p4, q4, hargs4, rfl, rfl, h4, r4⟩ := trodAll_cons r3
  obtain ⟨v5, vs5, d5, ds5, p5, q5, hargs5, rfl, rfl, h5, r5⟩ := trodAll_cons r4
  obtain ⟨rfl, rfl, rfl⟩ := trodAll_nil r5
  obtain rfl : args = #[v0, v1, v2, v3, v4, v5] := by cases args; simp_all
  obtain ⟨P0, L0, hr0, hP0, hn0, hf0⟩ := open_local localTys (hval 0 24 v0 rfl rfl) h0
  obtain ⟨P1, X1, hr1, hP1, hn1, ho1⟩ := open_symbol symbolTys (hval 1 27 v1 rfl rfl) h1
  obtain ⟨z2, rfl, rfl, rfl, hz2⟩ := open_int Tryz.underlying5 (hval 2 5 v2 rfl rfl) h2
  have hr2 : RRel (Wz W) (.int .u8 z2) (.int .u8 z2) := .int _ _
  obtain ⟨z3, rfl, rfl, rfl, hz3⟩ := open_int Tryz.underlying5 (hval 3 5 v3 rfl rfl) h3
  have hr3 : RRel (Wz W) (.int .u8 z3) (.int .u8 z3) := .int _ _
  obtain ⟨z4, rfl, rfl, rfl, hz4⟩ := open_int Tryz.underlying28 (hval 4 28 v4 rfl rfl) h4
  have hr4 : RRel (Wz W) (.int .i8 z4) (.int .i8 z4) := .int _ _
  obtain ⟨b5, rfl, rfl, rfl⟩ := open_bool Tryz.underlying4 (hval 5 4 v5 rfl rfl) h5
  have hr5 : RRel (Wz W) (.bool b5) (.bool b5) := .bool _
  refine (pure_calls (trainShapes_pure P0 L0 P1 X1 z2 z3 z4 b5 hP1 ho1 (wf_u8 hz2) (wf_u8 hz3)) hO (.cons hr0 (.cons hr1 (.cons hr2 (.cons hr3 (.cons hr4 (.cons hr5 .nil))))))).mono fun e W' ⟨he, hb⟩ => ?_
  exact ⟨_, he, law_post laidOut readable rfl Tryz.underlying4 rfl hW' rfl hb⟩
def wArgs : Array Value := #[.agg #[.int .i64 0, .slice none 0 0], .agg #[.int .u8 0, .slice none 0 0], .int .u8 0, .int .u8 0, .int .i8 0, .bool false]
theorem laid_met (os : Os) : laidMet Tryz.prog Rows.trainShapesRow.laid ((laidWorld os).forCall (fun _ _ => 0) ⟨#[], wArgs, []⟩).memory :=
  laidMet_of_run' 8 (by kernel_rfl) (by kernel_rfl)
theorem reads (os : Os) {H : Type} (enc : TypeId × Value → H) : ∃ ds places, DataW.whole enc Tryz.prog ((laidWorld os).forCall (fun _ _ => 0) ⟨#[], wArgs, []⟩).memory Tryz.f13.params.toList Rows.trainShapesSpec.vars false wArgs.toList 8 = some (ds, [], places) :=
  ⟨[.agg [.lit (.int .i64 0), .nil], .agg [.lit (.int .u8 0), .nil], .lit (.int .u8 0), .lit (.int .u8 0), .lit (.int .i8 0), .lit (.bool false)], [], by kernel_rfl⟩
set_option maxRecDepth 100000 in
theorem lifted (os : Os) (started : os.Started) (H : Type) (enc : TypeId × Value → H) (F : Stop.Interp) :
    ReturnsInHanded {} Tryz.checked os 13 .any ((OpenSpec.ofChange Rows.trainShapesSpec).preRow enc Tryz.prog Tryz.f13 Rows.trainShapesRow.domain false Rows.trainShapesRow.laid) (((OpenSpec.ofChange Rows.trainShapesSpec).at F).post enc Tryz.prog Tryz.f13 false true false false) := by
  refine returnsInHanded_of_row (C := Tryz.checked) (s := OpenSpec.ofChange Rows.trainShapesSpec) own started (by kernel_rfl) Tryz.func13
    (witness_row_at (enc := enc) (C := Tryz.checked) false (laidWorld os) wArgs rfl (by kernel_rfl) (by kernel_rfl) (by kernel_rfl)
      (OpenSpec.preRow_of_cond 8 (reads os enc).choose_spec.choose_spec (by kernel_rfl) (fun k hk => by cases hk) (by kernel_rfl) (laid_met os))) ?_
  intro W base args ds gs before hval hW _ _ _ hL hS _
  exact contract H enc W base args ds gs before hval hW (tabs_of hL hS)
theorem named : Tryz.prog.funcNamed Rows.trainShapesRow.func = some 13 := by kernel_rfl
theorem facts : joinedFacts Tryz.prog 13 Tryz.f13 (OpenSpec.ofChange Rows.trainShapesSpec).bare Rows.trainShapesRow = true := by kernel_rfl
theorem inst : Tryz.f13.isInstance Tryz.prog Rows.trainShapesRow.origin Rows.trainShapesRow.targs := of_decide_eq_true (by kernel_rfl)
theorem wrap : Tryz.f13.isWrapper Tryz.prog Rows.trainShapesRow.wrapper Rows.trainShapesRow.mainSum := by
  unfold Func.isWrapper; first | (rw [if_pos (by decide +kernel)]; kernel_rfl) | (rw [if_neg (by decide +kernel)]; exact ⟨rfl, rfl⟩)
theorem said : Rows.TrainShapesSaid :=
  OpenClaim.holds_of_cond 13 Tryz.f13 rfl rfl rfl rfl rfl rfl rfl ⟨rfl, rfl, rfl, rfl, rfl⟩ rfl rfl rfl rfl rfl named Tryz.func13 facts inst wrap
    (fun os started H enc _ F => by rw [OpenClaim.pre_eq_preRow]; exact lifted os started H enc F)
end Go.Proofs.YtcfdaddablojlaaGreatDoor.trainShapes

namespace Go.Proofs.YtcfdaddablojlaaGreatDoor.trainShapes
open Go.ChangeShapes Go.WideShapes Go.ChangeAt Go.RowKit Go.Joins Go.Deep
theorem stands : (Tryz.f13.params.toList.all fun t => !Tryz.prog.wantsStandIn t) = true := by kernel_rfl
theorem looks : false = Tryz.prog.looks [] := by kernel_rfl
theorem plain (f : FuncId) (fn : Func) (hf : Tryz.pinned.checked.prog.funcNamed "quadform/quadformlaw27.TrainShapes" = some f) (hfn : Tryz.pinned.checked.prog.funcs[f]? = some fn) :
    false = Tryz.pinned.checked.prog.looks [] ∧ ∀ (j : Nat) t, fn.params[j]? = some t → Tryz.pinned.checked.prog.wantsStandIn t = false := by
  obtain rfl : f = 13 := Option.some.inj (named.symm.trans hf) |>.symm
  obtain rfl : fn = Tryz.f13 := (Option.some.inj (Tryz.func13.symm.trans hfn)).symm
  refine ⟨looks, fun j t ht => ?_⟩
  have := List.all_eq_true.1 stands t (by simpa using Array.mem_of_getElem? ht)
  exact (by simpa using this : Tryz.prog.wantsStandIn t = false)
theorem holds : Rows.TrainShapesCardSaid :=
  Claim7.holds_tied_plain_at .later [] _ _ _ _ said (fun _ h => by cases h) (by kernel_rfl) (fun _ h => by cases h) trainShapes_row_tie rfl ⟨rfl, rfl⟩ (by kernel_rfl) rfl plain (by kernel_rfl)
end Go.Proofs.YtcfdaddablojlaaGreatDoor.trainShapes

