/- A part of the proof of TiedTrainCovers: VI, VJ, CV, LK, CardTrainCovers, TiedTrainCovers. -/
import Derived.Test.YtcfdaddablojlaaGreatDoorPkB3
set_option linter.unusedSimpArgs false
set_option linter.unusedVariables false
/- The trains: quadformref26.Chains, train.trains; Compartments and Trains. -/
set_option linter.unusedSimpArgs false
set_option linter.unusedVariables false
namespace Go.Proofs.YtcfdaddablojlaaGreatDoor.S
open Go.QfSy Go.RowKit

def linkJ (L : List Con) (k : Nat) : Bool := decide (0 < k) && linkM L k
def chA (L : List Con) (k : Nat) : Acc := grpA (fun _ => true) (linkJ L) k
def chainsM (L : List Con) : List (List Int) := allA (chA L L.length)
noncomputable def chFin (L : List Con) : List (List Int) := (chA L L.length).1
noncomputable def chLst (L : List Con) : List Int := (chA L L.length).2.getD []
def chI (L : List Con) (i : Nat × List (List Int) × Option (List Int)) : Prop := i.1 ≤ L.length ∧ chA L i.1 = i.2
theorem chI_ok {L : List Con} {i : Nat × List (List Int) × Option (List Int)} (h : chI L i) : GrpOk (fun _ => true) i.1 i.2 := by rw [← h.2]; exact grp_ok _ _ _
theorem chI_none {L : List Con} {k : Nat} {F : List (List Int)} (h : chI L (k, F, none)) : k = 0 := by
  have := ((chI_ok h).none rfl).2
  rcases Nat.eq_zero_or_pos k with h0 | h0
  · exact h0
  · exact absurd (this 0 h0) (by decide)
theorem chI_one {L : List Con} {k : Nat} {F : List (List Int)} (h : chI L (k, F, none)) (hk : k < L.length) : chI L (k + 1, [], some [(k : Int)]) := by
  have hF : F = [] := ((chI_ok h).none rfl).1
  subst hF
  refine ⟨hk, ?_⟩
  show grpS true (linkJ L k) k (chA L k) = _
  rw [h.2]; rfl
theorem chI_app {L : List Con} {k : Nat} {F : List (List Int)} {l : List Int} (h : chI L (k, F, some l)) (hk : k < L.length) (h0 : 0 < k) (hj : linkM L k = true) : chI L (k + 1, F, some (l ++ [(k : Int)])) := by
  refine ⟨hk, ?_⟩
  show grpS true (linkJ L k) k (chA L k) = _
  rw [h.2, linkJ, hj, decide_eq_true h0]; rfl
theorem chI_new1 {L : List Con} {k : Nat} {F : List (List Int)} {l : List Int} (h : chI L (k, F, some l)) (hk : k < L.length) (h0 : ¬ 0 < k) : chI L (k + 1, F ++ [l], some [(k : Int)]) := by
  refine ⟨hk, ?_⟩
  show grpS true (linkJ L k) k (chA L k) = _
  rw [h.2, linkJ, decide_eq_false h0]; rfl
theorem chI_new2 {L : List Con} {k : Nat} {F : List (List Int)} {l : List Int} (h : chI L (k, F, some l)) (hk : k < L.length) (hj : linkM L k = false) : chI L (k + 1, F ++ [l], some [(k : Int)]) := by
  refine ⟨hk, ?_⟩
  show grpS true (linkJ L k) k (chA L k) = _
  rw [h.2, linkJ, hj, Bool.and_false]; rfl
theorem chI_fin {L : List Con} {k : Nat} {F : List (List Int)} {l : List Int} (h : chI L (k, F, some l)) (hk : L.length ≤ k) : chFin L = F ∧ chLst L = l := by
  have h1 : k ≤ L.length := h.1
  have : k = L.length := by omega
  subst this
  unfold chFin chLst
  rw [h.2]
  exact ⟨rfl, rfl⟩
theorem chains_cons {L : List Con} (h : 0 < L.length) : chainsM L = chFin L ++ [chLst L] := by
  unfold chainsM chFin chLst
  generalize hc : chA L L.length = a
  obtain ⟨F, o⟩ := a
  cases o with
  | none => have := chI_none (L := L) (k := L.length) (F := F) ⟨Nat.le_refl _, hc⟩; omega
  | some l => rfl
theorem chains_rows {L : List Con} : ∀ l ∈ chainsM L, l ≠ [] ∧ inR L.length l ∧ l.length ≤ L.length := (grp_ok (fun _ => true) (linkJ L) L.length).rows
theorem chains_len {L : List Con} : (chainsM L).length ≤ L.length := (grp_ok (fun _ => true) (linkJ L) L.length).len
noncomputable def chB (L : List Con) (b : Nat) : List (Nat × Blk) := [(b, ⟨.rows .i64 (chFin L) (b + 1) (chLst L).length, 47, 1, true, true⟩), (b + 1, ⟨.ints .i64 (chLst L), 3, 1, true, true⟩)]
noncomputable def rcAnn (L : List Con) : Ann := ⟨⟨[(0, (roC L).av), (3, .nils), (6, .vint .i64 L.length), (7, .int .i64 0)], [], 1000⟩, none, fun _ => (.exit 0, ⟨[(3, .lo 1001 ((chFin L).length + 1))], chB L 1001, 1010⟩)⟩
noncomputable def rcS (L : List Con) : Nat × List (List Int) × Option (List Int) → St
  | (k, _, none) => ⟨[(0, (roC L).av), (3, .nils), (6, .vint .i64 L.length), (7, .vint .i64 (k : Int))], [], 1010⟩
  | (k, F, some l) => ⟨[(0, (roC L).av), (3, .lo 1001 (F.length + 1)), (6, .vint .i64 L.length), (7, .vint .i64 (k : Int))], [(1001, ⟨.rows .i64 F 1002 l.length, 47, 1, true, true⟩), (1002, ⟨.ints .i64 l, 3, 1, true, true⟩)], 1010⟩
set_option maxRecDepth 100000 in
theorem rc_loop (L : List Con) (hL : okL L) (hne : 0 < L.length) : AnnOk Tryz.prog EV.ng (Nat.max 1 Tryz.f58.ntmps) (bodyAt Tryz.f58 [0, 1, 0, 1, 1]) (rcAnn L) := by
  refine ann_of evOk (callF_ok evOk (orcOf_ok entsR3_ok) 8) none_ann (by kernel_rfl) (by kernel_rfl) (rcS L) (fun i => L.length - i.1) (fun _ i => chI L i) ?_ ?_
  · intro d hd
    exact ⟨(0, [], none), [L.length = L.length ∧ (fun i => (L.getD i Con.zero).rvs) = fun i => (L.getD i Con.zero).rvs, (↑L.length : Int) = (↑L.length : Int), (0 : Int) = (↑(0 : Nat) : Int)], by kernel_rfl, (by refine ⟨?_, ?_, (?_ : (0 : Int) = (↑(0 : Nat) : Int))⟩ <;> (first | rfl | assumption | omega | simp_all)), (by exact ⟨Nat.zero_le _, rfl⟩)⟩
  · rintro d hd ⟨k, F, o⟩ hI
    cases d
    · -- d = false
      exact Bool.noConfusion (show false = true from hd)
    · -- d = true
      have hG := chI_ok hI
      have hk : k ≤ L.length := hI.1
      have hl := hL.1
      have ek : IntKind.i64.wrap ((k : Int) + 1) = ((k + 1 : Nat) : Int) := by rw [w64 (by omega) (by omega)]; omega
      have em : IntKind.i64.wrap ((k : Int) - 1) = (k : Int) - 1 := w64 (by omega) (by omega)
      have hFk : F.length ≤ k := by have := hG.len; cases o <;> simp [allA] at this <;> omega
      have eF : IntKind.i64.wrap (((F.length + 1 : Nat) : Int) - 1) = (F.length : Int) := by rw [w64 (by omega) (by omega)]; omega
      rcases o with _ | l
      · -- 1
        refine Or.elim (Bool.eq_false_or_eq_true (decide ((↑k : Int) < (↑L.length : Int)))) (fun d1 => Or.elim (Bool.eq_false_or_eq_true (decide ((↑k : Int) > (0 : Int)))) (fun d2 => GnG.no ?_)
           (fun d2 => ⟨[true, false], .inl ⟨(k + 1, [], some [(k : Int)]), [L.length = L.length ∧ (fun i => (L.getD i Con.zero).rvs) = fun i => (L.getD i Con.zero).rvs, (1 : Nat) = (0 : Nat) + (1 : Nat), (↑L.length : Int) = (↑L.length : Int), IntKind.i64.wrap ((↑k : Int) + (1 : Int)) = (↑(k + (1 : Nat)) : Int), ([] : List (List Int)) = [] ∧ (1 : Nat) = [(↑k : Int)].length, [(↑k : Int)] = [(↑k : Int)], Dec (decide ((↑k : Int) > (0 : Int))) false, Dec (decide ((↑k : Int) < (↑L.length : Int))) true], by kernel_rfl, ⟨?_, ?_, ?_, ?_, ?_, ?_, d2, d1⟩, MuG.out ?_, InG.out ?_⟩⟩))
           (fun d1 => CtG.no ?_)
        all_goals first | (refine MuG.mk ?_; (simp only [decide_eq_true_eq, decide_eq_false_iff_not] at *; show L.length - (k + 1) < L.length - k; omega)) | (refine InG.mk ?_; (simp only [consR_ro, Int.toNat_natCast, decide_eq_true_eq, decide_eq_false_iff_not, gt_iff_lt] at *; first | exact chI_one hI (by omega) | exact chI_app hI (by omega) (by omega) d3 | exact chI_new1 hI (by omega) (by omega) | exact chI_new2 hI (by omega) d3)) | (refine CtG.mk ?_; (simp only [decide_eq_true_eq, decide_eq_false_iff_not, gt_iff_lt] at *; have := chI_none hI; omega)) | (refine GnG.mk ?_; (simp only [decide_eq_true_eq, decide_eq_false_iff_not, gt_iff_lt] at *; have := chI_none hI; omega)) | (first | (with_reducible rfl) | exact ⟨rfl, rfl⟩ | ((try simp only [em, ek, eF, consR_ro, Int.toNat_natCast, decide_eq_true_eq, decide_eq_false_iff_not, gt_iff_lt, View.num] at *) <;> first | omega | exact ⟨rfl, rfl⟩ | exact ⟨fun _ _ => rfl, hL, by omega, by omega⟩ | (have := (hG.rows l (by simp [allA])).2.2; exact ⟨by trivial, by omega⟩) | (rw [(chI_fin hI (by omega)).1]; done) | (rw [(chI_fin hI (by omega)).2]; done) | (rw [(chI_fin hI (by omega)).1, (chI_fin hI (by omega)).2]; exact ⟨rfl, rfl⟩) | (simp; done) | (exfalso; have := chI_none hI; omega)))
      · -- 2
        refine Or.elim (Bool.eq_false_or_eq_true (decide ((↑k : Int) < (↑L.length : Int)))) (fun d1 => Or.elim (Bool.eq_false_or_eq_true (decide ((↑k : Int) > (0 : Int)))) (fun d2 => Or.elim (Bool.eq_false_or_eq_true (linkM (consR L.length fun i => (L.getD i Con.zero).rvs) k)) (fun d3 => ⟨[true, true, true], .inl ⟨(k + 1, F, some (l ++ [(k : Int)])), [L.length = L.length ∧ (fun i => (L.getD i Con.zero).rvs) = fun i => (L.getD i Con.zero).rvs, F.length + (1 : Nat) = F.length + (1 : Nat), (↑L.length : Int) = (↑L.length : Int), IntKind.i64.wrap ((↑k : Int) + (1 : Int)) = (↑(k + (1 : Nat)) : Int), F = F ∧ l.length + (1 : Nat) = (l ++ [(↑k : Int)]).length, l ++ [(↑k : Int)] = l ++ [(↑k : Int)], (IntKind.i64.wrap ((↑(F.length + (1 : Nat)) : Int) - (1 : Int))).toNat = F.length, (0 : Int) ≤ IntKind.i64.wrap ((↑(F.length + (1 : Nat)) : Int) - (1 : Int)) ∧ IntKind.i64.wrap ((↑(F.length + (1 : Nat)) : Int) - (1 : Int)) < (↑(F.length + (1 : Nat)) : Int), (View.ints IntKind.i64 l).num = l.length ∧ l.length + (1 : Nat) ≤ (1000000 : Nat), (IntKind.i64.wrap ((↑(F.length + (1 : Nat)) : Int) - (1 : Int))).toNat = F.length, (0 : Int) ≤ IntKind.i64.wrap ((↑(F.length + (1 : Nat)) : Int) - (1 : Int)) ∧ IntKind.i64.wrap ((↑(F.length + (1 : Nat)) : Int) - (1 : Int)) < (↑(F.length + (1 : Nat)) : Int), Dec (linkM (consR L.length fun i => (L.getD i Con.zero).rvs) k) true, (∀ (i : Nat), i < L.length → (fun i => (L.getD i Con.zero).rvs) i = (Con.ofR ((fun i => (L.getD i Con.zero).rvs) i)).rvs) ∧ okL (consR L.length fun i => (L.getD i Con.zero).rvs) ∧ (1 : Int) ≤ (↑k : Int) ∧ (↑k : Int) < (↑L.length : Int), Dec (decide ((↑k : Int) > (0 : Int))) true, Dec (decide ((↑k : Int) < (↑L.length : Int))) true], by kernel_rfl, ⟨?_, ?_, ?_, ?_, ?_, ?_, ?_, ?_, ?_, ?_, ?_, d3, ?_, d2, d1⟩, MuG.out ?_, InG.out ?_⟩⟩)
           (fun d3 => ⟨[true, true, false], .inl ⟨(k + 1, F ++ [l], some [(k : Int)]), [L.length = L.length ∧ (fun i => (L.getD i Con.zero).rvs) = fun i => (L.getD i Con.zero).rvs, F.length + (1 : Nat) + (1 : Nat) = (F ++ [l]).length + (1 : Nat), (↑L.length : Int) = (↑L.length : Int), IntKind.i64.wrap ((↑k : Int) + (1 : Int)) = (↑(k + (1 : Nat)) : Int), F ++ [l] = F ++ [l] ∧ (1 : Nat) = [(↑k : Int)].length, [(↑k : Int)] = [(↑k : Int)], F.length + (1 : Nat) + (1 : Nat) ≤ (1000000 : Nat), F.length + (1 : Nat) = F.length + (1 : Nat) ∧ l.length = l.length, Dec (linkM (consR L.length fun i => (L.getD i Con.zero).rvs) k) false, (∀ (i : Nat), i < L.length → (fun i => (L.getD i Con.zero).rvs) i = (Con.ofR ((fun i => (L.getD i Con.zero).rvs) i)).rvs) ∧ okL (consR L.length fun i => (L.getD i Con.zero).rvs) ∧ (1 : Int) ≤ (↑k : Int) ∧ (↑k : Int) < (↑L.length : Int), Dec (decide ((↑k : Int) > (0 : Int))) true, Dec (decide ((↑k : Int) < (↑L.length : Int))) true], by kernel_rfl, ⟨?_, ?_, ?_, ?_, ?_, ?_, ?_, ?_, d3, ?_, d2, d1⟩, MuG.out ?_, InG.out ?_⟩⟩))
           (fun d2 => ⟨[true, false], .inl ⟨(k + 1, F ++ [l], some [(k : Int)]), [L.length = L.length ∧ (fun i => (L.getD i Con.zero).rvs) = fun i => (L.getD i Con.zero).rvs, F.length + (1 : Nat) + (1 : Nat) = (F ++ [l]).length + (1 : Nat), (↑L.length : Int) = (↑L.length : Int), IntKind.i64.wrap ((↑k : Int) + (1 : Int)) = (↑(k + (1 : Nat)) : Int), F ++ [l] = F ++ [l] ∧ (1 : Nat) = [(↑k : Int)].length, [(↑k : Int)] = [(↑k : Int)], F.length + (1 : Nat) + (1 : Nat) ≤ (1000000 : Nat), F.length + (1 : Nat) = F.length + (1 : Nat) ∧ l.length = l.length, Dec (decide ((↑k : Int) > (0 : Int))) false, Dec (decide ((↑k : Int) < (↑L.length : Int))) true], by kernel_rfl, ⟨?_, ?_, ?_, ?_, ?_, ?_, ?_, ?_, d2, d1⟩, MuG.out ?_, InG.out ?_⟩⟩))
           (fun d1 => ⟨[false], .inr ⟨[F.length + (1 : Nat) = (chFin L).length + (1 : Nat), F = chFin L ∧ l.length = (chLst L).length, l = chLst L, Dec (decide ((↑k : Int) < (↑L.length : Int))) false], by kernel_rfl, ⟨?_, ?_, ?_, d1⟩, rfl⟩⟩)
        all_goals first | (refine MuG.mk ?_; (simp only [decide_eq_true_eq, decide_eq_false_iff_not] at *; show L.length - (k + 1) < L.length - k; omega)) | (refine InG.mk ?_; (simp only [consR_ro, Int.toNat_natCast, decide_eq_true_eq, decide_eq_false_iff_not, gt_iff_lt] at *; first | exact chI_one hI (by omega) | exact chI_app hI (by omega) (by omega) d3 | exact chI_new1 hI (by omega) (by omega) | exact chI_new2 hI (by omega) d3)) | (refine CtG.mk ?_; (simp only [decide_eq_true_eq, decide_eq_false_iff_not, gt_iff_lt] at *; have := chI_none hI; omega)) | (refine GnG.mk ?_; (simp only [decide_eq_true_eq, decide_eq_false_iff_not, gt_iff_lt] at *; have := chI_none hI; omega)) | (first | (with_reducible rfl) | exact ⟨rfl, rfl⟩ | ((try simp only [em, ek, eF, consR_ro, Int.toNat_natCast, decide_eq_true_eq, decide_eq_false_iff_not, gt_iff_lt, View.num] at *) <;> first | omega | exact ⟨rfl, rfl⟩ | exact ⟨fun _ _ => rfl, hL, by omega, by omega⟩ | (have := (hG.rows l (by simp [allA])).2.2; exact ⟨by trivial, by omega⟩) | (rw [(chI_fin hI (by omega)).1]; done) | (rw [(chI_fin hI (by omega)).2]; done) | (rw [(chI_fin hI (by omega)).1, (chI_fin hI (by omega)).2]; exact ⟨rfl, rfl⟩) | (simp; done) | (exfalso; have := chI_none hI; omega)))
set_option maxRecDepth 100000 in
theorem rchains_pure (L : List Con) (hL : okL L) (hne : 0 < L.length) : PureC Tryz.prog [] 58 [roC L] (roR .i64 (chainsM L)) := by
  have rr := fun (tp : List Bool) (ms : List Prop) h hm => pure_run evOk (callF_ok evOk (orcOf_ok entsR3_ok) 8) Tryz.func58 (A := [roC L]) (N := Nat.max 1 Tryz.f58.ntmps) rfl (one_ann (rc_loop L hL hne)) rfl rfl evNg (tabs := []) (R := roR .i64 (chainsM L)) (tp := tp) (ms := ms) h hm
  refine rr [] [(chFin L).length + (1 : Nat) = (chainsM L).length ∧ (chFin L).length + (1 : Nat) = (chFin L).length + (1 : Nat) ∧ (chLst L).length = (chLst L).length ∧ ∀ (i : Nat), i < (chFin L).length + (1 : Nat) → (fun i => [rI IntKind.i64 ((chainsM L).getD i [])]) i = [rI IntKind.i64 ((chFin L ++ [chLst L]).getD i [])], L.length = L.length ∧ (fun i => (L.getD i Con.zero).rvs) = fun i => (L.getD i Con.zero).rvs, (↑L.length : Int) = (↑L.length : Int)] (by kernel_rfl) ⟨?_, ?_, (?_ : (↑L.length : Int) = (↑L.length : Int))⟩
  all_goals first | (first | (with_reducible rfl) | exact ⟨rfl, rfl⟩ | (rw [chains_cons hne]; exact ⟨by simp, rfl, rfl, fun i _ => rfl⟩))
noncomputable def ctH (p : Int) (L : List Con) : List (Nat × Blk) := [(1000, ⟨.plain [.vint .i64 p, (roC L).av], 24, 0, false, true⟩), (1001, ⟨.plain [.fn 78 [], .fn 79 [.ptr 1000 0]], 82, 0, false, true⟩)]
noncomputable def ctAnn (p : Int) (L : List Con) : Ann := ⟨⟨[(3, .ptr 1001 0), (5, .nils), (8, .vint .i64 L.length), (9, .int .i64 0)], ctH p L, 1002⟩, none, fun _ => (.exit 0, ⟨[(5, .lo 1003 ((chFin L).length + 1))], chB L 1003, 1010⟩)⟩
noncomputable def ctS (p : Int) (L : List Con) : Nat × List (List Int) × Option (List Int) → St
  | (k, _, none) => ⟨[(3, .ptr 1001 0), (5, .nils), (8, .vint .i64 L.length), (9, .vint .i64 (k : Int))], ctH p L, 1010⟩
  | (k, F, some l) => ⟨[(3, .ptr 1001 0), (5, .lo 1003 (F.length + 1)), (8, .vint .i64 L.length), (9, .vint .i64 (k : Int))], ctH p L ++ [(1003, ⟨.rows .i64 F 1004 l.length, 47, 1, true, true⟩), (1004, ⟨.ints .i64 l, 3, 1, true, true⟩)], 1010⟩
set_option maxRecDepth 100000 in
theorem ct_loop (p : Int) (L : List Con) (hL : okL L) (hne : 0 < L.length) : AnnOk Tryz.prog EV.ng (Nat.max 2 Tryz.f71.ntmps) (bodyAt Tryz.f71 [0, 1, 0, 1, 1]) (ctAnn p L) := by
  refine ann_of evOk (callF_ok evOk (orcOf_ok entsT3_ok) 8) none_ann (by kernel_rfl) (by kernel_rfl) (ctS p L) (fun i => L.length - i.1) (fun _ i => chI L i) ?_ ?_
  · intro d hd
    exact ⟨(0, [], none), [(↑L.length : Int) = (↑L.length : Int), (0 : Int) = (↑(0 : Nat) : Int), p = p, L.length = L.length ∧ (fun i => (L.getD i Con.zero).rvs) = fun i => (L.getD i Con.zero).rvs], by kernel_rfl, (by refine ⟨?_, ?_, ?_, (?_ : L.length = L.length ∧ (fun i => (L.getD i Con.zero).rvs) = fun i => (L.getD i Con.zero).rvs)⟩ <;> (first | rfl | assumption | omega | simp_all)), (by exact ⟨Nat.zero_le _, rfl⟩)⟩
  · rintro d hd ⟨k, F, o⟩ hI
    cases d
    · -- d = false
      exact Bool.noConfusion (show false = true from hd)
    · -- d = true
      have hG := chI_ok hI
      have hk : k ≤ L.length := hI.1
      have hl := hL.1
      have ek : IntKind.i64.wrap ((k : Int) + 1) = ((k + 1 : Nat) : Int) := by rw [w64 (by omega) (by omega)]; omega
      have em : IntKind.i64.wrap ((k : Int) - 1) = (k : Int) - 1 := w64 (by omega) (by omega)
      have hFk : F.length ≤ k := by have := hG.len; cases o <;> simp [allA] at this <;> omega
      have eF : IntKind.i64.wrap (((F.length + 1 : Nat) : Int) - 1) = (F.length : Int) := by rw [w64 (by omega) (by omega)]; omega
      rcases o with _ | l
      · -- 1
        refine Or.elim (Bool.eq_false_or_eq_true (decide ((↑k : Int) < (↑L.length : Int)))) (fun d1 => Or.elim (Bool.eq_false_or_eq_true (decide ((↑k : Int) > (0 : Int)))) (fun d2 => GnG.no ?_)
           (fun d2 => ⟨[true, false], .inl ⟨(k + 1, [], some [(k : Int)]), [(1 : Nat) = (0 : Nat) + (1 : Nat), (↑L.length : Int) = (↑L.length : Int), IntKind.i64.wrap ((↑k : Int) + (1 : Int)) = (↑(k + (1 : Nat)) : Int), p = p, L.length = L.length ∧ (fun i => (L.getD i Con.zero).rvs) = fun i => (L.getD i Con.zero).rvs, ([] : List (List Int)) = [] ∧ (1 : Nat) = [(↑k : Int)].length, [(↑k : Int)] = [(↑k : Int)], Dec (decide ((↑k : Int) > (0 : Int))) false, Dec (decide ((↑k : Int) < (↑L.length : Int))) true], by kernel_rfl, ⟨?_, ?_, ?_, ?_, ?_, ?_, ?_, d2, d1⟩, MuG.out ?_, InG.out ?_⟩⟩))
           (fun d1 => CtG.no ?_)
        all_goals first | (refine MuG.mk ?_; (simp only [decide_eq_true_eq, decide_eq_false_iff_not] at *; show L.length - (k + 1) < L.length - k; omega)) | (refine InG.mk ?_; (simp only [consR_ro, Int.toNat_natCast, decide_eq_true_eq, decide_eq_false_iff_not, gt_iff_lt] at *; first | exact chI_one hI (by omega) | exact chI_app hI (by omega) (by omega) d3 | exact chI_new1 hI (by omega) (by omega) | exact chI_new2 hI (by omega) d3)) | (refine CtG.mk ?_; (simp only [decide_eq_true_eq, decide_eq_false_iff_not, gt_iff_lt] at *; have := chI_none hI; omega)) | (refine GnG.mk ?_; (simp only [decide_eq_true_eq, decide_eq_false_iff_not, gt_iff_lt] at *; have := chI_none hI; omega)) | (first | (with_reducible rfl) | exact ⟨rfl, rfl⟩ | ((try simp only [em, ek, eF, consR_ro, Int.toNat_natCast, decide_eq_true_eq, decide_eq_false_iff_not, gt_iff_lt, View.num] at *) <;> first | omega | exact ⟨rfl, rfl⟩ | exact ⟨fun _ _ => rfl, hL, by omega, by omega⟩ | (have := (hG.rows l (by simp [allA])).2.2; exact ⟨by trivial, by omega⟩) | (rw [(chI_fin hI (by omega)).1]; done) | (rw [(chI_fin hI (by omega)).2]; done) | (rw [(chI_fin hI (by omega)).1, (chI_fin hI (by omega)).2]; exact ⟨rfl, rfl⟩) | (simp; done) | (exfalso; have := chI_none hI; omega)))
      · -- 2
        refine Or.elim (Bool.eq_false_or_eq_true (decide ((↑k : Int) < (↑L.length : Int)))) (fun d1 => Or.elim (Bool.eq_false_or_eq_true (decide ((↑k : Int) > (0 : Int)))) (fun d2 => Or.elim (Bool.eq_false_or_eq_true (linkM (consR L.length fun i => (L.getD i Con.zero).rvs) k)) (fun d3 => ⟨[true, true, true], .inl ⟨(k + 1, F, some (l ++ [(k : Int)])), [F.length + (1 : Nat) = F.length + (1 : Nat), (↑L.length : Int) = (↑L.length : Int), IntKind.i64.wrap ((↑k : Int) + (1 : Int)) = (↑(k + (1 : Nat)) : Int), p = p, L.length = L.length ∧ (fun i => (L.getD i Con.zero).rvs) = fun i => (L.getD i Con.zero).rvs, F = F ∧ l.length + (1 : Nat) = (l ++ [(↑k : Int)]).length, l ++ [(↑k : Int)] = l ++ [(↑k : Int)], (IntKind.i64.wrap ((↑(F.length + (1 : Nat)) : Int) - (1 : Int))).toNat = F.length, (0 : Int) ≤ IntKind.i64.wrap ((↑(F.length + (1 : Nat)) : Int) - (1 : Int)) ∧ IntKind.i64.wrap ((↑(F.length + (1 : Nat)) : Int) - (1 : Int)) < (↑(F.length + (1 : Nat)) : Int), (View.ints IntKind.i64 l).num = l.length ∧ l.length + (1 : Nat) ≤ (1000000 : Nat), (IntKind.i64.wrap ((↑(F.length + (1 : Nat)) : Int) - (1 : Int))).toNat = F.length, (0 : Int) ≤ IntKind.i64.wrap ((↑(F.length + (1 : Nat)) : Int) - (1 : Int)) ∧ IntKind.i64.wrap ((↑(F.length + (1 : Nat)) : Int) - (1 : Int)) < (↑(F.length + (1 : Nat)) : Int), Dec (linkM (consR L.length fun i => (L.getD i Con.zero).rvs) k) true, (∀ (i : Nat), i < L.length → (fun i => (L.getD i Con.zero).rvs) i = (Con.ofR ((fun i => (L.getD i Con.zero).rvs) i)).rvs) ∧ okL (consR L.length fun i => (L.getD i Con.zero).rvs) ∧ (1 : Int) ≤ (↑k : Int) ∧ (↑k : Int) < (↑L.length : Int), Dec (decide ((↑k : Int) > (0 : Int))) true, Dec (decide ((↑k : Int) < (↑L.length : Int))) true], by kernel_rfl, ⟨?_, ?_, ?_, ?_, ?_, ?_, ?_, ?_, ?_, ?_, ?_, ?_, d3, ?_, d2, d1⟩, MuG.out ?_, InG.out ?_⟩⟩)
           (fun d3 => ⟨[true, true, false], .inl ⟨(k + 1, F ++ [l], some [(k : Int)]), [F.length + (1 : Nat) + (1 : Nat) = (F ++ [l]).length + (1 : Nat), (↑L.length : Int) = (↑L.length : Int), IntKind.i64.wrap ((↑k : Int) + (1 : Int)) = (↑(k + (1 : Nat)) : Int), p = p, L.length = L.length ∧ (fun i => (L.getD i Con.zero).rvs) = fun i => (L.getD i Con.zero).rvs, F ++ [l] = F ++ [l] ∧ (1 : Nat) = [(↑k : Int)].length, [(↑k : Int)] = [(↑k : Int)], F.length + (1 : Nat) + (1 : Nat) ≤ (1000000 : Nat), F.length + (1 : Nat) = F.length + (1 : Nat) ∧ l.length = l.length, Dec (linkM (consR L.length fun i => (L.getD i Con.zero).rvs) k) false, (∀ (i : Nat), i < L.length → (fun i => (L.getD i Con.zero).rvs) i = (Con.ofR ((fun i => (L.getD i Con.zero).rvs) i)).rvs) ∧ okL (consR L.length fun i => (L.getD i Con.zero).rvs) ∧ (1 : Int) ≤ (↑k : Int) ∧ (↑k : Int) < (↑L.length : Int), Dec (decide ((↑k : Int) > (0 : Int))) true, Dec (decide ((↑k : Int) < (↑L.length : Int))) true], by kernel_rfl, ⟨?_, ?_, ?_, ?_, ?_, ?_, ?_, ?_, ?_, d3, ?_, d2, d1⟩, MuG.out ?_, InG.out ?_⟩⟩))
           (fun d2 => ⟨[true, false], .inl ⟨(k + 1, F ++ [l], some [(k : Int)]), [F.length + (1 : Nat) + (1 : Nat) = (F ++ [l]).length + (1 : Nat), (↑L.length : Int) = (↑L.length : Int), IntKind.i64.wrap ((↑k : Int) + (1 : Int)) = (↑(k + (1 : Nat)) : Int), p = p, L.length = L.length ∧ (fun i => (L.getD i Con.zero).rvs) = fun i => (L.getD i Con.zero).rvs, F ++ [l] = F ++ [l] ∧ (1 : Nat) = [(↑k : Int)].length, [(↑k : Int)] = [(↑k : Int)], F.length + (1 : Nat) + (1 : Nat) ≤ (1000000 : Nat), F.length + (1 : Nat) = F.length + (1 : Nat) ∧ l.length = l.length, Dec (decide ((↑k : Int) > (0 : Int))) false, Dec (decide ((↑k : Int) < (↑L.length : Int))) true], by kernel_rfl, ⟨?_, ?_, ?_, ?_, ?_, ?_, ?_, ?_, ?_, d2, d1⟩, MuG.out ?_, InG.out ?_⟩⟩))
           (fun d1 => ⟨[false], .inr ⟨[F.length + (1 : Nat) = (chFin L).length + (1 : Nat), F = chFin L ∧ l.length = (chLst L).length, l = chLst L, Dec (decide ((↑k : Int) < (↑L.length : Int))) false], by kernel_rfl, ⟨?_, ?_, ?_, d1⟩, rfl⟩⟩)
        all_goals first | (refine MuG.mk ?_; (simp only [decide_eq_true_eq, decide_eq_false_iff_not] at *; show L.length - (k + 1) < L.length - k; omega)) | (refine InG.mk ?_; (simp only [consR_ro, Int.toNat_natCast, decide_eq_true_eq, decide_eq_false_iff_not, gt_iff_lt] at *; first | exact chI_one hI (by omega) | exact chI_app hI (by omega) (by omega) d3 | exact chI_new1 hI (by omega) (by omega) | exact chI_new2 hI (by omega) d3)) | (refine CtG.mk ?_; (simp only [decide_eq_true_eq, decide_eq_false_iff_not, gt_iff_lt] at *; have := chI_none hI; omega)) | (refine GnG.mk ?_; (simp only [decide_eq_true_eq, decide_eq_false_iff_not, gt_iff_lt] at *; have := chI_none hI; omega)) | (first | (with_reducible rfl) | exact ⟨rfl, rfl⟩ | ((try simp only [em, ek, eF, consR_ro, Int.toNat_natCast, decide_eq_true_eq, decide_eq_false_iff_not, gt_iff_lt, View.num] at *) <;> first | omega | exact ⟨rfl, rfl⟩ | exact ⟨fun _ _ => rfl, hL, by omega, by omega⟩ | (have := (hG.rows l (by simp [allA])).2.2; exact ⟨by trivial, by omega⟩) | (rw [(chI_fin hI (by omega)).1]; done) | (rw [(chI_fin hI (by omega)).2]; done) | (rw [(chI_fin hI (by omega)).1, (chI_fin hI (by omega)).2]; exact ⟨rfl, rfl⟩) | (simp; done) | (exfalso; have := chI_none hI; omega)))
noncomputable def orcCt (p : Int) (L : List Con) : CallF := orcB EV (callF EV (orcOf EV.ng entsT3) 8) 71 2 [([0, 1, 0, 1, 1], ctAnn p L)] noOrc
theorem orcCt_ok (p : Int) (L : List Con) (hL : okL L) (hne : 0 < L.length) : CallOk Tryz.prog EV.ng (orcCt p L) := orcB_ok evOk (callF_ok evOk (orcOf_ok entsT3_ok) 8) Tryz.func71 (one_ann (ct_loop p L hL hne)) (noOrc_ok _ _)
set_option maxRecDepth 100000 in
theorem ttrains_pure (p : Int) (L : List Con) (hL : okL L) (hne : 0 < L.length) : PureC Tryz.prog [] 57 [.agg [.int .i64 p, roC L]] (roR .i64 (chainsM L)) := by
  have rr := fun (tp : List Bool) (ms : List Prop) h hm => pure_run evOk (callF_ok evOk (orcCt_ok p L hL hne) 4) Tryz.func57 (A := [.agg [.int .i64 p, roC L]]) rfl none_ann rfl rfl evNg (tabs := []) (R := roR .i64 (chainsM L)) (tp := tp) (ms := ms) h hm
  refine rr [] [(chFin L).length + (1 : Nat) = (chainsM L).length ∧ (chFin L).length + (1 : Nat) = (chFin L).length + (1 : Nat) ∧ (chLst L).length = (chLst L).length ∧ ∀ (i : Nat), i < (chFin L).length + (1 : Nat) → (fun i => [rI IntKind.i64 ((chainsM L).getD i [])]) i = [rI IntKind.i64 ((chFin L ++ [chLst L]).getD i [])], (↑L.length : Int) = (↑L.length : Int), p = p, L.length = L.length ∧ (fun i => (L.getD i Con.zero).rvs) = fun i => (L.getD i Con.zero).rvs] (by kernel_rfl) ⟨?_, ?_, ?_, (?_ : L.length = L.length ∧ (fun i => (L.getD i Con.zero).rvs) = fun i => (L.getD i Con.zero).rvs)⟩
  all_goals first | (first | (with_reducible rfl) | exact ⟨rfl, rfl⟩ | (rw [chains_cons hne]; exact ⟨by simp, rfl, rfl, fun i _ => rfl⟩))
end Go.Proofs.YtcfdaddablojlaaGreatDoor.S

/- Compartments and Trains, of package train and of the reference; sameParts. -/
set_option linter.unusedSimpArgs false
set_option linter.unusedVariables false
namespace Go.Proofs.YtcfdaddablojlaaGreatDoor.S
open Go.QfSy Go.RowKit

def bR (v : Bool) (P : List (List Int)) : List (List Int) := bif v then P else []
noncomputable def entsJT : List OEnt := (entsT3 ++ entsVC) ++ [
  ⟨57, [], fun A => match A with
    | [.agg [.int .i64 p, .sl n 5 row]] => some (roR .i64 (chainsM (consR n row)), [(∀ i, i < n → row i = (Con.ofR (row i)).rvs) ∧ okL (consR n row) ∧ 0 < n])
    | _ => none⟩]
theorem entsJT_ok : ∀ e ∈ entsJT, EntOk Tryz.prog e := by
  intro e he
  rcases List.mem_append.1 he with he | he
  · rcases List.mem_append.1 he with he | he
    · exact entsT3_ok e he
    · exact entsVC_ok e he
  · rw [List.mem_singleton.1 he]
    intro A R ms h hm
    simp only at h
    split at h
    · cases h
      obtain ⟨h1, h2, h3⟩ := all_one hm
      exact PureC.imp (ttrains_pure _ _ h2 (by rw [consR_len]; exact h3)) (.cons (.agg (.cons .same (.cons (.con h1) .nil))) .nil)
    · cases h
noncomputable def entsJR : List OEnt := (entsR3 ++ entsP) ++ [
  ⟨58, [], fun A => match A with
    | [.sl n 5 row] => some (roR .i64 (chainsM (consR n row)), [(∀ i, i < n → row i = (Con.ofR (row i)).rvs) ∧ okL (consR n row) ∧ 0 < n])
    | _ => none⟩]
theorem entsJR_ok : ∀ e ∈ entsJR, EntOk Tryz.prog e := by
  intro e he
  rcases List.mem_append.1 he with he | he
  · rcases List.mem_append.1 he with he | he
    · exact entsR3_ok e he
    · exact entsP_ok e he
  · rw [List.mem_singleton.1 he]
    intro A R ms h hm
    simp only at h
    split at h
    · cases h
      obtain ⟨h1, h2, h3⟩ := all_one hm
      exact PureC.imp (rchains_pure _ h2 (by rw [consR_len]; exact h3)) (.cons (.con h1) .nil)
    · cases h
set_option maxRecDepth 100000 in
theorem tcmp_yes (p : Int) (L : List Con) (hL : okL L) (hne : 0 < L.length) (hv : shV p L = true) : PureC Tryz.prog [] 29 [.agg [.int .i64 p, roC L]] (.tup [roR .i64 (partsM L), .bool true]) := by
  have hl := hL.1
  have rr := fun (tp : List Bool) (ms : List Prop) h hm => pure_run evOk (callF_ok evOk (orcOf_ok entsJT_ok) 8) Tryz.func29 (A := [.agg [.int .i64 p, roC L]]) rfl none_ann rfl rfl evNg (tabs := []) (R := .tup [roR .i64 (partsM L), .bool true]) (tp := tp) (ms := ms) h hm
  refine Or.elim (Bool.eq_false_or_eq_true (val2M p (consR L.length fun i => (L.getD i Con.zero).rvs))) (fun d1 => rr [false] [(partsM (consR L.length fun i => (L.getD i Con.zero).rvs)).length = (partsM L).length ∧ (fun i => [rI IntKind.i64 ((partsM (consR L.length fun i => (L.getD i Con.zero).rvs)).getD i [])]) = fun i => [rI IntKind.i64 ((partsM L).getD i [])], true = true, (∀ (i : Nat), i < L.length → (fun i => (L.getD i Con.zero).rvs) i = (Con.ofR ((fun i => (L.getD i Con.zero).rvs) i)).rvs) ∧ okE (consR L.length fun i => (L.getD i Con.zero).rvs), Dec (!val2M p (consR L.length fun i => (L.getD i Con.zero).rvs)) false, (∀ (i : Nat), i < L.length → (fun i => (L.getD i Con.zero).rvs) i = (Con.ofR ((fun i => (L.getD i Con.zero).rvs) i)).rvs) ∧ L.length ≤ (1000 : Nat)] (by kernel_rfl) ⟨?_, ?_, ?_, (dN d1), (?_ : (∀ (i : Nat), i < L.length → (fun i => (L.getD i Con.zero).rvs) i = (Con.ofR ((fun i => (L.getD i Con.zero).rvs) i)).rvs) ∧ L.length ≤ (1000 : Nat))⟩)
           (fun d1 => Or.elim (Bool.eq_false_or_eq_true (fusM p (consR L.length fun i => (L.getD i Con.zero).rvs))) (fun d2 => rr [true, false] [(partsM (consR L.length fun i => (L.getD i Con.zero).rvs)).length = (partsM L).length ∧ (fun i => [rI IntKind.i64 ((partsM (consR L.length fun i => (L.getD i Con.zero).rvs)).getD i [])]) = fun i => [rI IntKind.i64 ((partsM L).getD i [])], true = true, (∀ (i : Nat), i < L.length → (fun i => (L.getD i Con.zero).rvs) i = (Con.ofR ((fun i => (L.getD i Con.zero).rvs) i)).rvs) ∧ okE (consR L.length fun i => (L.getD i Con.zero).rvs), Dec (!fusM p (consR L.length fun i => (L.getD i Con.zero).rvs)) false, (∀ (i : Nat), i < L.length → (fun i => (L.getD i Con.zero).rvs) i = (Con.ofR ((fun i => (L.getD i Con.zero).rvs) i)).rvs) ∧ L.length ≤ (1000 : Nat), Dec (!val2M p (consR L.length fun i => (L.getD i Con.zero).rvs)) true, (∀ (i : Nat), i < L.length → (fun i => (L.getD i Con.zero).rvs) i = (Con.ofR ((fun i => (L.getD i Con.zero).rvs) i)).rvs) ∧ L.length ≤ (1000 : Nat)] (by kernel_rfl) ⟨?_, ?_, ?_, (dN d2), ?_, (dN d1), (?_ : (∀ (i : Nat), i < L.length → (fun i => (L.getD i Con.zero).rvs) i = (Con.ofR ((fun i => (L.getD i Con.zero).rvs) i)).rvs) ∧ L.length ≤ (1000 : Nat))⟩)
           (fun d2 => CtG.no ?_))
  all_goals first | (refine CtG.mk ?_; (rw [consR_ro] at d1 d2; unfold shV at hv; rw [d1, d2] at hv; cases hv)) | (first | (with_reducible rfl) | exact ⟨rfl, rfl⟩ | exact ⟨fun _ _ => rfl, hl⟩ | exact ⟨fun _ _ => rfl, by rw [consR_ro]; exact hL.e⟩ | exact ⟨fun _ _ => rfl, by rw [consR_ro]; exact hL, hne⟩ | (rw [consR_ro]; exact ⟨rfl, rfl⟩) | (rw [consR_ro]; done))
set_option maxRecDepth 100000 in
theorem tcmp_no (p : Int) (L : List Con) (hl : L.length ≤ 1000) (hv : val2M p L = false) (hv2 : fusM p L = false) : PureC Tryz.prog [] 29 [.agg [.int .i64 p, roC L]] (.tup [roR .i64 [], .bool false]) := by
  have k1 : val2M p (consR L.length fun i => (L.getD i Con.zero).rvs) = false := (by rw [consR_ro]; exact hv); have k2 : fusM p (consR L.length fun i => (L.getD i Con.zero).rvs) = false := (by rw [consR_ro]; exact hv2)
  have rr := fun (tp : List Bool) (ms : List Prop) h hm => pure_run evOk (callF_ok evOk (orcOf_ok entsJT_ok) 8) Tryz.func29 (A := [.agg [.int .i64 p, roC L]]) rfl none_ann rfl rfl evNg (tabs := []) (R := .tup [roR .i64 [], .bool false]) (tp := tp) (ms := ms) h hm
  refine rr [true, true] [(0 : Nat) = (0 : Nat), false = false, Dec (!fusM p (consR L.length fun i => (L.getD i Con.zero).rvs)) true, (∀ (i : Nat), i < L.length → (fun i => (L.getD i Con.zero).rvs) i = (Con.ofR ((fun i => (L.getD i Con.zero).rvs) i)).rvs) ∧ L.length ≤ (1000 : Nat), Dec (!val2M p (consR L.length fun i => (L.getD i Con.zero).rvs)) true, (∀ (i : Nat), i < L.length → (fun i => (L.getD i Con.zero).rvs) i = (Con.ofR ((fun i => (L.getD i Con.zero).rvs) i)).rvs) ∧ L.length ≤ (1000 : Nat)] (by kernel_rfl) ⟨?_, ?_, (dN k2), ?_, (dN k1), (?_ : (∀ (i : Nat), i < L.length → (fun i => (L.getD i Con.zero).rvs) i = (Con.ofR ((fun i => (L.getD i Con.zero).rvs) i)).rvs) ∧ L.length ≤ (1000 : Nat))⟩
  all_goals first | (first | (with_reducible rfl) | exact ⟨rfl, rfl⟩ | exact ⟨fun _ _ => rfl, hl⟩)
theorem tcmp_pure (p : Int) (L : List Con) (hn : L.length ≤ 1000) : PureC Tryz.prog [] 29 [.agg [.int .i64 p, roC L]] (.tup [roR .i64 (bR (shV p L) (partsM L)), .bool (shV p L)]) := by
  cases h : shV p L with
  | true => exact tcmp_yes p L (shV_ok h) (shV_ne h) h
  | false =>
    unfold shV at h
    simp only [Bool.or_eq_false_iff] at h
    exact tcmp_no p L hn h.1 h.2
set_option maxRecDepth 100000 in
theorem rcmp_yes (p : Int) (L : List Con) (hL : okL L) (hne : 0 < L.length) (hv : shV p L = true) : PureC Tryz.prog [] 30 [.agg [.int .i64 p, roC L]] (.tup [roR .i64 (partsM L), .bool true]) := by
  have hl := hL.1
  have rr := fun (tp : List Bool) (ms : List Prop) h hm => pure_run evOk (callF_ok evOk (orcOf_ok entsJR_ok) 8) Tryz.func30 (A := [.agg [.int .i64 p, roC L]]) rfl none_ann rfl rfl evNg (tabs := []) (R := .tup [roR .i64 (partsM L), .bool true]) (tp := tp) (ms := ms) h hm
  refine Or.elim (Bool.eq_false_or_eq_true (val2M p (consR L.length fun i => (L.getD i Con.zero).rvs))) (fun d1 => rr [false] [(partsM (consR L.length fun i => (L.getD i Con.zero).rvs)).length = (partsM L).length ∧ (fun i => [rI IntKind.i64 ((partsM (consR L.length fun i => (L.getD i Con.zero).rvs)).getD i [])]) = fun i => [rI IntKind.i64 ((partsM L).getD i [])], true = true, (∀ (i : Nat), i < L.length → (fun i => (L.getD i Con.zero).rvs) i = (Con.ofR ((fun i => (L.getD i Con.zero).rvs) i)).rvs) ∧ okE (consR L.length fun i => (L.getD i Con.zero).rvs), Dec (!val2M p (consR L.length fun i => (L.getD i Con.zero).rvs)) false, (∀ (i : Nat), i < L.length → (fun i => (L.getD i Con.zero).rvs) i = (Con.ofR ((fun i => (L.getD i Con.zero).rvs) i)).rvs) ∧ L.length ≤ (1000 : Nat)] (by kernel_rfl) ⟨?_, ?_, ?_, (dN d1), (?_ : (∀ (i : Nat), i < L.length → (fun i => (L.getD i Con.zero).rvs) i = (Con.ofR ((fun i => (L.getD i Con.zero).rvs) i)).rvs) ∧ L.length ≤ (1000 : Nat))⟩)
           (fun d1 => Or.elim (Bool.eq_false_or_eq_true (fusM p (consR L.length fun i => (L.getD i Con.zero).rvs))) (fun d2 => rr [true, false] [(partsM (consR L.length fun i => (L.getD i Con.zero).rvs)).length = (partsM L).length ∧ (fun i => [rI IntKind.i64 ((partsM (consR L.length fun i => (L.getD i Con.zero).rvs)).getD i [])]) = fun i => [rI IntKind.i64 ((partsM L).getD i [])], true = true, (∀ (i : Nat), i < L.length → (fun i => (L.getD i Con.zero).rvs) i = (Con.ofR ((fun i => (L.getD i Con.zero).rvs) i)).rvs) ∧ okE (consR L.length fun i => (L.getD i Con.zero).rvs), Dec (!fusM p (consR L.length fun i => (L.getD i Con.zero).rvs)) false, (∀ (i : Nat), i < L.length → (fun i => (L.getD i Con.zero).rvs) i = (Con.ofR ((fun i => (L.getD i Con.zero).rvs) i)).rvs) ∧ L.length ≤ (1000 : Nat), Dec (!val2M p (consR L.length fun i => (L.getD i Con.zero).rvs)) true, (∀ (i : Nat), i < L.length → (fun i => (L.getD i Con.zero).rvs) i = (Con.ofR ((fun i => (L.getD i Con.zero).rvs) i)).rvs) ∧ L.length ≤ (1000 : Nat)] (by kernel_rfl) ⟨?_, ?_, ?_, (dN d2), ?_, (dN d1), (?_ : (∀ (i : Nat), i < L.length → (fun i => (L.getD i Con.zero).rvs) i = (Con.ofR ((fun i => (L.getD i Con.zero).rvs) i)).rvs) ∧ L.length ≤ (1000 : Nat))⟩)
           (fun d2 => CtG.no ?_))
  all_goals first | (refine CtG.mk ?_; (rw [consR_ro] at d1 d2; unfold shV at hv; rw [d1, d2] at hv; cases hv)) | (first | (with_reducible rfl) | exact ⟨rfl, rfl⟩ | exact ⟨fun _ _ => rfl, hl⟩ | exact ⟨fun _ _ => rfl, by rw [consR_ro]; exact hL.e⟩ | exact ⟨fun _ _ => rfl, by rw [consR_ro]; exact hL, hne⟩ | (rw [consR_ro]; exact ⟨rfl, rfl⟩) | (rw [consR_ro]; done))
set_option maxRecDepth 100000 in
theorem rcmp_no (p : Int) (L : List Con) (hl : L.length ≤ 1000) (hv : val2M p L = false) (hv2 : fusM p L = false) : PureC Tryz.prog [] 30 [.agg [.int .i64 p, roC L]] (.tup [roR .i64 [], .bool false]) := by
  have k1 : val2M p (consR L.length fun i => (L.getD i Con.zero).rvs) = false := (by rw [consR_ro]; exact hv); have k2 : fusM p (consR L.length fun i => (L.getD i Con.zero).rvs) = false := (by rw [consR_ro]; exact hv2)
  have rr := fun (tp : List Bool) (ms : List Prop) h hm => pure_run evOk (callF_ok evOk (orcOf_ok entsJR_ok) 8) Tryz.func30 (A := [.agg [.int .i64 p, roC L]]) rfl none_ann rfl rfl evNg (tabs := []) (R := .tup [roR .i64 [], .bool false]) (tp := tp) (ms := ms) h hm
  refine rr [true, true] [(0 : Nat) = (0 : Nat), false = false, Dec (!fusM p (consR L.length fun i => (L.getD i Con.zero).rvs)) true, (∀ (i : Nat), i < L.length → (fun i => (L.getD i Con.zero).rvs) i = (Con.ofR ((fun i => (L.getD i Con.zero).rvs) i)).rvs) ∧ L.length ≤ (1000 : Nat), Dec (!val2M p (consR L.length fun i => (L.getD i Con.zero).rvs)) true, (∀ (i : Nat), i < L.length → (fun i => (L.getD i Con.zero).rvs) i = (Con.ofR ((fun i => (L.getD i Con.zero).rvs) i)).rvs) ∧ L.length ≤ (1000 : Nat)] (by kernel_rfl) ⟨?_, ?_, (dN k2), ?_, (dN k1), (?_ : (∀ (i : Nat), i < L.length → (fun i => (L.getD i Con.zero).rvs) i = (Con.ofR ((fun i => (L.getD i Con.zero).rvs) i)).rvs) ∧ L.length ≤ (1000 : Nat))⟩
  all_goals first | (first | (with_reducible rfl) | exact ⟨rfl, rfl⟩ | exact ⟨fun _ _ => rfl, hl⟩)
theorem rcmp_pure (p : Int) (L : List Con) (hn : L.length ≤ 1000) : PureC Tryz.prog [] 30 [.agg [.int .i64 p, roC L]] (.tup [roR .i64 (bR (shV p L) (partsM L)), .bool (shV p L)]) := by
  cases h : shV p L with
  | true => exact rcmp_yes p L (shV_ok h) (shV_ne h) h
  | false =>
    unfold shV at h
    simp only [Bool.or_eq_false_iff] at h
    exact rcmp_no p L hn h.1 h.2
set_option maxRecDepth 100000 in
theorem ttrn_yes (p : Int) (L : List Con) (hL : okL L) (hne : 0 < L.length) (hv : shV p L = true) : PureC Tryz.prog [] 31 [.agg [.int .i64 p, roC L]] (.tup [roR .i64 (chainsM L), .bool true]) := by
  have hl := hL.1
  have rr := fun (tp : List Bool) (ms : List Prop) h hm => pure_run evOk (callF_ok evOk (orcOf_ok entsJT_ok) 8) Tryz.func31 (A := [.agg [.int .i64 p, roC L]]) rfl none_ann rfl rfl evNg (tabs := []) (R := .tup [roR .i64 (chainsM L), .bool true]) (tp := tp) (ms := ms) h hm
  refine Or.elim (Bool.eq_false_or_eq_true (val2M p (consR L.length fun i => (L.getD i Con.zero).rvs))) (fun d1 => rr [false] [(chainsM (consR L.length fun i => (L.getD i Con.zero).rvs)).length = (chainsM L).length ∧ (fun i => [rI IntKind.i64 ((chainsM (consR L.length fun i => (L.getD i Con.zero).rvs)).getD i [])]) = fun i => [rI IntKind.i64 ((chainsM L).getD i [])], true = true, (∀ (i : Nat), i < L.length → (fun i => (L.getD i Con.zero).rvs) i = (Con.ofR ((fun i => (L.getD i Con.zero).rvs) i)).rvs) ∧ okL (consR L.length fun i => (L.getD i Con.zero).rvs) ∧ (0 : Nat) < L.length, Dec (!val2M p (consR L.length fun i => (L.getD i Con.zero).rvs)) false, (∀ (i : Nat), i < L.length → (fun i => (L.getD i Con.zero).rvs) i = (Con.ofR ((fun i => (L.getD i Con.zero).rvs) i)).rvs) ∧ L.length ≤ (1000 : Nat)] (by kernel_rfl) ⟨?_, ?_, ?_, (dN d1), (?_ : (∀ (i : Nat), i < L.length → (fun i => (L.getD i Con.zero).rvs) i = (Con.ofR ((fun i => (L.getD i Con.zero).rvs) i)).rvs) ∧ L.length ≤ (1000 : Nat))⟩)
           (fun d1 => Or.elim (Bool.eq_false_or_eq_true (fusM p (consR L.length fun i => (L.getD i Con.zero).rvs))) (fun d2 => rr [true, false] [(chainsM (consR L.length fun i => (L.getD i Con.zero).rvs)).length = (chainsM L).length ∧ (fun i => [rI IntKind.i64 ((chainsM (consR L.length fun i => (L.getD i Con.zero).rvs)).getD i [])]) = fun i => [rI IntKind.i64 ((chainsM L).getD i [])], true = true, (∀ (i : Nat), i < L.length → (fun i => (L.getD i Con.zero).rvs) i = (Con.ofR ((fun i => (L.getD i Con.zero).rvs) i)).rvs) ∧ okL (consR L.length fun i => (L.getD i Con.zero).rvs) ∧ (0 : Nat) < L.length, Dec (!fusM p (consR L.length fun i => (L.getD i Con.zero).rvs)) false, (∀ (i : Nat), i < L.length → (fun i => (L.getD i Con.zero).rvs) i = (Con.ofR ((fun i => (L.getD i Con.zero).rvs) i)).rvs) ∧ L.length ≤ (1000 : Nat), Dec (!val2M p (consR L.length fun i => (L.getD i Con.zero).rvs)) true, (∀ (i : Nat), i < L.length → (fun i => (L.getD i Con.zero).rvs) i = (Con.ofR ((fun i => (L.getD i Con.zero).rvs) i)).rvs) ∧ L.length ≤ (1000 : Nat)] (by kernel_rfl) ⟨?_, ?_, ?_, (dN d2), ?_, (dN d1), (?_ : (∀ (i : Nat), i < L.length → (fun i => (L.getD i Con.zero).rvs) i = (Con.ofR ((fun i => (L.getD i Con.zero).rvs) i)).rvs) ∧ L.length ≤ (1000 : Nat))⟩)
           (fun d2 => CtG.no ?_))
  all_goals first | (refine CtG.mk ?_; (rw [consR_ro] at d1 d2; unfold shV at hv; rw [d1, d2] at hv; cases hv)) | (first | (with_reducible rfl) | exact ⟨rfl, rfl⟩ | exact ⟨fun _ _ => rfl, hl⟩ | exact ⟨fun _ _ => rfl, by rw [consR_ro]; exact hL.e⟩ | exact ⟨fun _ _ => rfl, by rw [consR_ro]; exact hL, hne⟩ | (rw [consR_ro]; exact ⟨rfl, rfl⟩) | (rw [consR_ro]; done))
set_option maxRecDepth 100000 in
theorem ttrn_no (p : Int) (L : List Con) (hl : L.length ≤ 1000) (hv : val2M p L = false) (hv2 : fusM p L = false) : PureC Tryz.prog [] 31 [.agg [.int .i64 p, roC L]] (.tup [roR .i64 [], .bool false]) := by
  have k1 : val2M p (consR L.length fun i => (L.getD i Con.zero).rvs) = false := (by rw [consR_ro]; exact hv); have k2 : fusM p (consR L.length fun i => (L.getD i Con.zero).rvs) = false := (by rw [consR_ro]; exact hv2)
  have rr := fun (tp : List Bool) (ms : List Prop) h hm => pure_run evOk (callF_ok evOk (orcOf_ok entsJT_ok) 8) Tryz.func31 (A := [.agg [.int .i64 p, roC L]]) rfl none_ann rfl rfl evNg (tabs := []) (R := .tup [roR .i64 [], .bool false]) (tp := tp) (ms := ms) h hm
  refine rr [true, true] [(0 : Nat) = (0 : Nat), false = false, Dec (!fusM p (consR L.length fun i => (L.getD i Con.zero).rvs)) true, (∀ (i : Nat), i < L.length → (fun i => (L.getD i Con.zero).rvs) i = (Con.ofR ((fun i => (L.getD i Con.zero).rvs) i)).rvs) ∧ L.length ≤ (1000 : Nat), Dec (!val2M p (consR L.length fun i => (L.getD i Con.zero).rvs)) true, (∀ (i : Nat), i < L.length → (fun i => (L.getD i Con.zero).rvs) i = (Con.ofR ((fun i => (L.getD i Con.zero).rvs) i)).rvs) ∧ L.length ≤ (1000 : Nat)] (by kernel_rfl) ⟨?_, ?_, (dN k2), ?_, (dN k1), (?_ : (∀ (i : Nat), i < L.length → (fun i => (L.getD i Con.zero).rvs) i = (Con.ofR ((fun i => (L.getD i Con.zero).rvs) i)).rvs) ∧ L.length ≤ (1000 : Nat))⟩
  all_goals first | (first | (with_reducible rfl) | exact ⟨rfl, rfl⟩ | exact ⟨fun _ _ => rfl, hl⟩)
theorem ttrn_pure (p : Int) (L : List Con) (hn : L.length ≤ 1000) : PureC Tryz.prog [] 31 [.agg [.int .i64 p, roC L]] (.tup [roR .i64 (bR (shV p L) (chainsM L)), .bool (shV p L)]) := by
  cases h : shV p L with
  | true => exact ttrn_yes p L (shV_ok h) (shV_ne h) h
  | false =>
    unfold shV at h
    simp only [Bool.or_eq_false_iff] at h
    exact ttrn_no p L hn h.1 h.2
set_option maxRecDepth 100000 in
theorem rtrn_yes (p : Int) (L : List Con) (hL : okL L) (hne : 0 < L.length) (hv : shV p L = true) : PureC Tryz.prog [] 32 [.agg [.int .i64 p, roC L]] (.tup [roR .i64 (chainsM L), .bool true]) := by
  have hl := hL.1
  have rr := fun (tp : List Bool) (ms : List Prop) h hm => pure_run evOk (callF_ok evOk (orcOf_ok entsJR_ok) 8) Tryz.func32 (A := [.agg [.int .i64 p, roC L]]) rfl none_ann rfl rfl evNg (tabs := []) (R := .tup [roR .i64 (chainsM L), .bool true]) (tp := tp) (ms := ms) h hm
  refine Or.elim (Bool.eq_false_or_eq_true (val2M p (consR L.length fun i => (L.getD i Con.zero).rvs))) (fun d1 => rr [false] [(chainsM (consR L.length fun i => (L.getD i Con.zero).rvs)).length = (chainsM L).length ∧ (fun i => [rI IntKind.i64 ((chainsM (consR L.length fun i => (L.getD i Con.zero).rvs)).getD i [])]) = fun i => [rI IntKind.i64 ((chainsM L).getD i [])], true = true, (∀ (i : Nat), i < L.length → (fun i => (L.getD i Con.zero).rvs) i = (Con.ofR ((fun i => (L.getD i Con.zero).rvs) i)).rvs) ∧ okL (consR L.length fun i => (L.getD i Con.zero).rvs) ∧ (0 : Nat) < L.length, Dec (!val2M p (consR L.length fun i => (L.getD i Con.zero).rvs)) false, (∀ (i : Nat), i < L.length → (fun i => (L.getD i Con.zero).rvs) i = (Con.ofR ((fun i => (L.getD i Con.zero).rvs) i)).rvs) ∧ L.length ≤ (1000 : Nat)] (by kernel_rfl) ⟨?_, ?_, ?_, (dN d1), (?_ : (∀ (i : Nat), i < L.length → (fun i => (L.getD i Con.zero).rvs) i = (Con.ofR ((fun i => (L.getD i Con.zero).rvs) i)).rvs) ∧ L.length ≤ (1000 : Nat))⟩)
           (fun d1 => Or.elim (Bool.eq_false_or_eq_true (fusM p (consR L.length fun i => (L.getD i Con.zero).rvs))) (fun d2 => rr [true, false] [(chainsM (consR L.length fun i => (L.getD i Con.zero).rvs)).length = (chainsM L).length ∧ (fun i => [rI IntKind.i64 ((chainsM (consR L.length fun i => (L.getD i Con.zero).rvs)).getD i [])]) = fun i => [rI IntKind.i64 ((chainsM L).getD i [])], true = true, (∀ (i : Nat), i < L.length → (fun i => (L.getD i Con.zero).rvs) i = (Con.ofR ((fun i => (L.getD i Con.zero).rvs) i)).rvs) ∧ okL (consR L.length fun i => (L.getD i Con.zero).rvs) ∧ (0 : Nat) < L.length, Dec (!fusM p (consR L.length fun i => (L.getD i Con.zero).rvs)) false, (∀ (i : Nat), i < L.length → (fun i => (L.getD i Con.zero).rvs) i = (Con.ofR ((fun i => (L.getD i Con.zero).rvs) i)).rvs) ∧ L.length ≤ (1000 : Nat), Dec (!val2M p (consR L.length fun i => (L.getD i Con.zero).rvs)) true, (∀ (i : Nat), i < L.length → (fun i => (L.getD i Con.zero).rvs) i = (Con.ofR ((fun i => (L.getD i Con.zero).rvs) i)).rvs) ∧ L.length ≤ (1000 : Nat)] (by kernel_rfl) ⟨?_, ?_, ?_, (dN d2), ?_, (dN d1), (?_ : (∀ (i : Nat), i < L.length → (fun i => (L.getD i Con.zero).rvs) i = (Con.ofR ((fun i => (L.getD i Con.zero).rvs) i)).rvs) ∧ L.length ≤ (1000 : Nat))⟩)
           (fun d2 => CtG.no ?_))
  all_goals first | (refine CtG.mk ?_; (rw [consR_ro] at d1 d2; unfold shV at hv; rw [d1, d2] at hv; cases hv)) | (first | (with_reducible rfl) | exact ⟨rfl, rfl⟩ | exact ⟨fun _ _ => rfl, hl⟩ | exact ⟨fun _ _ => rfl, by rw [consR_ro]; exact hL.e⟩ | exact ⟨fun _ _ => rfl, by rw [consR_ro]; exact hL, hne⟩ | (rw [consR_ro]; exact ⟨rfl, rfl⟩) | (rw [consR_ro]; done))
set_option maxRecDepth 100000 in
theorem rtrn_no (p : Int) (L : List Con) (hl : L.length ≤ 1000) (hv : val2M p L = false) (hv2 : fusM p L = false) : PureC Tryz.prog [] 32 [.agg [.int .i64 p, roC L]] (.tup [roR .i64 [], .bool false]) := by
  have k1 : val2M p (consR L.length fun i => (L.getD i Con.zero).rvs) = false := (by rw [consR_ro]; exact hv); have k2 : fusM p (consR L.length fun i => (L.getD i Con.zero).rvs) = false := (by rw [consR_ro]; exact hv2)
  have rr := fun (tp : List Bool) (ms : List Prop) h hm => pure_run evOk (callF_ok evOk (orcOf_ok entsJR_ok) 8) Tryz.func32 (A := [.agg [.int .i64 p, roC L]]) rfl none_ann rfl rfl evNg (tabs := []) (R := .tup [roR .i64 [], .bool false]) (tp := tp) (ms := ms) h hm
  refine rr [true, true] [(0 : Nat) = (0 : Nat), false = false, Dec (!fusM p (consR L.length fun i => (L.getD i Con.zero).rvs)) true, (∀ (i : Nat), i < L.length → (fun i => (L.getD i Con.zero).rvs) i = (Con.ofR ((fun i => (L.getD i Con.zero).rvs) i)).rvs) ∧ L.length ≤ (1000 : Nat), Dec (!val2M p (consR L.length fun i => (L.getD i Con.zero).rvs)) true, (∀ (i : Nat), i < L.length → (fun i => (L.getD i Con.zero).rvs) i = (Con.ofR ((fun i => (L.getD i Con.zero).rvs) i)).rvs) ∧ L.length ≤ (1000 : Nat)] (by kernel_rfl) ⟨?_, ?_, (dN k2), ?_, (dN k1), (?_ : (∀ (i : Nat), i < L.length → (fun i => (L.getD i Con.zero).rvs) i = (Con.ofR ((fun i => (L.getD i Con.zero).rvs) i)).rvs) ∧ L.length ≤ (1000 : Nat))⟩
  all_goals first | (first | (with_reducible rfl) | exact ⟨rfl, rfl⟩ | exact ⟨fun _ _ => rfl, hl⟩)
theorem rtrn_pure (p : Int) (L : List Con) (hn : L.length ≤ 1000) : PureC Tryz.prog [] 32 [.agg [.int .i64 p, roC L]] (.tup [roR .i64 (bR (shV p L) (chainsM L)), .bool (shV p L)]) := by
  cases h : shV p L with
  | true => exact rtrn_yes p L (shV_ok h) (shV_ne h) h
  | false =>
    unfold shV at h
    simp only [Bool.or_eq_false_iff] at h
    exact rtrn_no p L hn h.1 h.2
end Go.Proofs.YtcfdaddablojlaaGreatDoor.S

/- Plain: the trains are all indices in order; the members of a compartment; how many there are. -/
set_option linter.unusedSimpArgs false
set_option linter.unusedVariables false
namespace Go.Proofs.YtcfdaddablojlaaGreatDoor.S
open Go.QfSy Go.RowKit

theorem chains_flat (L : List Con) : (chainsM L).flatten = (List.range L.length).map Int.ofNat := by
  unfold chainsM chA
  rw [(grp_iv (b := fun _ => true) (j := linkJ L) (fun _ _ => rfl) (by simp [linkJ]) L.length).flat, List.filter_eq_self.2 (fun _ _ => rfl)]
def cnt (P : List (List Int)) (j : Nat) : Nat := (P.take j).flatten.length
theorem cnt_succ {P : List (List Int)} {j : Nat} (hj : j < P.length) : cnt P (j + 1) = cnt P j + (rowAt P j).length := by
  unfold cnt
  rw [take_row hj, List.flatten_append, List.length_append]
  simp
theorem cnt_all {P : List (List Int)} {j : Nat} (hj : P.length ≤ j) : cnt P j = P.flatten.length := by
  unfold cnt
  rw [List.take_of_length_le hj]
theorem flat_get {P : List (List Int)} {j t : Nat} (hj : j < P.length) (ht : t < (rowAt P j).length) : P.flatten.getD (cnt P j + t) 0 = (rowAt P j).getD t 0 := by
  have e : P.flatten = (P.take j).flatten ++ (rowAt P j ++ (P.drop (j + 1)).flatten) := by
    conv => lhs; rw [← List.take_append_drop j P]
    rw [List.flatten_append, drop_row hj]
    rfl
  rw [e]
  unfold cnt
  generalize rowAt P j = r at ht
  simp only [List.getD_eq_getElem?_getD]
  rw [List.getElem?_append_right (by omega), show (P.take j).flatten.length + t - (P.take j).flatten.length = t by omega, List.getElem?_append_left ht]
theorem chain_at {L : List Con} {j t : Nat} (hj : j < (chainsM L).length) (ht : t < (rowAt (chainsM L) j).length) : (rowAt (chainsM L) j).getD t 0 = ((cnt (chainsM L) j + t : Nat) : Int) := by
  rw [← flat_get hj ht, chains_flat]
  have hlt : cnt (chainsM L) j + t < L.length := by
    have h1 := cnt_succ hj
    have h2 : cnt (chainsM L) (j + 1) ≤ (chainsM L).flatten.length := by
      unfold cnt
      conv => rhs; rw [← List.take_append_drop (j + 1) (chainsM L), List.flatten_append, List.length_append]
      omega
    rw [chains_flat, List.length_map, List.length_range] at h2
    omega
  simp [List.getD_eq_getElem?_getD, hlt]
theorem chain_cnt {L : List Con} {j : Nat} (hj : (chainsM L).length ≤ j) : cnt (chainsM L) j = L.length := by
  rw [cnt_all hj, chains_flat]; simp
theorem cnt_le (P : List (List Int)) (j : Nat) : cnt P j ≤ P.flatten.length := by
  unfold cnt
  conv => rhs; rw [← List.take_append_drop j P, List.flatten_append, List.length_append]
  omega
/- a member of a compartment -/
theorem prt_at {L : List Con} {l : List Int} (hl : l ∈ partsM L) {t : Nat} (ht : t < l.length) : 0 ≤ l.getD t 0 ∧ l.getD t 0 < (L.length : Int) ∧ (at_ L (l.getD t 0).toNat).odd = true ∧ (0 < t → l.getD (t - 1) 0 + 1 = l.getD t 0 ∧ 1 ≤ l.getD t 0 ∧ (at_ L (l.getD t 0).toNat).exp = (at_ L ((l.getD t 0).toNat - 1)).exp + 1) := by
  have hin := (parts_rows l hl).2.1.at ht
  obtain ⟨s, n, rfl, _, hj⟩ := part_row hl
  rw [ivN_len] at ht
  rw [getD_ivN ht] at hin ⊢
  have hu := hj t (by omega)
  refine ⟨hin.1, hin.2, hu.1, fun h0 => ?_⟩
  rw [getD_ivN (by omega)]
  have hb := hu.2 h0
  simp only [joinB, Bool.and_eq_true, decide_eq_true_eq] at hb
  refine ⟨by omega, by omega, ?_⟩
  simp only [Int.toNat_natCast]
  omega
def oddN (L : List Con) (k : Nat) : Nat := ((List.range k).filter (oddB L)).length
theorem oddN_0 (L : List Con) : oddN L 0 = 0 := rfl
theorem oddN_t {L : List Con} {k : Nat} (h : oddB L k = true) : oddN L (k + 1) = oddN L k + 1 := by
  unfold oddN; rw [List.range_succ, List.filter_append]; simp [h]
theorem oddN_f {L : List Con} {k : Nat} (h : oddB L k = false) : oddN L (k + 1) = oddN L k := by
  unfold oddN; rw [List.range_succ, List.filter_append]; simp [h]
theorem oddN_le (L : List Con) : ∀ k, oddN L k ≤ k
  | 0 => Nat.le_refl _
  | k + 1 => by
    have := oddN_le L k
    cases h : oddB L k with
    | true => rw [oddN_t h]; omega
    | false => rw [oddN_f h]; omega
theorem parts_cnt {L : List Con} {j : Nat} (hj : (partsM L).length ≤ j) : cnt (partsM L) j = oddN L L.length := by
  rw [cnt_all hj]
  unfold partsM oddN
  rw [(parts_iv L).flat]; simp
theorem parts_cnt_le {L : List Con} (j : Nat) : cnt (partsM L) j ≤ L.length := by
  have h1 := cnt_le (partsM L) j
  have h2 := parts_cnt (L := L) (Nat.le_refl _)
  rw [cnt_all (Nat.le_refl _)] at h2
  have := oddN_le L L.length
  omega
end Go.Proofs.YtcfdaddablojlaaGreatDoor.S

/- TrainCovers returns true. -/
set_option linter.unusedSimpArgs false
set_option linter.unusedVariables false
namespace Go.Proofs.YtcfdaddablojlaaGreatDoor.S
open Go.QfSy Go.RowKit

abbrev RaC (kx : Int) (X : List Prt) (L : List Con) : Prop := PureC Tryz.prog [] 34 [.agg [.int .u8 kx, roP X], .int .i64 8] (.agg [.int .i64 2, roC L])
noncomputable def entsCo (kx : Int) (X : List Prt) (L : List Con) : List OEnt := [
  ⟨34, [], fun A => match A with
    | [.agg [.int .u8 q, .sl n 5 row], .int .i64 m] => some (.agg [.int .i64 2, roC L], [q = kx ∧ m = 8 ∧ n = X.length ∧ ∀ i, i < n → row i = (X.getD i Prt.zero).rvs])
    | _ => none⟩,
  ⟨31, [], fun A => match A with
    | [.agg [.int .i64 p, .sl n 5 row]] => some (.tup [roR .i64 (chainsM (consR n row)), .bool true], [(∀ i, i < n → row i = (Con.ofR (row i)).rvs) ∧ p = 2 ∧ val2M 2 (consR n row) = true])
    | _ => none⟩,
  ⟨29, [], fun A => match A with
    | [.agg [.int .i64 p, .sl n 5 row]] => some (.tup [roR .i64 (partsM (consR n row)), .bool true], [(∀ i, i < n → row i = (Con.ofR (row i)).rvs) ∧ p = 2 ∧ val2M 2 (consR n row) = true])
    | _ => none⟩,
  ⟨17, tabs, fun A => match A with
    | [] => some (.bool true, [])
    | _ => none⟩]
theorem sh_val {L : List Con} (h : val2M 2 L = true) : shV 2 L = true := by unfold shV; rw [h]; rfl
theorem entsCo_ok {kx : Int} {X : List Prt} {L : List Con} (hra : RaC kx X L) : ∀ e ∈ entsCo kx X L, EntOk Tryz.prog e := by
  intro e he
  simp only [entsCo, List.mem_cons, List.not_mem_nil, or_false] at he
  rcases he with rfl | rfl | rfl | rfl
  all_goals
    intro A R ms h hm
    simp only at h
    split at h
    all_goals first | (cases h; done) | cases h
  · obtain ⟨h1, h2, h3, h4⟩ := all_one hm
    subst h1
    subst h2
    subst h3
    exact hra.args (fun G Args hr => by
      cases hr with
      | cons k0 hr =>
        cases k0 with
        | agg k0 =>
          cases k0 with
          | cons a0 k0 =>
            cases k0 with
            | cons a1 k0 =>
              cases k0
              exact .cons (.agg (.cons a0 (.cons (a1.rows h4) .nil))) hr)
  · obtain ⟨h1, h2, h3⟩ := all_one hm
    subst h2
    obtain ⟨a, _, c, _⟩ := val2_ok h3
    exact PureC.imp (ttrn_yes 2 _ a c (sh_val h3)) (.cons (.agg (.cons .same (.cons (.con h1) .nil))) .nil)
  · obtain ⟨h1, h2, h3⟩ := all_one hm
    subst h2
    obtain ⟨a, _, c, _⟩ := val2_ok h3
    exact PureC.imp (tcmp_yes 2 _ a c (sh_val h3)) (.cons (.agg (.cons .same (.cons (.con h1) .nil))) .nil)
  · exact awake_pure
noncomputable def entsRw : List OEnt := [
  ⟨59, [], fun A => match A with
    | [.agg [.int .u8 pr, .sl n 5 row], .int .i64 most, .bool two] => some (roC (listV most two (prtR n row)), [(∀ i, i < n → row i = (Prt.ofR (row i)).rvs) ∧ (∀ p ∈ prtR n row, p.ok) ∧ 1 ≤ most ∧ most ≤ 100 ∧ n ≤ 1000])
    | _ => none⟩]
theorem entsRw_ok : ∀ e ∈ entsRw, EntOk Tryz.prog e := by
  intro e he
  rw [List.mem_singleton.1 he]
  intro A R ms h hm
  simp only at h
  split at h
  · cases h
    obtain ⟨h1, h2, h3, h4, h5⟩ := all_one hm
    exact list_rows h1 h2 h3 h4 h5
  · cases h
set_option maxRecDepth 100000 in
theorem rawF (kx : Int) (X : List Prt) (hX : ∀ p ∈ X, p.ok) (hn : X.length ≤ 900) : PureC Tryz.prog [] 34 [.agg [.int .u8 kx, roP X], .int .i64 8] (.agg [.int .i64 2, roC (listV 8 true X)]) := by
  have rr := fun (tp : List Bool) (ms : List Prop) h hm => pure_run evOk (callF_ok evOk (orcOf_ok entsRw_ok) 8) Tryz.func34 (A := [.agg [.int .u8 kx, roP X], .int .i64 8]) rfl none_ann rfl rfl evNg (tabs := []) (R := .agg [.int .i64 2, roC (listV 8 true X)]) (tp := tp) (ms := ms) h hm
  refine rr [] [(2 : Int) = (2 : Int), (listV (8 : Int) true (prtR X.length fun i => (X.getD i Prt.zero).rvs)).length = (listV (8 : Int) true X).length ∧ (fun i => ((listV (8 : Int) true (prtR X.length fun i => (X.getD i Prt.zero).rvs)).getD i Con.zero).rvs) = fun i => ((listV (8 : Int) true X).getD i Con.zero).rvs, (∀ (i : Nat), i < X.length → (fun i => (X.getD i Prt.zero).rvs) i = (Prt.ofR ((fun i => (X.getD i Prt.zero).rvs) i)).rvs) ∧ (∀ (p : Prt), (p ∈ prtR X.length fun i => (X.getD i Prt.zero).rvs) → p.ok) ∧ (1 : Int) ≤ (8 : Int) ∧ (8 : Int) ≤ (100 : Int) ∧ X.length ≤ (1000 : Nat)] (by kernel_rfl) ⟨?_, ?_, (?_ : (∀ (i : Nat), i < X.length → (fun i => (X.getD i Prt.zero).rvs) i = (Prt.ofR ((fun i => (X.getD i Prt.zero).rvs) i)).rvs) ∧ (∀ (p : Prt), (p ∈ prtR X.length fun i => (X.getD i Prt.zero).rvs) → p.ok) ∧ (1 : Int) ≤ (8 : Int) ∧ (8 : Int) ≤ (100 : Int) ∧ X.length ≤ (1000 : Nat))⟩
  all_goals first | (first | (with_reducible rfl) | exact ⟨rfl, rfl⟩ | exact ⟨fun _ _ => rfl, by rw [prtR_ro]; exact hX, by decide, by decide, by omega⟩ | (rw [prtR_ro]; exact ⟨rfl, rfl⟩))
noncomputable def cvH (L : List Con) : List (Nat × Blk) := [(1002, ⟨.plain [.vint .i64 2, (roC L).av], 24, 0, false, true⟩)] ++ tabList tabs
noncomputable def cvT (L : List Con) : List (Nat × AV) := [(3, .ptr 1002 0), (5, .vbool true), (7, .vbool true)]
noncomputable def c1T (L : List Con) (j : Nat) : List (Nat × AV) := cvT L ++ [(6, (roR .i64 (partsM L)).av), (35, (roR .i64 (chainsM L)).av), (36, .vint .i64 (chainsM L).length), (37, .vint .i64 (j : Int))]
noncomputable def c2Ann (L : List Con) (j : Nat) : Ann := ⟨⟨c1T L j ++ [(8, .vint .i64 (cnt (chainsM L) j : Int)), (41, (rI .i64 (rowAt (chainsM L) j)).av), (42, .vint .i64 (rowAt (chainsM L) j).length), (43, .int .i64 0)], cvH L, 1500⟩, none, fun _ =>
  (.exit 2, ⟨c1T L j ++ [(8, .vint .i64 ((cnt (chainsM L) j + (rowAt (chainsM L) j).length : Nat) : Int))], cvH L, 1500⟩)⟩
theorem chain_lt {L : List Con} {j t : Nat} (ht : t < (rowAt (chainsM L) j).length) : j < (chainsM L).length := by
  rcases Nat.lt_or_ge j (chainsM L).length with h | h
  · exact h
  · simp [rowAt, h] at ht
theorem chain_b (L : List Con) (j : Nat) : cnt (chainsM L) j ≤ L.length := by
  have := cnt_le (chainsM L) j
  rw [chains_flat] at this
  simpa using this
set_option maxRecDepth 100000 in
theorem c2_loop (L : List Con) (j : Nat) (hn : L.length ≤ 1000) : AnnOk Tryz.prog EV.ng (Nat.max 1 Tryz.f8.ntmps) (bodyAt Tryz.f8 [0, 1, 1, 0, 0, 1, 1, 0, 0, 1, 0, 1, 1, 1, 1, 1, 1]) (c2Ann L j) := by
  refine ann_of evOk (callF_ok evOk (noOrc_ok _ _) 8) none_ann (by kernel_rfl) (by kernel_rfl) (fun i : Nat => (fun (t : Nat) => (⟨c1T L j ++ [(8, .vint .i64 ((cnt (chainsM L) j + t : Nat) : Int)), (41, (rI .i64 (rowAt (chainsM L) j)).av), (42, .vint .i64 (rowAt (chainsM L) j).length), (43, .vint .i64 (t : Int))], cvH L, 1500⟩ : St)) i) (fun i : Nat => (fun (t : Nat) => ((rowAt (chainsM L) j).length - t : Nat)) i) (fun (d : Bool) (i : Nat) => (fun (t : Nat) => (t ≤ (rowAt (chainsM L) j).length : Prop)) i) ?_ ?_
  · intro d hd
    exact ⟨(0), [true = true, true = true, (partsM L).length = (partsM L).length ∧ (fun i => [rI IntKind.i64 ((partsM L).getD i [])]) = fun i => [rI IntKind.i64 ((partsM L).getD i [])], (chainsM L).length = (chainsM L).length ∧ (fun i => [rI IntKind.i64 ((chainsM L).getD i [])]) = fun i => [rI IntKind.i64 ((chainsM L).getD i [])], (↑(chainsM L).length : Int) = (↑(chainsM L).length : Int), (↑j : Int) = (↑j : Int), (↑(cnt (chainsM L) j) : Int) = (↑(cnt (chainsM L) j + (0 : Nat)) : Int), (rowAt (chainsM L) j).length = (rowAt (chainsM L) j).length ∧ (fun j_1 => [RV.int IntKind.i64 ((rowAt (chainsM L) j).getD j_1 (0 : Int))]) = fun j_1 => [RV.int IntKind.i64 ((rowAt (chainsM L) j).getD j_1 (0 : Int))], (↑(rowAt (chainsM L) j).length : Int) = (↑(rowAt (chainsM L) j).length : Int), (0 : Int) = (↑(0 : Nat) : Int), (2 : Int) = (2 : Int), L.length = L.length ∧ (fun i => (L.getD i Con.zero).rvs) = fun i => (L.getD i Con.zero).rvs], by kernel_rfl, (by refine ⟨?_, ?_, ?_, ?_, ?_, ?_, ?_, ?_, ?_, ?_, ?_, (?_ : L.length = L.length ∧ (fun i => (L.getD i Con.zero).rvs) = fun i => (L.getD i Con.zero).rvs)⟩ <;> (first | (with_reducible rfl) | exact ⟨rfl, rfl⟩ | (simp; done))), (by exact Nat.zero_le _)⟩
  · rintro d hd t hI
    cases d
    · -- d = false
      exact Bool.noConfusion (show false = true from hd)
    · -- d = true
      have ht : t ≤ (rowAt (chainsM L) j).length := hI
      have hr : (rowAt (chainsM L) j).length ≤ L.length := by
        rcases Nat.lt_or_ge j (chainsM L).length with h | h
        · exact (chains_rows _ (rowAt_mem h)).2.2
        · simp [rowAt, h]
      have hb := chain_b L j
      have ek : IntKind.i64.wrap ((t : Int) + 1) = ((t + 1 : Nat) : Int) := by rw [w64 (by omega) (by omega)]; omega
      have ec : IntKind.i64.wrap (((cnt (chainsM L) j + t : Nat) : Int) + 1) = ((cnt (chainsM L) j + (t + 1) : Nat) : Int) := by rw [w64 (by omega) (by omega)]; omega
      refine Or.elim (Bool.eq_false_or_eq_true (decide ((↑t : Int) < (↑(rowAt (chainsM L) j).length : Int)))) (fun d1 => Or.elim (Bool.eq_false_or_eq_true ((rowAt (chainsM L) j).getD t (0 : Int) == (↑(cnt (chainsM L) j + t) : Int))) (fun d2 => ⟨[true, false], .inl ⟨(t + 1), [true = true, true = true, (partsM L).length = (partsM L).length ∧ (fun i => [rI IntKind.i64 ((partsM L).getD i [])]) = fun i => [rI IntKind.i64 ((partsM L).getD i [])], (chainsM L).length = (chainsM L).length ∧ (fun i => [rI IntKind.i64 ((chainsM L).getD i [])]) = fun i => [rI IntKind.i64 ((chainsM L).getD i [])], (↑(chainsM L).length : Int) = (↑(chainsM L).length : Int), (↑j : Int) = (↑j : Int), IntKind.i64.wrap ((↑(cnt (chainsM L) j + t) : Int) + (1 : Int)) = (↑(cnt (chainsM L) j + (t + (1 : Nat))) : Int), (rowAt (chainsM L) j).length = (rowAt (chainsM L) j).length ∧ (fun j_1 => [RV.int IntKind.i64 ((rowAt (chainsM L) j).getD j_1 (0 : Int))]) = fun j_1 => [RV.int IntKind.i64 ((rowAt (chainsM L) j).getD j_1 (0 : Int))], (↑(rowAt (chainsM L) j).length : Int) = (↑(rowAt (chainsM L) j).length : Int), IntKind.i64.wrap ((↑t : Int) + (1 : Int)) = (↑(t + (1 : Nat)) : Int), (2 : Int) = (2 : Int), L.length = L.length ∧ (fun i => (L.getD i Con.zero).rvs) = fun i => (L.getD i Con.zero).rvs, Dec ((rowAt (chainsM L) j).getD t (0 : Int) != (↑(cnt (chainsM L) j + t) : Int)) false, (0 : Int) ≤ (↑t : Int) ∧ (↑t : Int) < (↑(rowAt (chainsM L) j).length : Int), Dec (decide ((↑t : Int) < (↑(rowAt (chainsM L) j).length : Int))) true], by kernel_rfl, ⟨?_, ?_, ?_, ?_, ?_, ?_, ?_, ?_, ?_, ?_, ?_, ?_, (dN d2), ?_, d1⟩, MuG.out ?_, InG.out ?_⟩⟩)
           (fun d2 => CtG.no ?_))
           (fun d1 => ⟨[false], .inr ⟨[true = true, true = true, (partsM L).length = (partsM L).length ∧ (fun i => [rI IntKind.i64 ((partsM L).getD i [])]) = fun i => [rI IntKind.i64 ((partsM L).getD i [])], (chainsM L).length = (chainsM L).length ∧ (fun i => [rI IntKind.i64 ((chainsM L).getD i [])]) = fun i => [rI IntKind.i64 ((chainsM L).getD i [])], (↑(chainsM L).length : Int) = (↑(chainsM L).length : Int), (↑j : Int) = (↑j : Int), (↑(cnt (chainsM L) j + t) : Int) = (↑(cnt (chainsM L) j + (rowAt (chainsM L) j).length) : Int), (2 : Int) = (2 : Int), L.length = L.length ∧ (fun i => (L.getD i Con.zero).rvs) = fun i => (L.getD i Con.zero).rvs, Dec (decide ((↑t : Int) < (↑(rowAt (chainsM L) j).length : Int))) false], by kernel_rfl, ⟨?_, ?_, ?_, ?_, ?_, ?_, ?_, ?_, ?_, d1⟩, rfl⟩⟩)
      all_goals first | (refine MuG.mk ?_; (simp only [decide_eq_true_eq] at *; show (rowAt (chainsM L) j).length - (t + 1) < (rowAt (chainsM L) j).length - t; omega)) | (refine InG.mk ?_; (simp only [decide_eq_true_eq] at *; show t + 1 ≤ _; omega)) | (refine CtG.mk ?_; (simp only [Int.toNat_natCast, decide_eq_true_eq, decide_eq_false_iff_not, beq_eq_false_iff_ne, ne_eq] at *; have h1 : t < (rowAt (chainsM L) j).length := (by omega); exact d2 (chain_at (chain_lt h1) h1))) | (first | (with_reducible rfl) | exact ⟨rfl, rfl⟩ | ((try simp only [ek, ec, Int.toNat_natCast, decide_eq_true_eq, decide_eq_false_iff_not] at *) <;> omega))
noncomputable def c1Ann (L : List Con) : Ann := ⟨⟨cvT L ++ [(6, (roR .i64 (partsM L)).av), (8, .int .i64 0), (35, (roR .i64 (chainsM L)).av), (36, .vint .i64 (chainsM L).length), (37, .int .i64 0)], cvH L, 1500⟩, none, fun _ =>
  (.exit 0, ⟨cvT L ++ [(6, (roR .i64 (partsM L)).av), (8, .vint .i64 L.length)], cvH L, 1500⟩)⟩
set_option maxRecDepth 100000 in
theorem c1_loop (L : List Con) (hn : L.length ≤ 1000) : AnnOk Tryz.prog EV.ng (Nat.max 1 Tryz.f8.ntmps) (bodyAt Tryz.f8 [0, 1, 0, 1, 1, 1, 1, 1, 1]) (c1Ann L) := by
  refine ann_ofI evOk (callF_ok evOk (noOrc_ok _ _) 8) (by kernel_rfl) (by kernel_rfl) (fun i : Nat => (fun (j : Nat) => (⟨c1T L j ++ [(8, .vint .i64 (cnt (chainsM L) j : Int))], cvH L, 1500⟩ : St)) i) (fun i : Nat => (fun (j : Nat) => ((chainsM L).length - j : Nat)) i) (fun (d : Bool) (i : Nat) => (fun (j : Nat) => (j ≤ (chainsM L).length : Prop)) i) (fun i : Nat => (fun (j : Nat) => ([([0, 1, 1, 0, 0, 1, 1, 0, 0, 1, 0, 1, 1, 1, 1, 1, 1], c2Ann L j)] : List (List Nat × Ann))) i) ?_ ?_ ?_
  · rintro d hd j hI
    exact one_ann (c2_loop L j hn)
  · intro d hd
    exact ⟨(0), [true = true, true = true, (partsM L).length = (partsM L).length ∧ (fun i => [rI IntKind.i64 ((partsM L).getD i [])]) = fun i => [rI IntKind.i64 ((partsM L).getD i [])], (chainsM L).length = (chainsM L).length ∧ (fun i => [rI IntKind.i64 ((chainsM L).getD i [])]) = fun i => [rI IntKind.i64 ((chainsM L).getD i [])], (↑(chainsM L).length : Int) = (↑(chainsM L).length : Int), (0 : Int) = (↑(0 : Nat) : Int), (0 : Int) = (↑(cnt (chainsM L) (0 : Nat)) : Int), (2 : Int) = (2 : Int), L.length = L.length ∧ (fun i => (L.getD i Con.zero).rvs) = fun i => (L.getD i Con.zero).rvs], by kernel_rfl, (by refine ⟨?_, ?_, ?_, ?_, ?_, ?_, ?_, ?_, (?_ : L.length = L.length ∧ (fun i => (L.getD i Con.zero).rvs) = fun i => (L.getD i Con.zero).rvs)⟩ <;> (first | rfl | assumption | omega | simp_all)), (by exact Nat.zero_le _)⟩
  · rintro d hd j hI
    cases d
    · -- d = false
      exact Bool.noConfusion (show false = true from hd)
    · -- d = true
      have hj : j ≤ (chainsM L).length := hI
      have hc := chains_len (L := L)
      have ek : IntKind.i64.wrap ((j : Int) + 1) = ((j + 1 : Nat) : Int) := by rw [w64 (by omega) (by omega)]; omega
      refine Or.elim (Bool.eq_false_or_eq_true (decide ((↑j : Int) < (↑(chainsM L).length : Int)))) (fun d1 => ⟨[true], .inl ⟨(j + 1), [true = true, true = true, (partsM L).length = (partsM L).length ∧ (fun i => [rI IntKind.i64 ((partsM L).getD i [])]) = fun i => [rI IntKind.i64 ((partsM L).getD i [])], (chainsM L).length = (chainsM L).length ∧ (fun i => [rI IntKind.i64 ((chainsM L).getD i [])]) = fun i => [rI IntKind.i64 ((chainsM L).getD i [])], (↑(chainsM L).length : Int) = (↑(chainsM L).length : Int), IntKind.i64.wrap ((↑j : Int) + (1 : Int)) = (↑(j + (1 : Nat)) : Int), (↑(cnt (chainsM L) j + (rowAt (chainsM L) j).length) : Int) = (↑(cnt (chainsM L) (j + (1 : Nat))) : Int), (2 : Int) = (2 : Int), L.length = L.length ∧ (fun i => (L.getD i Con.zero).rvs) = fun i => (L.getD i Con.zero).rvs, true = true, true = true, (partsM L).length = (partsM L).length ∧ (fun i => [rI IntKind.i64 ((partsM L).getD i [])]) = fun i => [rI IntKind.i64 ((partsM L).getD i [])], (chainsM L).length = (chainsM L).length ∧ (fun i => [rI IntKind.i64 ((chainsM L).getD i [])]) = fun i => [rI IntKind.i64 ((chainsM L).getD i [])], (↑(chainsM L).length : Int) = (↑(chainsM L).length : Int), (↑j : Int) = (↑j : Int), (↑(cnt (chainsM L) j) : Int) = (↑(cnt (chainsM L) j) : Int), ((chainsM L).getD j []).length = (rowAt (chainsM L) j).length ∧ (fun j_1 => [RV.int IntKind.i64 (((chainsM L).getD j []).getD j_1 (0 : Int))]) = fun j_1 => [RV.int IntKind.i64 ((rowAt (chainsM L) j).getD j_1 (0 : Int))], (↑((chainsM L).getD j []).length : Int) = (↑(rowAt (chainsM L) j).length : Int), (2 : Int) = (2 : Int), L.length = L.length ∧ (fun i => (L.getD i Con.zero).rvs) = fun i => (L.getD i Con.zero).rvs, (0 : Int) ≤ (↑j : Int) ∧ (↑j : Int) < (↑(chainsM L).length : Int), Dec (decide ((↑j : Int) < (↑(chainsM L).length : Int))) true], by kernel_rfl, ⟨?_, ?_, ?_, ?_, ?_, ?_, ?_, ?_, ?_, ?_, ?_, ?_, ?_, ?_, ?_, ?_, ?_, ?_, ?_, ?_, ?_, d1⟩, MuG.out ?_, InG.out ?_⟩⟩)
           (fun d1 => ⟨[false], .inr ⟨[true = true, true = true, (partsM L).length = (partsM L).length ∧ (fun i => [rI IntKind.i64 ((partsM L).getD i [])]) = fun i => [rI IntKind.i64 ((partsM L).getD i [])], (↑(cnt (chainsM L) j) : Int) = (↑L.length : Int), (2 : Int) = (2 : Int), L.length = L.length ∧ (fun i => (L.getD i Con.zero).rvs) = fun i => (L.getD i Con.zero).rvs, Dec (decide ((↑j : Int) < (↑(chainsM L).length : Int))) false], by kernel_rfl, ⟨?_, ?_, ?_, ?_, ?_, ?_, d1⟩, rfl⟩⟩)
      all_goals first | (refine MuG.mk ?_; (simp only [decide_eq_true_eq] at *; show (chainsM L).length - (j + 1) < (chainsM L).length - j; omega)) | (refine InG.mk ?_; (simp only [decide_eq_true_eq] at *; show j + 1 ≤ _; omega)) | (refine CtG.mk ?_; (simp_all)) | (first | (with_reducible rfl) | exact ⟨rfl, rfl⟩ | ((try simp only [ek, Int.toNat_natCast, decide_eq_true_eq, decide_eq_false_iff_not] at *) <;> first | omega | (rw [cnt_succ (by omega)]; done) | (rw [chain_cnt (by omega)]; done)))
noncomputable def c3T (L : List Con) (j : Nat) : List (Nat × AV) := cvT L ++ [(8, .vint .i64 L.length), (54, (roR .i64 (partsM L)).av), (55, .vint .i64 (partsM L).length), (56, .vint .i64 (j : Int))]
noncomputable def c4Ann (L : List Con) (j : Nat) : Ann := ⟨⟨c3T L j ++ [(15, (rI .i64 (rowAt (partsM L) j)).av), (13, .vint .i64 (cnt (partsM L) j : Int)), (60, (rI .i64 (rowAt (partsM L) j)).av), (61, .vint .i64 (rowAt (partsM L) j).length), (62, .int .i64 0)], cvH L, 1500⟩, none, fun _ =>
  (.exit 6, ⟨c3T L j ++ [(13, .vint .i64 ((cnt (partsM L) j + (rowAt (partsM L) j).length : Nat) : Int))], cvH L, 1500⟩)⟩
theorem part_lt {L : List Con} {j t : Nat} (ht : t < (rowAt (partsM L) j).length) : j < (partsM L).length := by
  rcases Nat.lt_or_ge j (partsM L).length with h | h
  · exact h
  · simp [rowAt, h] at ht
theorem part_m {L : List Con} {j t : Nat} (ht : t < (rowAt (partsM L) j).length) : 0 ≤ (rowAt (partsM L) j).getD t 0 ∧ (rowAt (partsM L) j).getD t 0 < (L.length : Int) ∧ (at_ L ((rowAt (partsM L) j).getD t 0).toNat).odd = true ∧ (0 < t → (rowAt (partsM L) j).getD (t - 1) 0 + 1 = (rowAt (partsM L) j).getD t 0 ∧ 1 ≤ (rowAt (partsM L) j).getD t 0 ∧ (at_ L ((rowAt (partsM L) j).getD t 0).toNat).exp = (at_ L (((rowAt (partsM L) j).getD t 0).toNat - 1)).exp + 1) := prt_at (rowAt_mem (part_lt ht)) ht
theorem c4_no {L : List Con} (hL : okL L) {l : List Int} {t : Nat} (hr : l.length ≤ L.length) (hn : L.length ≤ 1000) (h : 0 ≤ l.getD t 0 ∧ l.getD t 0 < (L.length : Int) ∧ (at_ L (l.getD t 0).toNat).odd = true ∧ (0 < t → l.getD (t - 1) 0 + 1 = l.getD t 0 ∧ 1 ≤ l.getD t 0 ∧ (at_ L (l.getD t 0).toNat).exp = (at_ L ((l.getD t 0).toNat - 1)).exp + 1))
    (k : l.getD t 0 < 0 ∨ (L.length : Int) ≤ l.getD t 0 ∨ (L.getD (l.getD t 0).toNat Con.zero).odd = false ∨ (0 < t ∧ ((l.getD t 0 == IntKind.i64.wrap (l.getD (t - 1) 0 + 1)) = false ∨ ((L.getD (l.getD t 0).toNat Con.zero).exp == IntKind.i64.wrap ((L.getD (IntKind.i64.wrap (l.getD t 0 - 1)).toNat Con.zero).exp + 1)) = false))) : False := by
  obtain ⟨h1, h2, h3, h4⟩ := h
  rcases k with k | k | k | ⟨k0, k⟩
  · omega
  · omega
  · simp only [at_] at h3; rw [h3] at k; cases k
  · obtain ⟨g1, g2, g3⟩ := h4 k0
    rcases k with k | k
    · rw [w64 (by omega) (by omega), g1, beq_self_eq_true] at k; cases k
    · rw [w64 (n := l.getD t 0 - 1) (by omega) (by omega), show (l.getD t 0 - 1).toNat = (l.getD t 0).toNat - 1 by omega] at k
      have h5 := hL.e.at' ((l.getD t 0).toNat - 1)
      simp only [at_] at g3 h5
      rw [w64 (by omega) (by omega), g3, beq_self_eq_true] at k; cases k
set_option maxHeartbeats 2000000 in
set_option maxRecDepth 100000 in
theorem c4_loop (L : List Con) (j : Nat) (hL : okL L) : AnnOk Tryz.prog EV.ng (Nat.max 1 Tryz.f8.ntmps) (bodyAt Tryz.f8 [0, 1, 1, 0, 0, 1, 1, 0, 0, 1, 0, 1, 1, 1, 1, 1, 1, 1, 1]) (c4Ann L j) := by
  refine ann_of evOk (callF_ok evOk (noOrc_ok _ _) 8) none_ann (by kernel_rfl) (by kernel_rfl) (fun i : Nat => (fun (t : Nat) => (⟨c3T L j ++ [(15, (rI .i64 (rowAt (partsM L) j)).av), (13, .vint .i64 ((cnt (partsM L) j + t : Nat) : Int)), (60, (rI .i64 (rowAt (partsM L) j)).av), (61, .vint .i64 (rowAt (partsM L) j).length), (62, .vint .i64 (t : Int))], cvH L, 1500⟩ : St)) i) (fun i : Nat => (fun (t : Nat) => ((rowAt (partsM L) j).length - t : Nat)) i) (fun (d : Bool) (i : Nat) => (fun (t : Nat) => (t ≤ (rowAt (partsM L) j).length : Prop)) i) ?_ ?_
  · intro d hd
    exact ⟨(0), [true = true, true = true, (↑L.length : Int) = (↑L.length : Int), (partsM L).length = (partsM L).length ∧ (fun i => [rI IntKind.i64 ((partsM L).getD i [])]) = fun i => [rI IntKind.i64 ((partsM L).getD i [])], (↑(partsM L).length : Int) = (↑(partsM L).length : Int), (↑j : Int) = (↑j : Int), (rowAt (partsM L) j).length = (rowAt (partsM L) j).length ∧ (fun j_1 => [RV.int IntKind.i64 ((rowAt (partsM L) j).getD j_1 (0 : Int))]) = fun j_1 => [RV.int IntKind.i64 ((rowAt (partsM L) j).getD j_1 (0 : Int))], (↑(cnt (partsM L) j) : Int) = (↑(cnt (partsM L) j + (0 : Nat)) : Int), (rowAt (partsM L) j).length = (rowAt (partsM L) j).length ∧ (fun j_1 => [RV.int IntKind.i64 ((rowAt (partsM L) j).getD j_1 (0 : Int))]) = fun j_1 => [RV.int IntKind.i64 ((rowAt (partsM L) j).getD j_1 (0 : Int))], (↑(rowAt (partsM L) j).length : Int) = (↑(rowAt (partsM L) j).length : Int), (0 : Int) = (↑(0 : Nat) : Int), (2 : Int) = (2 : Int), L.length = L.length ∧ (fun i => (L.getD i Con.zero).rvs) = fun i => (L.getD i Con.zero).rvs], by kernel_rfl, (by refine ⟨?_, ?_, ?_, ?_, ?_, ?_, ?_, ?_, ?_, ?_, ?_, ?_, (?_ : L.length = L.length ∧ (fun i => (L.getD i Con.zero).rvs) = fun i => (L.getD i Con.zero).rvs)⟩ <;> (first | (with_reducible rfl) | exact ⟨rfl, rfl⟩ | (simp; done))), (by exact Nat.zero_le _)⟩
  · rintro d hd t hI
    cases d
    · -- d = false
      exact Bool.noConfusion (show false = true from hd)
    · -- d = true
      have ht : t ≤ (rowAt (partsM L) j).length := hI
      have hn := hL.1
      have hr : (rowAt (partsM L) j).length ≤ L.length := by
        rcases Nat.lt_or_ge j (partsM L).length with h | h
        · exact (parts_rows _ (rowAt_mem h)).2.2
        · simp [rowAt, h]
      have hb := parts_cnt_le (L := L) j
      have ek : IntKind.i64.wrap ((t : Int) + 1) = ((t + 1 : Nat) : Int) := by rw [w64 (by omega) (by omega)]; omega
      have em : IntKind.i64.wrap ((t : Int) - 1) = (t : Int) - 1 := w64 (by omega) (by omega)
      have et : ((t : Int) - 1).toNat = t - 1 := by omega
      have ec : IntKind.i64.wrap (((cnt (partsM L) j + t : Nat) : Int) + 1) = ((cnt (partsM L) j + (t + 1) : Nat) : Int) := by rw [w64 (by omega) (by omega)]; omega
      refine Or.elim (Bool.eq_false_or_eq_true (decide ((↑t : Int) < (↑(rowAt (partsM L) j).length : Int)))) (fun d1 => Or.elim (Bool.eq_false_or_eq_true (decide ((rowAt (partsM L) j).getD t (0 : Int) < (0 : Int)))) (fun d2 => CtG.no ?_)
           (fun d2 => Or.elim (Bool.eq_false_or_eq_true (decide ((rowAt (partsM L) j).getD t (0 : Int) ≥ (↑L.length : Int)))) (fun d3 => CtG.no ?_)
           (fun d3 => Or.elim (Bool.eq_false_or_eq_true ((L.getD ((rowAt (partsM L) j).getD t (0 : Int)).toNat Con.zero).odd)) (fun d4 => Or.elim (Bool.eq_false_or_eq_true (decide ((↑t : Int) > (0 : Int)))) (fun d5 => Or.elim (Bool.eq_false_or_eq_true ((rowAt (partsM L) j).getD t (0 : Int) == IntKind.i64.wrap ((rowAt (partsM L) j).getD (IntKind.i64.wrap ((↑t : Int) - (1 : Int))).toNat (0 : Int) + (1 : Int)))) (fun d6 => Or.elim (Bool.eq_false_or_eq_true ((L.getD ((rowAt (partsM L) j).getD t (0 : Int)).toNat Con.zero).exp == IntKind.i64.wrap ((L.getD (IntKind.i64.wrap ((rowAt (partsM L) j).getD t (0 : Int) - (1 : Int))).toNat Con.zero).exp + (1 : Int)))) (fun d7 => ⟨[true, false, false, false, true, false, false], .inl ⟨(t + 1), [true = true, true = true, (↑L.length : Int) = (↑L.length : Int), (partsM L).length = (partsM L).length ∧ (fun i => [rI IntKind.i64 ((partsM L).getD i [])]) = fun i => [rI IntKind.i64 ((partsM L).getD i [])], (↑(partsM L).length : Int) = (↑(partsM L).length : Int), (↑j : Int) = (↑j : Int), (rowAt (partsM L) j).length = (rowAt (partsM L) j).length ∧ (fun j_1 => [RV.int IntKind.i64 ((rowAt (partsM L) j).getD j_1 (0 : Int))]) = fun j_1 => [RV.int IntKind.i64 ((rowAt (partsM L) j).getD j_1 (0 : Int))], IntKind.i64.wrap ((↑(cnt (partsM L) j + t) : Int) + (1 : Int)) = (↑(cnt (partsM L) j + (t + (1 : Nat))) : Int), (rowAt (partsM L) j).length = (rowAt (partsM L) j).length ∧ (fun j_1 => [RV.int IntKind.i64 ((rowAt (partsM L) j).getD j_1 (0 : Int))]) = fun j_1 => [RV.int IntKind.i64 ((rowAt (partsM L) j).getD j_1 (0 : Int))], (↑(rowAt (partsM L) j).length : Int) = (↑(rowAt (partsM L) j).length : Int), IntKind.i64.wrap ((↑t : Int) + (1 : Int)) = (↑(t + (1 : Nat)) : Int), (2 : Int) = (2 : Int), L.length = L.length ∧ (fun i => (L.getD i Con.zero).rvs) = fun i => (L.getD i Con.zero).rvs, Dec ((L.getD ((rowAt (partsM L) j).getD t (0 : Int)).toNat Con.zero).exp != IntKind.i64.wrap ((L.getD (IntKind.i64.wrap ((rowAt (partsM L) j).getD t (0 : Int) - (1 : Int))).toNat Con.zero).exp + (1 : Int))) false, (0 : Int) ≤ IntKind.i64.wrap ((rowAt (partsM L) j).getD t (0 : Int) - (1 : Int)) ∧ IntKind.i64.wrap ((rowAt (partsM L) j).getD t (0 : Int) - (1 : Int)) < (↑L.length : Int), (0 : Int) ≤ (rowAt (partsM L) j).getD t (0 : Int) ∧ (rowAt (partsM L) j).getD t (0 : Int) < (↑L.length : Int), Dec ((rowAt (partsM L) j).getD t (0 : Int) != IntKind.i64.wrap ((rowAt (partsM L) j).getD (IntKind.i64.wrap ((↑t : Int) - (1 : Int))).toNat (0 : Int) + (1 : Int))) false, (0 : Int) ≤ IntKind.i64.wrap ((↑t : Int) - (1 : Int)) ∧ IntKind.i64.wrap ((↑t : Int) - (1 : Int)) < (↑(rowAt (partsM L) j).length : Int), Dec (decide ((↑t : Int) > (0 : Int))) true, Dec (!(L.getD ((rowAt (partsM L) j).getD t (0 : Int)).toNat Con.zero).odd) false, (0 : Int) ≤ (rowAt (partsM L) j).getD t (0 : Int) ∧ (rowAt (partsM L) j).getD t (0 : Int) < (↑L.length : Int), Dec (decide ((rowAt (partsM L) j).getD t (0 : Int) ≥ (↑L.length : Int))) false, Dec (decide ((rowAt (partsM L) j).getD t (0 : Int) < (0 : Int))) false, (0 : Int) ≤ (↑t : Int) ∧ (↑t : Int) < (↑(rowAt (partsM L) j).length : Int), Dec (decide ((↑t : Int) < (↑(rowAt (partsM L) j).length : Int))) true], by kernel_rfl, ⟨?_, ?_, ?_, ?_, ?_, ?_, ?_, ?_, ?_, ?_, ?_, ?_, ?_, (dN d7), ?_, ?_, (dN d6), ?_, d5, (dN d4), ?_, d3, d2, ?_, d1⟩, MuG.out ?_, InG.out ?_⟩⟩)
           (fun d7 => CtG.no ?_))
           (fun d6 => CtG.no ?_))
           (fun d5 => ⟨[true, false, false, false, false], .inl ⟨(t + 1), [true = true, true = true, (↑L.length : Int) = (↑L.length : Int), (partsM L).length = (partsM L).length ∧ (fun i => [rI IntKind.i64 ((partsM L).getD i [])]) = fun i => [rI IntKind.i64 ((partsM L).getD i [])], (↑(partsM L).length : Int) = (↑(partsM L).length : Int), (↑j : Int) = (↑j : Int), (rowAt (partsM L) j).length = (rowAt (partsM L) j).length ∧ (fun j_1 => [RV.int IntKind.i64 ((rowAt (partsM L) j).getD j_1 (0 : Int))]) = fun j_1 => [RV.int IntKind.i64 ((rowAt (partsM L) j).getD j_1 (0 : Int))], IntKind.i64.wrap ((↑(cnt (partsM L) j + t) : Int) + (1 : Int)) = (↑(cnt (partsM L) j + (t + (1 : Nat))) : Int), (rowAt (partsM L) j).length = (rowAt (partsM L) j).length ∧ (fun j_1 => [RV.int IntKind.i64 ((rowAt (partsM L) j).getD j_1 (0 : Int))]) = fun j_1 => [RV.int IntKind.i64 ((rowAt (partsM L) j).getD j_1 (0 : Int))], (↑(rowAt (partsM L) j).length : Int) = (↑(rowAt (partsM L) j).length : Int), IntKind.i64.wrap ((↑t : Int) + (1 : Int)) = (↑(t + (1 : Nat)) : Int), (2 : Int) = (2 : Int), L.length = L.length ∧ (fun i => (L.getD i Con.zero).rvs) = fun i => (L.getD i Con.zero).rvs, Dec (decide ((↑t : Int) > (0 : Int))) false, Dec (!(L.getD ((rowAt (partsM L) j).getD t (0 : Int)).toNat Con.zero).odd) false, (0 : Int) ≤ (rowAt (partsM L) j).getD t (0 : Int) ∧ (rowAt (partsM L) j).getD t (0 : Int) < (↑L.length : Int), Dec (decide ((rowAt (partsM L) j).getD t (0 : Int) ≥ (↑L.length : Int))) false, Dec (decide ((rowAt (partsM L) j).getD t (0 : Int) < (0 : Int))) false, (0 : Int) ≤ (↑t : Int) ∧ (↑t : Int) < (↑(rowAt (partsM L) j).length : Int), Dec (decide ((↑t : Int) < (↑(rowAt (partsM L) j).length : Int))) true], by kernel_rfl, ⟨?_, ?_, ?_, ?_, ?_, ?_, ?_, ?_, ?_, ?_, ?_, ?_, ?_, d5, (dN d4), ?_, d3, d2, ?_, d1⟩, MuG.out ?_, InG.out ?_⟩⟩))
           (fun d4 => CtG.no ?_))))
           (fun d1 => ⟨[false], .inr ⟨[true = true, true = true, (↑L.length : Int) = (↑L.length : Int), (partsM L).length = (partsM L).length ∧ (fun i => [rI IntKind.i64 ((partsM L).getD i [])]) = fun i => [rI IntKind.i64 ((partsM L).getD i [])], (↑(partsM L).length : Int) = (↑(partsM L).length : Int), (↑j : Int) = (↑j : Int), (↑(cnt (partsM L) j + t) : Int) = (↑(cnt (partsM L) j + (rowAt (partsM L) j).length) : Int), (2 : Int) = (2 : Int), L.length = L.length ∧ (fun i => (L.getD i Con.zero).rvs) = fun i => (L.getD i Con.zero).rvs, Dec (decide ((↑t : Int) < (↑(rowAt (partsM L) j).length : Int))) false], by kernel_rfl, ⟨?_, ?_, ?_, ?_, ?_, ?_, ?_, ?_, ?_, d1⟩, rfl⟩⟩)
      all_goals first | (refine MuG.mk ?_; (simp only [decide_eq_true_eq] at *; show (rowAt (partsM L) j).length - (t + 1) < (rowAt (partsM L) j).length - t; omega)) | (refine InG.mk ?_; (simp only [decide_eq_true_eq] at *; show t + 1 ≤ _; omega)) | (refine CtG.mk ?_; (simp only [em, et, Int.toNat_natCast, decide_eq_true_eq, decide_eq_false_iff_not, gt_iff_lt, ge_iff_le] at d1 d2; have h1 := part_m (L := L) (j := j) (t := t) (by omega); exact c4_no hL hr hn h1 (by first | exact .inl d2 | (simp only [decide_eq_true_eq, ge_iff_le] at d3; exact .inr (.inl d3)) | exact .inr (.inr (.inl d4)) | (simp only [em, et, decide_eq_true_eq, gt_iff_lt] at d5 d6; first | exact .inr (.inr (.inr ⟨by omega, .inl d6⟩)) | (exact .inr (.inr (.inr ⟨by omega, .inr d7⟩))))))) | (first | (with_reducible rfl) | exact ⟨rfl, rfl⟩ | ((try simp only [ek, em, et, ec, Int.toNat_natCast, decide_eq_true_eq, decide_eq_false_iff_not, gt_iff_lt, ge_iff_le] at *) <;> first | omega | (have h1 := part_m (L := L) (j := j) (t := t) (by omega); have h2 := h1.2.2.2; rw [w64 (by omega) (by omega)]; omega)))
noncomputable def c3Ann (L : List Con) : Ann := ⟨⟨cvT L ++ [(8, .vint .i64 L.length), (13, .int .i64 0), (54, (roR .i64 (partsM L)).av), (55, .vint .i64 (partsM L).length), (56, .int .i64 0)], cvH L, 1500⟩, none, fun _ =>
  (.exit 4, ⟨cvT L ++ [(8, .vint .i64 L.length), (13, .vint .i64 (oddN L L.length : Int))], cvH L, 1500⟩)⟩
set_option maxRecDepth 100000 in
theorem c3_loop (L : List Con) (hL : okL L) : AnnOk Tryz.prog EV.ng (Nat.max 1 Tryz.f8.ntmps) (bodyAt Tryz.f8 [0, 1, 0, 1, 1, 1, 1, 1, 1, 1, 1]) (c3Ann L) := by
  refine ann_ofI evOk (callF_ok evOk (noOrc_ok _ _) 8) (by kernel_rfl) (by kernel_rfl) (fun i : Nat => (fun (j : Nat) => (⟨c3T L j ++ [(13, .vint .i64 (cnt (partsM L) j : Int))], cvH L, 1500⟩ : St)) i) (fun i : Nat => (fun (j : Nat) => ((partsM L).length - j : Nat)) i) (fun (d : Bool) (i : Nat) => (fun (j : Nat) => (j ≤ (partsM L).length : Prop)) i) (fun i : Nat => (fun (j : Nat) => ([([0, 1, 1, 0, 0, 1, 1, 0, 0, 1, 0, 1, 1, 1, 1, 1, 1, 1, 1], c4Ann L j)] : List (List Nat × Ann))) i) ?_ ?_ ?_
  · rintro d hd j hI
    exact one_ann (c4_loop L j hL)
  · intro d hd
    exact ⟨(0), [true = true, true = true, (↑L.length : Int) = (↑L.length : Int), (partsM L).length = (partsM L).length ∧ (fun i => [rI IntKind.i64 ((partsM L).getD i [])]) = fun i => [rI IntKind.i64 ((partsM L).getD i [])], (↑(partsM L).length : Int) = (↑(partsM L).length : Int), (0 : Int) = (↑(0 : Nat) : Int), (0 : Int) = (↑(cnt (partsM L) (0 : Nat)) : Int), (2 : Int) = (2 : Int), L.length = L.length ∧ (fun i => (L.getD i Con.zero).rvs) = fun i => (L.getD i Con.zero).rvs], by kernel_rfl, (by refine ⟨?_, ?_, ?_, ?_, ?_, ?_, ?_, ?_, (?_ : L.length = L.length ∧ (fun i => (L.getD i Con.zero).rvs) = fun i => (L.getD i Con.zero).rvs)⟩ <;> (first | rfl | assumption | omega | simp_all)), (by exact Nat.zero_le _)⟩
  · rintro d hd j hI
    cases d
    · -- d = false
      exact Bool.noConfusion (show false = true from hd)
    · -- d = true
      have hj : j ≤ (partsM L).length := hI
      have hc := parts_len (L := L)
      have hn := hL.1
      have ek : IntKind.i64.wrap ((j : Int) + 1) = ((j + 1 : Nat) : Int) := by rw [w64 (by omega) (by omega)]; omega
      refine Or.elim (Bool.eq_false_or_eq_true (decide ((↑j : Int) < (↑(partsM L).length : Int)))) (fun d1 => ⟨[true], .inl ⟨(j + 1), [true = true, true = true, (↑L.length : Int) = (↑L.length : Int), (partsM L).length = (partsM L).length ∧ (fun i => [rI IntKind.i64 ((partsM L).getD i [])]) = fun i => [rI IntKind.i64 ((partsM L).getD i [])], (↑(partsM L).length : Int) = (↑(partsM L).length : Int), IntKind.i64.wrap ((↑j : Int) + (1 : Int)) = (↑(j + (1 : Nat)) : Int), (↑(cnt (partsM L) j + (rowAt (partsM L) j).length) : Int) = (↑(cnt (partsM L) (j + (1 : Nat))) : Int), (2 : Int) = (2 : Int), L.length = L.length ∧ (fun i => (L.getD i Con.zero).rvs) = fun i => (L.getD i Con.zero).rvs, true = true, true = true, (↑L.length : Int) = (↑L.length : Int), (partsM L).length = (partsM L).length ∧ (fun i => [rI IntKind.i64 ((partsM L).getD i [])]) = fun i => [rI IntKind.i64 ((partsM L).getD i [])], (↑(partsM L).length : Int) = (↑(partsM L).length : Int), (↑j : Int) = (↑j : Int), ((partsM L).getD j []).length = (rowAt (partsM L) j).length ∧ (fun j_1 => [RV.int IntKind.i64 (((partsM L).getD j []).getD j_1 (0 : Int))]) = fun j_1 => [RV.int IntKind.i64 ((rowAt (partsM L) j).getD j_1 (0 : Int))], (↑(cnt (partsM L) j) : Int) = (↑(cnt (partsM L) j) : Int), ((partsM L).getD j []).length = (rowAt (partsM L) j).length ∧ (fun j_1 => [RV.int IntKind.i64 (((partsM L).getD j []).getD j_1 (0 : Int))]) = fun j_1 => [RV.int IntKind.i64 ((rowAt (partsM L) j).getD j_1 (0 : Int))], (↑((partsM L).getD j []).length : Int) = (↑(rowAt (partsM L) j).length : Int), (2 : Int) = (2 : Int), L.length = L.length ∧ (fun i => (L.getD i Con.zero).rvs) = fun i => (L.getD i Con.zero).rvs, (0 : Int) ≤ (↑j : Int) ∧ (↑j : Int) < (↑(partsM L).length : Int), Dec (decide ((↑j : Int) < (↑(partsM L).length : Int))) true], by kernel_rfl, ⟨?_, ?_, ?_, ?_, ?_, ?_, ?_, ?_, ?_, ?_, ?_, ?_, ?_, ?_, ?_, ?_, ?_, ?_, ?_, ?_, ?_, ?_, d1⟩, MuG.out ?_, InG.out ?_⟩⟩)
           (fun d1 => ⟨[false], .inr ⟨[true = true, true = true, (↑L.length : Int) = (↑L.length : Int), (↑(cnt (partsM L) j) : Int) = (↑(oddN L L.length) : Int), (2 : Int) = (2 : Int), L.length = L.length ∧ (fun i => (L.getD i Con.zero).rvs) = fun i => (L.getD i Con.zero).rvs, Dec (decide ((↑j : Int) < (↑(partsM L).length : Int))) false], by kernel_rfl, ⟨?_, ?_, ?_, ?_, ?_, ?_, d1⟩, rfl⟩⟩)
      all_goals first | (refine MuG.mk ?_; (simp only [decide_eq_true_eq] at *; show (partsM L).length - (j + 1) < (partsM L).length - j; omega)) | (refine InG.mk ?_; (simp only [decide_eq_true_eq] at *; show j + 1 ≤ _; omega)) | (refine CtG.mk ?_; (simp_all)) | (first | (with_reducible rfl) | exact ⟨rfl, rfl⟩ | ((try simp only [ek, Int.toNat_natCast, decide_eq_true_eq, decide_eq_false_iff_not] at *) <;> first | omega | (rw [cnt_succ (by omega)]; done) | (rw [parts_cnt (by omega)]; done)))
noncomputable def c5Ann (L : List Con) : Ann := ⟨⟨cvT L ++ [(8, .vint .i64 L.length), (13, .vint .i64 (oddN L L.length : Int)), (121, (roC L).av), (122, .vint .i64 L.length), (123, .int .i64 0)], cvH L, 1500⟩, none, fun _ =>
  (.exit 8, ⟨cvT L ++ [(8, .vint .i64 L.length), (13, .vint .i64 0)], cvH L, 1500⟩)⟩
set_option maxRecDepth 100000 in
theorem c5_loop (L : List Con) (hn : L.length ≤ 1000) : AnnOk Tryz.prog EV.ng (Nat.max 1 Tryz.f8.ntmps) (bodyAt Tryz.f8 [0, 1, 0, 1, 1, 1, 1, 1, 1, 1, 1, 1]) (c5Ann L) := by
  refine ann_of evOk (callF_ok evOk (noOrc_ok _ _) 8) none_ann (by kernel_rfl) (by kernel_rfl) (fun i : Nat × Int => (fun (k : Nat) (s : Int) => (⟨cvT L ++ [(8, .vint .i64 L.length), (13, .vint .i64 s), (121, (roC L).av), (122, .vint .i64 L.length), (123, .vint .i64 (k : Int))], cvH L, 1500⟩ : St)) i.1 i.2) (fun i : Nat × Int => (fun (k : Nat) (s : Int) => (L.length - k : Nat)) i.1 i.2) (fun (d : Bool) (i : Nat × Int) => (fun (k : Nat) (s : Int) => (k ≤ L.length ∧ s = (oddN L L.length : Int) - (oddN L k : Int) : Prop)) i.1 i.2) ?_ ?_
  · intro d hd
    exact ⟨(0, (oddN L L.length : Int)), [true = true, true = true, (↑L.length : Int) = (↑L.length : Int), (↑(oddN L L.length) : Int) = (↑(oddN L L.length) : Int), L.length = L.length ∧ (fun i => (L.getD i Con.zero).rvs) = fun i => (L.getD i Con.zero).rvs, (↑L.length : Int) = (↑L.length : Int), (0 : Int) = (↑(0 : Nat) : Int), (2 : Int) = (2 : Int), L.length = L.length ∧ (fun i => (L.getD i Con.zero).rvs) = fun i => (L.getD i Con.zero).rvs], by kernel_rfl, (by refine ⟨?_, ?_, ?_, ?_, ?_, ?_, ?_, ?_, (?_ : L.length = L.length ∧ (fun i => (L.getD i Con.zero).rvs) = fun i => (L.getD i Con.zero).rvs)⟩ <;> (first | rfl | assumption | omega | simp_all)), (by exact ⟨Nat.zero_le _, by show _ = (oddN L L.length : Int) - (oddN L 0 : Int); rw [oddN_0]; omega⟩)⟩
  · rintro d hd ⟨k, s⟩ hI
    cases d
    · -- d = false
      exact Bool.noConfusion (show false = true from hd)
    · -- d = true
      obtain ⟨hk, hs⟩ := hI
      have hk : k ≤ L.length := hk
      have hs : s = (oddN L L.length : Int) - (oddN L k : Int) := hs
      have hb1 := oddN_le L L.length
      have hb2 := oddN_le L k
      have ek : IntKind.i64.wrap ((k : Int) + 1) = ((k + 1 : Nat) : Int) := by rw [w64 (by omega) (by omega)]; omega
      have es : IntKind.i64.wrap (s - 1) = s - 1 := w64 (by omega) (by omega)
      refine Or.elim (Bool.eq_false_or_eq_true (decide ((↑k : Int) < (↑L.length : Int)))) (fun d1 => Or.elim (Bool.eq_false_or_eq_true ((L.getD k Con.zero).odd)) (fun d2 => ⟨[true, true], .inl ⟨(k + 1, (oddN L L.length : Int) - (oddN L (k + 1) : Int)), [true = true, true = true, (↑L.length : Int) = (↑L.length : Int), IntKind.i64.wrap (s - (1 : Int)) = (↑(oddN L L.length) : Int) - (↑(oddN L (k + (1 : Nat))) : Int), L.length = L.length ∧ (fun i => (L.getD i Con.zero).rvs) = fun i => (L.getD i Con.zero).rvs, (↑L.length : Int) = (↑L.length : Int), IntKind.i64.wrap ((↑k : Int) + (1 : Int)) = (↑(k + (1 : Nat)) : Int), (2 : Int) = (2 : Int), L.length = L.length ∧ (fun i => (L.getD i Con.zero).rvs) = fun i => (L.getD i Con.zero).rvs, Dec (L.getD k Con.zero).odd true, (0 : Int) ≤ (↑k : Int) ∧ (↑k : Int) < (↑L.length : Int), Dec (decide ((↑k : Int) < (↑L.length : Int))) true], by kernel_rfl, ⟨?_, ?_, ?_, ?_, ?_, ?_, ?_, ?_, ?_, d2, ?_, d1⟩, MuG.out ?_, InG.out ?_⟩⟩)
           (fun d2 => ⟨[true, false], .inl ⟨(k + 1, (oddN L L.length : Int) - (oddN L (k + 1) : Int)), [true = true, true = true, (↑L.length : Int) = (↑L.length : Int), s = (↑(oddN L L.length) : Int) - (↑(oddN L (k + (1 : Nat))) : Int), L.length = L.length ∧ (fun i => (L.getD i Con.zero).rvs) = fun i => (L.getD i Con.zero).rvs, (↑L.length : Int) = (↑L.length : Int), IntKind.i64.wrap ((↑k : Int) + (1 : Int)) = (↑(k + (1 : Nat)) : Int), (2 : Int) = (2 : Int), L.length = L.length ∧ (fun i => (L.getD i Con.zero).rvs) = fun i => (L.getD i Con.zero).rvs, Dec (L.getD k Con.zero).odd false, (0 : Int) ≤ (↑k : Int) ∧ (↑k : Int) < (↑L.length : Int), Dec (decide ((↑k : Int) < (↑L.length : Int))) true], by kernel_rfl, ⟨?_, ?_, ?_, ?_, ?_, ?_, ?_, ?_, ?_, d2, ?_, d1⟩, MuG.out ?_, InG.out ?_⟩⟩))
           (fun d1 => ⟨[false], .inr ⟨[true = true, true = true, (↑L.length : Int) = (↑L.length : Int), s = (0 : Int), (2 : Int) = (2 : Int), L.length = L.length ∧ (fun i => (L.getD i Con.zero).rvs) = fun i => (L.getD i Con.zero).rvs, Dec (decide ((↑k : Int) < (↑L.length : Int))) false], by kernel_rfl, ⟨?_, ?_, ?_, ?_, ?_, ?_, d1⟩, rfl⟩⟩)
      all_goals first | (refine MuG.mk ?_; (simp only [decide_eq_true_eq] at *; show L.length - (k + 1) < L.length - k; omega)) | (refine InG.mk ?_; (simp only [decide_eq_true_eq] at *; exact ⟨by omega, by first | rfl | trivial⟩)) | (refine CtG.mk ?_; (simp_all)) | (first | (with_reducible rfl) | exact ⟨rfl, rfl⟩ | ((try simp only [ek, es, Int.toNat_natCast, decide_eq_true_eq, decide_eq_false_iff_not] at *) <;> first | omega | (rw [hs, oddN_t (show oddB L k = true from by assumption)]; omega) | (rw [hs, oddN_f (show oddB L k = false from by assumption)]; done) | (have e : k = L.length := (by omega); subst e; omega)))
set_option maxHeartbeats 2000000 in
set_option maxRecDepth 100000 in
theorem covers_y (kx : Int) (X : List Prt) (L : List Con) (hra : RaC kx X L) (hv : val2M 2 L = true) (hL : okL L) : PureC Tryz.prog tabs 8 [.agg [.int .u8 kx, roP X]] (.bool true) := by
  have rr := fun (tp : List Bool) (ms : List Prop) h hm => pure_run evOk (callF_ok evOk (orcOf_ok (entsCo_ok hra)) 8) Tryz.func8 (A := [.agg [.int .u8 kx, roP X]]) (N := Nat.max 1 Tryz.f8.ntmps) rfl (cons_ann (c1_loop L hL.1) (cons_ann (c3_loop L hL) (one_ann (c5_loop L hL.1)))) rfl rfl evNg (tabs := tabs) (R := .bool true) (tp := tp) (ms := ms) h hm
  refine Or.elim (Bool.eq_false_or_eq_true (decide ((↑X.length : Int) > (20 : Int)))) (fun d1 => rr [true] [true = true, Dec (decide ((↑X.length : Int) > (20 : Int))) true] (by kernel_rfl) ⟨?_, d1⟩)
           (fun d1 => Or.elim (Bool.eq_false_or_eq_true ((↑L.length : Int) == (↑L.length : Int))) (fun d2 => Or.elim (Bool.eq_false_or_eq_true ((0 : Int) == (0 : Int))) (fun d3 => rr [false, true, true, true, true] [true = true, Dec ((0 : Int) == (0 : Int)) true, Dec ((↑L.length : Int) == (↑L.length : Int)) true, Dec true true, Dec true true, true = true, true = true, (↑L.length : Int) = (↑L.length : Int), (↑(oddN L L.length) : Int) = (↑(oddN L L.length) : Int), L.length = L.length ∧ (fun i => (L.getD i Con.zero).rvs) = fun i => (L.getD i Con.zero).rvs, (↑L.length : Int) = (↑L.length : Int), (2 : Int) = (2 : Int), L.length = L.length ∧ (fun i => (L.getD i Con.zero).rvs) = fun i => (L.getD i Con.zero).rvs, true = true, true = true, (↑L.length : Int) = (↑L.length : Int), (partsM L).length = (partsM L).length ∧ (fun i => [rI IntKind.i64 ((partsM L).getD i [])]) = fun i => [rI IntKind.i64 ((partsM L).getD i [])], (↑(partsM L).length : Int) = (↑(partsM L).length : Int), (2 : Int) = (2 : Int), L.length = L.length ∧ (fun i => (L.getD i Con.zero).rvs) = fun i => (L.getD i Con.zero).rvs, true = true, true = true, (partsM (consR L.length fun i => (L.getD i Con.zero).rvs)).length = (partsM L).length ∧ (fun i => [rI IntKind.i64 ((partsM (consR L.length fun i => (L.getD i Con.zero).rvs)).getD i [])]) = fun i => [rI IntKind.i64 ((partsM L).getD i [])], (chainsM (consR L.length fun i => (L.getD i Con.zero).rvs)).length = (chainsM L).length ∧ (fun i => [rI IntKind.i64 ((chainsM (consR L.length fun i => (L.getD i Con.zero).rvs)).getD i [])]) = fun i => [rI IntKind.i64 ((chainsM L).getD i [])], (↑(chainsM (consR L.length fun i => (L.getD i Con.zero).rvs)).length : Int) = (↑(chainsM L).length : Int), (2 : Int) = (2 : Int), L.length = L.length ∧ (fun i => (L.getD i Con.zero).rvs) = fun i => (L.getD i Con.zero).rvs, (∀ (i : Nat), i < L.length → (fun i => (L.getD i Con.zero).rvs) i = (Con.ofR ((fun i => (L.getD i Con.zero).rvs) i)).rvs) ∧ (2 : Int) = (2 : Int) ∧ val2M (2 : Int) (consR L.length fun i => (L.getD i Con.zero).rvs) = true, (∀ (i : Nat), i < L.length → (fun i => (L.getD i Con.zero).rvs) i = (Con.ofR ((fun i => (L.getD i Con.zero).rvs) i)).rvs) ∧ (2 : Int) = (2 : Int) ∧ val2M (2 : Int) (consR L.length fun i => (L.getD i Con.zero).rvs) = true, kx = kx ∧ (8 : Int) = (8 : Int) ∧ X.length = X.length ∧ ∀ (i : Nat), i < X.length → (fun i => (X.getD i Prt.zero).rvs) i = (X.getD i Prt.zero).rvs, Dec (decide ((↑X.length : Int) > (20 : Int))) false] (by kernel_rfl) ⟨?_, d3, d2, rfl, rfl, ?_, ?_, ?_, ?_, ?_, ?_, ?_, ?_, ?_, ?_, ?_, ?_, ?_, ?_, ?_, ?_, ?_, ?_, ?_, ?_, ?_, ?_, ?_, ?_, ?_, d1⟩)
           (fun d3 => CtG.no ?_))
           (fun d2 => CtG.no ?_))
  all_goals first | (refine CtG.mk ?_; (first | (exact absurd d3 (by decide)) | (exact absurd d2 (by simp)) | (simp_all; done))) | (first | (with_reducible rfl) | (with_reducible exact ⟨rfl, rfl⟩) | exact ⟨rfl, rfl, rfl, fun _ _ => rfl⟩ | exact ⟨fun _ _ => rfl, rfl, by rw [consR_ro]; exact hv⟩ | (rw [consR_ro]; first | done | rfl | exact ⟨rfl, rfl⟩))
noncomputable def entsAk : List OEnt := [
  ⟨17, tabs, fun A => match A with
    | [] => some (.bool true, [])
    | _ => none⟩]
theorem entsAk_ok : ∀ e ∈ entsAk, EntOk Tryz.prog e := by
  intro e he
  rw [List.mem_singleton.1 he]
  intro A R ms h hm
  simp only at h
  split at h
  · cases h; exact awake_pure
  · cases h
set_option maxRecDepth 100000 in
theorem covers_m (kx : Int) (X : List Prt) (hX : decide ((X.length : Int) > 20) = true) : PureC Tryz.prog tabs 8 [.agg [.int .u8 kx, roP X]] (.bool true) := by
  have rr := fun (tp : List Bool) (ms : List Prop) h hm => pure_run evOk (callF_ok evOk (orcOf_ok entsAk_ok) 8) Tryz.func8 (A := [.agg [.int .u8 kx, roP X]]) rfl none_ann rfl rfl evNg (tabs := tabs) (R := .bool true) (tp := tp) (ms := ms) h hm
  refine rr [true] [true = true, Dec (decide ((↑X.length : Int) > (20 : Int))) true] (by kernel_rfl) ⟨?_, hX⟩
  all_goals first | (first | (with_reducible rfl) | (with_reducible exact ⟨rfl, rfl⟩))
theorem trainCovers_pure (kx : Int) (X : List Prt) (hX : ∀ p ∈ X, p.ok) : PureC Tryz.prog tabs 8 [.agg [.int .u8 kx, roP X]] (.bool true) := by
  by_cases hm : (X.length : Int) > 20
  · exact covers_m kx X (decide_eq_true hm)
  · have hra := rawF kx X hX (by omega)
    have hv := val2_listV (most := 8) (by decide) (by decide) hX
    exact covers_y kx X _ hra hv (val2_ok hv).1
end Go.Proofs.YtcfdaddablojlaaGreatDoor.S

/- TrainCovers returns true whatever the input, and its arguments read as before: the row's statement. -/
namespace Go.Proofs.YtcfdaddablojlaaGreatDoor.trainCovers
open Go.ChangeShapes Go.WideShapes Go.ChangeAt Go.RowKit Go.Joins Go.Deep
open Go.QfSy (Con RV RRel RsRel FzAt roC Fz Tb TabW PureC)
open S

theorem readable : ∀ t ∈ Tryz.f8.params.toList, Tryz.prog.readableRec t = true ∧ t < Tryz.prog.types.size := by
  have h : (Tryz.f8.params.toList.all fun t => Tryz.prog.readableRec t && Nat.blt t Tryz.prog.types.size) = true := by kernel_rfl
  intro t ht
  have := List.all_eq_true.1 h t ht
  simp only [Bool.and_eq_true] at this
  exact ⟨this.1, Nat.le_of_ble_eq_true this.2⟩

set_option maxRecDepth 100000 in
theorem contract (H : Type) (enc : TypeId × Value → H) (W : World) (base : Nat) (args : Array Value) (ds gs : List (DataW H)) (before : List MemPlace)
    (hval : ∀ (j : Nat) t v, Tryz.f8.params[j]? = some t → args[j]? = some v → Value.okWide Tryz.prog W .any base t v)
    (hW : DataW.Whole enc Tryz.prog Tryz.f8.params.toList Rows.trainCoversSpec.vars false W args.toList ds gs before) (hO : TabW tabs W) :
    Calls Tryz.prog 8 args W fun e W' => ∃ v, e = .returned v ∧ Rows.trainCoversSpec.post enc Tryz.prog Tryz.f8 false true false false W args v W' := by
  have hW' := hW
  obtain ⟨p, q, hA0, hV, rfl, hfz, hnd⟩ := hW
  have hA : DataW.TrodAll enc Tryz.prog W 0 (fun _ => true) true Tryz.f8.params.toList args.toList ds p := hA0
  rw [Tryz.params8] at hA hval
  obtain ⟨v0, vs0, d0, ds0, p0, q0, hargs0, rfl, rfl, h0, r0⟩ := trodAll_cons hA
  obtain ⟨rfl, rfl, rfl⟩ := trodAll_nil r0
  obtain rfl : args = #[v0] := by cases args; simp_all
  obtain ⟨P0, X0, hr0, hP0, hn0, ho0⟩ := open_symbol symbolTys (hval 0 27 v0 rfl rfl) h0
  refine (pure_calls (trainCovers_pure P0 X0 ho0) hO (.cons hr0 .nil)).mono fun e W' ⟨he, hb⟩ => ?_
  exact ⟨_, he, law_post laidOut readable rfl Tryz.underlying4 rfl hW' rfl hb⟩

def wArgs : Array Value := #[.agg #[.int .u8 0, .slice none 0 0]]
theorem laid_met (os : Os) : laidMet Tryz.prog Rows.trainCoversRow.laid ((laidWorld os).forCall (fun _ _ => 0) ⟨#[], wArgs, []⟩).memory :=
  laidMet_of_run' 8 (by kernel_rfl) (by kernel_rfl)
theorem reads (os : Os) {H : Type} (enc : TypeId × Value → H) : ∃ ds places, DataW.whole enc Tryz.prog ((laidWorld os).forCall (fun _ _ => 0) ⟨#[], wArgs, []⟩).memory Tryz.f8.params.toList Rows.trainCoversSpec.vars false wArgs.toList 8 = some (ds, [], places) :=
  ⟨[.agg [.lit (.int .u8 0), .nil]], [], by kernel_rfl⟩

set_option maxRecDepth 100000 in
theorem lifted (os : Os) (started : os.Started) (H : Type) (enc : TypeId × Value → H) (F : Stop.Interp) :
    ReturnsInHanded {} Tryz.checked os 8 .any ((OpenSpec.ofChange Rows.trainCoversSpec).preRow enc Tryz.prog Tryz.f8 Rows.trainCoversRow.domain false Rows.trainCoversRow.laid) (((OpenSpec.ofChange Rows.trainCoversSpec).at F).post enc Tryz.prog Tryz.f8 false true false false) := by
  refine returnsInHanded_of_row (C := Tryz.checked) (s := OpenSpec.ofChange Rows.trainCoversSpec) own started (by kernel_rfl) Tryz.func8
    (witness_row_at (enc := enc) (C := Tryz.checked) false (laidWorld os) wArgs rfl (by kernel_rfl) (by kernel_rfl) (by kernel_rfl)
      (OpenSpec.preRow_of_cond 8 (reads os enc).choose_spec.choose_spec (by kernel_rfl) (fun k hk => by cases hk) (by kernel_rfl) (laid_met os))) ?_
  intro W base args ds gs before hval hW _ _ _ hL hS _
  exact contract H enc W base args ds gs before hval hW (tabs_of hL hS)

theorem named : Tryz.prog.funcNamed Rows.trainCoversRow.func = some 8 := by kernel_rfl
theorem facts : joinedFacts Tryz.prog 8 Tryz.f8 (OpenSpec.ofChange Rows.trainCoversSpec).bare Rows.trainCoversRow = true := by kernel_rfl
theorem inst : Tryz.f8.isInstance Tryz.prog Rows.trainCoversRow.origin Rows.trainCoversRow.targs := of_decide_eq_true (by kernel_rfl)
theorem wrap : Tryz.f8.isWrapper Tryz.prog Rows.trainCoversRow.wrapper Rows.trainCoversRow.mainSum := by
  unfold Func.isWrapper; first | (rw [if_pos (by decide +kernel)]; kernel_rfl) | (rw [if_neg (by decide +kernel)]; exact ⟨rfl, rfl⟩)
theorem said : Rows.TrainCoversSaid :=
  OpenClaim.holds_of_cond 8 Tryz.f8 rfl rfl rfl rfl rfl rfl rfl ⟨rfl, rfl, rfl, rfl, rfl⟩ rfl rfl rfl rfl rfl named Tryz.func8 facts inst wrap
    (fun os started H enc _ F => by rw [OpenClaim.pre_eq_preRow]; exact lifted os started H enc F)
end Go.Proofs.YtcfdaddablojlaaGreatDoor.trainCovers

/- TrainCovers returns true whatever the input, and its arguments read as before: the tied card. -/
namespace Go.Proofs.YtcfdaddablojlaaGreatDoor.trainCovers
open Go.ChangeShapes Go.WideShapes Go.ChangeAt Go.RowKit Go.Joins Go.Deep

theorem stands : (Tryz.f8.params.toList.all fun t => !Tryz.prog.wantsStandIn t) = true := by kernel_rfl
theorem looks : false = Tryz.prog.looks [] := by kernel_rfl
theorem plain (f : FuncId) (fn : Func) (hf : Tryz.pinned.checked.prog.funcNamed "quadform/quadformlaw27.TrainCovers" = some f) (hfn : Tryz.pinned.checked.prog.funcs[f]? = some fn) :
    false = Tryz.pinned.checked.prog.looks [] ∧ ∀ (j : Nat) t, fn.params[j]? = some t → Tryz.pinned.checked.prog.wantsStandIn t = false := by
  obtain rfl : f = 8 := Option.some.inj (named.symm.trans hf) |>.symm
  obtain rfl : fn = Tryz.f8 := (Option.some.inj (Tryz.func8.symm.trans hfn)).symm
  refine ⟨looks, fun j t ht => ?_⟩
  have := List.all_eq_true.1 stands t (by simpa using Array.mem_of_getElem? ht)
  exact (by simpa using this : Tryz.prog.wantsStandIn t = false)
theorem holds : Rows.TrainCoversCardSaid :=
  Claim7.holds_tied_plain_at .later [] _ _ _ _ said (fun _ h => by cases h) (by kernel_rfl) (fun _ h => by cases h) trainCovers_row_tie rfl ⟨rfl, rfl⟩ (by kernel_rfl) rfl plain (by kernel_rfl)
end Go.Proofs.YtcfdaddablojlaaGreatDoor.trainCovers

