/- A part of the proof of the laws: YX, VF, YT, Y2. -/
import Derived.Test.YtcfdaddablojlaaGreatDoorPkB3
import Derived.Test.YtcfdaddablojlaaGreatDoorPkB1
import Derived.Test.YtcfdaddablojlaaGreatDoorRows
import Derived.Test.YtcfdaddablojlaaGreatDoorTie
import Derived.Test.YtcfdaddablojlaaGreatDoorCards
import Derived.ProofKit
import Derived.Deep.DeepHandedRow
import Derived.Lib.LaidTab
import Derived.Stop.LaidErr
set_option linter.unusedSimpArgs false
set_option linter.unusedVariables false
/- (quadformscene.Symbol).Any and quadformscene.Bent. -/
set_option linter.unusedSimpArgs false
set_option linter.unusedVariables false
namespace Go.Proofs.YtcfdaddablojlaaGreatDoor.S
open Go.QfSy Go.RowKit

noncomputable def entsA : List OEnt := [
  ⟨59, [], fun A => match A with
    | [.agg [.int .u8 pr, .sl n 5 row], .int .i64 most, .bool two] => some (roC (listV most two (prtR n row)), [(∀ i, i < n → row i = (Prt.ofR (row i)).rvs) ∧ (∀ p ∈ prtR n row, p.ok) ∧ 1 ≤ most ∧ most ≤ 100 ∧ n ≤ 1000])
    | _ => none⟩,
  ⟨86, [], fun A => match A with
    | [.int .u8 k] => some (.int .i64 (Q.oddPr k), [0 ≤ k ∧ k ≤ 255])
    | _ => none⟩,
  ⟨20, [], fun A => match A with
    | [.agg [.int .i64 p, .sl n 5 row]] => some (.tup [.agg [.int .i64 2, roC (fuseM (consR n row))], .bool true], [(∀ i, i < n → row i = (Con.ofR (row i)).rvs) ∧ p = 2 ∧ val2M 2 (consR n row) = true])
    | _ => none⟩,
  ⟨23, [], fun A => match A with
    | [.agg [.int .i64 p, .sl n 5 row]] => some (.tup [.agg [.int .i64 2, roC (canM (consR n row))], .bool true], [(∀ i, i < n → row i = (Con.ofR (row i)).rvs) ∧ p = 2 ∧ val2M 2 (consR n row) = true])
    | _ => none⟩]
theorem entsA_ok : ∀ e ∈ entsA, EntOk Tryz.prog e := by
  intro e he
  simp only [entsA, List.mem_cons, List.not_mem_nil, or_false] at he
  rcases he with rfl | rfl | rfl | rfl
  all_goals
    intro A R ms h hm
    simp only at h
    split at h
    all_goals first | (cases h; done) | cases h
  · obtain ⟨h1, h2, h3, h4, h5⟩ := all_one hm
    exact list_rows h1 h2 h3 h4 h5
  · obtain ⟨h1, h2⟩ := all_one hm
    exact oddPrime_pure _ h1 h2
  · obtain ⟨h1, h2, h3⟩ := all_one hm
    subst h2
    obtain ⟨a, b, c, d⟩ := val2_ok h3
    exact PureC.imp (fuse_yes _ a h3 c) (.cons (.agg (.cons .same (.cons (.con h1) .nil))) .nil)
  · obtain ⟨h1, h2, h3⟩ := all_one hm
    subst h2
    obtain ⟨a, b, c, d⟩ := val2_ok h3
    exact PureC.imp (can_yes _ a h3 c) (.cons (.agg (.cons .same (.cons (.con h1) .nil))) .nil)

noncomputable def anyP (pr : Int) : Int := bif decide (pr % 8 < 3) then Q.oddPr pr else 2
noncomputable def anyL (pr : Int) (X : List Prt) (most : Int) : List Con := bif decide (pr % 8 < 3) then listV most false X else bif decide (pr % 8 < 5) then listV most true X else bif pr % 8 == 5 then fuseM (listV most true X) else canM (listV most true X)

theorem anyP_1 {pr : Int} (h : pr % 8 < 3) : anyP pr = Q.oddPr pr := by unfold anyP; rw [decide_eq_true h]; rfl
theorem anyP_2 {pr : Int} (h : ¬ pr % 8 < 3) : anyP pr = 2 := by unfold anyP; rw [decide_eq_false h]; rfl
theorem anyL_1 {pr : Int} {X : List Prt} {most : Int} (h : pr % 8 < 3) : anyL pr X most = listV most false X := by unfold anyL; rw [decide_eq_true h]; rfl
theorem anyL_2 {pr : Int} {X : List Prt} {most : Int} (h : ¬ pr % 8 < 3) (h2 : pr % 8 < 5) : anyL pr X most = listV most true X := by unfold anyL; rw [decide_eq_false h, decide_eq_true h2]; rfl
theorem anyL_3 {pr : Int} {X : List Prt} {most : Int} (h : pr % 8 = 5) : anyL pr X most = fuseM (listV most true X) := by unfold anyL; rw [decide_eq_false (by omega), decide_eq_false (by omega), h]; rfl
theorem anyL_4 {pr : Int} {X : List Prt} {most : Int} (h : ¬ pr % 8 < 5) (h2 : ¬ pr % 8 = 5) : anyL pr X most = canM (listV most true X) := by unfold anyL; rw [decide_eq_false (by omega), decide_eq_false h, beq_eq_false_iff_ne.2 h2]; rfl

set_option maxRecDepth 100000 in
theorem any_pure (pr : Int) (X : List Prt) (most : Int) (hp : U8 pr) (hX : ∀ p ∈ X, p.ok) (hn : X.length ≤ 900) (hm1 : 1 ≤ most) (hm2 : most ≤ 8) : PureC Tryz.prog [] 46 [.agg [.int .u8 pr, roP X], .int .i64 most] (.agg [.int .i64 (anyP pr), roC (anyL pr X most)]) := by
  obtain ⟨p1, p2⟩ := hp; have et : pr.tmod 8 = pr % 8 := Int.tmod_eq_emod_of_nonneg p1; have hv := val2_listV hm1 hm2 hX; have hl := listV_len (most := most) (two := true) (X := X)
  have rr := fun (tp : List Bool) (ms : List Prop) h hm => pure_run evOk (callF_ok evOk (orcOf_ok entsA_ok) 8) Tryz.func46 (A := [.agg [.int .u8 pr, roP X], .int .i64 most]) rfl none_ann rfl rfl evNg (tabs := []) (R := .agg [.int .i64 (anyP pr), roC (anyL pr X most)]) (tp := tp) (ms := ms) h hm
  refine Or.elim (Bool.eq_false_or_eq_true (pr.tmod (8 : Int) == (0 : Int))) (fun d1 => rr [true, true] [Q.oddPr pr = anyP pr, (listV most false (prtR X.length fun i => (X.getD i Prt.zero).rvs)).length = (anyL pr X most).length ∧ (fun i => ((listV most false (prtR X.length fun i => (X.getD i Prt.zero).rvs)).getD i Con.zero).rvs) = fun i => ((anyL pr X most).getD i Con.zero).rvs, (∀ (i : Nat), i < X.length → (fun i => (X.getD i Prt.zero).rvs) i = (Prt.ofR ((fun i => (X.getD i Prt.zero).rvs) i)).rvs) ∧ (∀ (p : Prt), (p ∈ prtR X.length fun i => (X.getD i Prt.zero).rvs) → p.ok) ∧ (1 : Int) ≤ most ∧ most ≤ (100 : Int) ∧ X.length ≤ (1000 : Nat), pr = pr, X.length = X.length ∧ (fun i => (X.getD i Prt.zero).rvs) = fun i => (X.getD i Prt.zero).rvs, (0 : Int) ≤ pr ∧ pr ≤ (255 : Int), Dec (pr.tmod (8 : Int) == (0 : Int)) true, Dec (pr.tmod (8 : Int) == (0 : Int)) true, (8 : Int) ≠ (0 : Int)] (by kernel_rfl) ⟨?_, ?_, ?_, ?_, ?_, ?_, d1, d1, (?_ : (8 : Int) ≠ (0 : Int))⟩)
           (fun d1 => Or.elim (Bool.eq_false_or_eq_true (pr.tmod (8 : Int) == (1 : Int))) (fun d2 => rr [false, true, true] [Q.oddPr pr = anyP pr, (listV most false (prtR X.length fun i => (X.getD i Prt.zero).rvs)).length = (anyL pr X most).length ∧ (fun i => ((listV most false (prtR X.length fun i => (X.getD i Prt.zero).rvs)).getD i Con.zero).rvs) = fun i => ((anyL pr X most).getD i Con.zero).rvs, (∀ (i : Nat), i < X.length → (fun i => (X.getD i Prt.zero).rvs) i = (Prt.ofR ((fun i => (X.getD i Prt.zero).rvs) i)).rvs) ∧ (∀ (p : Prt), (p ∈ prtR X.length fun i => (X.getD i Prt.zero).rvs) → p.ok) ∧ (1 : Int) ≤ most ∧ most ≤ (100 : Int) ∧ X.length ≤ (1000 : Nat), pr = pr, X.length = X.length ∧ (fun i => (X.getD i Prt.zero).rvs) = fun i => (X.getD i Prt.zero).rvs, (0 : Int) ≤ pr ∧ pr ≤ (255 : Int), Dec (pr.tmod (8 : Int) == (1 : Int)) true, Dec (pr.tmod (8 : Int) == (1 : Int)) true, Dec (pr.tmod (8 : Int) == (0 : Int)) false, (8 : Int) ≠ (0 : Int)] (by kernel_rfl) ⟨?_, ?_, ?_, ?_, ?_, ?_, d2, d2, d1, (?_ : (8 : Int) ≠ (0 : Int))⟩)
           (fun d2 => Or.elim (Bool.eq_false_or_eq_true (pr.tmod (8 : Int) == (2 : Int))) (fun d3 => rr [false, false, true] [Q.oddPr pr = anyP pr, (listV most false (prtR X.length fun i => (X.getD i Prt.zero).rvs)).length = (anyL pr X most).length ∧ (fun i => ((listV most false (prtR X.length fun i => (X.getD i Prt.zero).rvs)).getD i Con.zero).rvs) = fun i => ((anyL pr X most).getD i Con.zero).rvs, (∀ (i : Nat), i < X.length → (fun i => (X.getD i Prt.zero).rvs) i = (Prt.ofR ((fun i => (X.getD i Prt.zero).rvs) i)).rvs) ∧ (∀ (p : Prt), (p ∈ prtR X.length fun i => (X.getD i Prt.zero).rvs) → p.ok) ∧ (1 : Int) ≤ most ∧ most ≤ (100 : Int) ∧ X.length ≤ (1000 : Nat), pr = pr, X.length = X.length ∧ (fun i => (X.getD i Prt.zero).rvs) = fun i => (X.getD i Prt.zero).rvs, (0 : Int) ≤ pr ∧ pr ≤ (255 : Int), Dec (pr.tmod (8 : Int) == (2 : Int)) true, Dec (pr.tmod (8 : Int) == (1 : Int)) false, Dec (pr.tmod (8 : Int) == (0 : Int)) false, (8 : Int) ≠ (0 : Int)] (by kernel_rfl) ⟨?_, ?_, ?_, ?_, ?_, ?_, d3, d2, d1, (?_ : (8 : Int) ≠ (0 : Int))⟩)
           (fun d3 => Or.elim (Bool.eq_false_or_eq_true (pr.tmod (8 : Int) == (3 : Int))) (fun d4 => rr [false, false, false, true, true] [(2 : Int) = anyP pr, (listV most true (prtR X.length fun i => (X.getD i Prt.zero).rvs)).length = (anyL pr X most).length ∧ (fun i => ((listV most true (prtR X.length fun i => (X.getD i Prt.zero).rvs)).getD i Con.zero).rvs) = fun i => ((anyL pr X most).getD i Con.zero).rvs, (∀ (i : Nat), i < X.length → (fun i => (X.getD i Prt.zero).rvs) i = (Prt.ofR ((fun i => (X.getD i Prt.zero).rvs) i)).rvs) ∧ (∀ (p : Prt), (p ∈ prtR X.length fun i => (X.getD i Prt.zero).rvs) → p.ok) ∧ (1 : Int) ≤ most ∧ most ≤ (100 : Int) ∧ X.length ≤ (1000 : Nat), Dec (pr.tmod (8 : Int) == (3 : Int)) true, Dec (pr.tmod (8 : Int) == (3 : Int)) true, Dec (pr.tmod (8 : Int) == (2 : Int)) false, Dec (pr.tmod (8 : Int) == (1 : Int)) false, Dec (pr.tmod (8 : Int) == (0 : Int)) false, (8 : Int) ≠ (0 : Int)] (by kernel_rfl) ⟨?_, ?_, ?_, d4, d4, d3, d2, d1, (?_ : (8 : Int) ≠ (0 : Int))⟩)
           (fun d4 => Or.elim (Bool.eq_false_or_eq_true (pr.tmod (8 : Int) == (4 : Int))) (fun d5 => rr [false, false, false, false, true] [(2 : Int) = anyP pr, (listV most true (prtR X.length fun i => (X.getD i Prt.zero).rvs)).length = (anyL pr X most).length ∧ (fun i => ((listV most true (prtR X.length fun i => (X.getD i Prt.zero).rvs)).getD i Con.zero).rvs) = fun i => ((anyL pr X most).getD i Con.zero).rvs, (∀ (i : Nat), i < X.length → (fun i => (X.getD i Prt.zero).rvs) i = (Prt.ofR ((fun i => (X.getD i Prt.zero).rvs) i)).rvs) ∧ (∀ (p : Prt), (p ∈ prtR X.length fun i => (X.getD i Prt.zero).rvs) → p.ok) ∧ (1 : Int) ≤ most ∧ most ≤ (100 : Int) ∧ X.length ≤ (1000 : Nat), Dec (pr.tmod (8 : Int) == (4 : Int)) true, Dec (pr.tmod (8 : Int) == (3 : Int)) false, Dec (pr.tmod (8 : Int) == (2 : Int)) false, Dec (pr.tmod (8 : Int) == (1 : Int)) false, Dec (pr.tmod (8 : Int) == (0 : Int)) false, (8 : Int) ≠ (0 : Int)] (by kernel_rfl) ⟨?_, ?_, ?_, d5, d4, d3, d2, d1, (?_ : (8 : Int) ≠ (0 : Int))⟩)
           (fun d5 => Or.elim (Bool.eq_false_or_eq_true (pr.tmod (8 : Int) == (5 : Int))) (fun d6 => rr [false, false, false, false, false, true] [(2 : Int) = anyP pr, (fuseM (consR (listV most true (prtR X.length fun i => (X.getD i Prt.zero).rvs)).length fun i => ((listV most true (prtR X.length fun i => (X.getD i Prt.zero).rvs)).getD i Con.zero).rvs)).length = (anyL pr X most).length ∧ (fun i => ((fuseM (consR (listV most true (prtR X.length fun i => (X.getD i Prt.zero).rvs)).length fun i => ((listV most true (prtR X.length fun i => (X.getD i Prt.zero).rvs)).getD i Con.zero).rvs)).getD i Con.zero).rvs) = fun i => ((anyL pr X most).getD i Con.zero).rvs, (∀ (i : Nat), i < (listV most true (prtR X.length fun i => (X.getD i Prt.zero).rvs)).length → (fun i => ((listV most true (prtR X.length fun i => (X.getD i Prt.zero).rvs)).getD i Con.zero).rvs) i = (Con.ofR ((fun i => ((listV most true (prtR X.length fun i => (X.getD i Prt.zero).rvs)).getD i Con.zero).rvs) i)).rvs) ∧ (2 : Int) = (2 : Int) ∧ val2M (2 : Int) (consR (listV most true (prtR X.length fun i => (X.getD i Prt.zero).rvs)).length fun i => ((listV most true (prtR X.length fun i => (X.getD i Prt.zero).rvs)).getD i Con.zero).rvs) = true, (∀ (i : Nat), i < X.length → (fun i => (X.getD i Prt.zero).rvs) i = (Prt.ofR ((fun i => (X.getD i Prt.zero).rvs) i)).rvs) ∧ (∀ (p : Prt), (p ∈ prtR X.length fun i => (X.getD i Prt.zero).rvs) → p.ok) ∧ (1 : Int) ≤ most ∧ most ≤ (100 : Int) ∧ X.length ≤ (1000 : Nat), Dec (pr.tmod (8 : Int) == (5 : Int)) true, Dec (pr.tmod (8 : Int) == (4 : Int)) false, Dec (pr.tmod (8 : Int) == (3 : Int)) false, Dec (pr.tmod (8 : Int) == (2 : Int)) false, Dec (pr.tmod (8 : Int) == (1 : Int)) false, Dec (pr.tmod (8 : Int) == (0 : Int)) false, (8 : Int) ≠ (0 : Int)] (by kernel_rfl) ⟨?_, ?_, ?_, ?_, d6, d5, d4, d3, d2, d1, (?_ : (8 : Int) ≠ (0 : Int))⟩)
           (fun d6 => rr [false, false, false, false, false, false] [(2 : Int) = anyP pr, (canM (consR (listV most true (prtR X.length fun i => (X.getD i Prt.zero).rvs)).length fun i => ((listV most true (prtR X.length fun i => (X.getD i Prt.zero).rvs)).getD i Con.zero).rvs)).length = (anyL pr X most).length ∧ (fun i => ((canM (consR (listV most true (prtR X.length fun i => (X.getD i Prt.zero).rvs)).length fun i => ((listV most true (prtR X.length fun i => (X.getD i Prt.zero).rvs)).getD i Con.zero).rvs)).getD i Con.zero).rvs) = fun i => ((anyL pr X most).getD i Con.zero).rvs, (∀ (i : Nat), i < (listV most true (prtR X.length fun i => (X.getD i Prt.zero).rvs)).length → (fun i => ((listV most true (prtR X.length fun i => (X.getD i Prt.zero).rvs)).getD i Con.zero).rvs) i = (Con.ofR ((fun i => ((listV most true (prtR X.length fun i => (X.getD i Prt.zero).rvs)).getD i Con.zero).rvs) i)).rvs) ∧ (2 : Int) = (2 : Int) ∧ val2M (2 : Int) (consR (listV most true (prtR X.length fun i => (X.getD i Prt.zero).rvs)).length fun i => ((listV most true (prtR X.length fun i => (X.getD i Prt.zero).rvs)).getD i Con.zero).rvs) = true, (∀ (i : Nat), i < X.length → (fun i => (X.getD i Prt.zero).rvs) i = (Prt.ofR ((fun i => (X.getD i Prt.zero).rvs) i)).rvs) ∧ (∀ (p : Prt), (p ∈ prtR X.length fun i => (X.getD i Prt.zero).rvs) → p.ok) ∧ (1 : Int) ≤ most ∧ most ≤ (100 : Int) ∧ X.length ≤ (1000 : Nat), Dec (pr.tmod (8 : Int) == (5 : Int)) false, Dec (pr.tmod (8 : Int) == (4 : Int)) false, Dec (pr.tmod (8 : Int) == (3 : Int)) false, Dec (pr.tmod (8 : Int) == (2 : Int)) false, Dec (pr.tmod (8 : Int) == (1 : Int)) false, Dec (pr.tmod (8 : Int) == (0 : Int)) false, (8 : Int) ≠ (0 : Int)] (by kernel_rfl) ⟨?_, ?_, ?_, ?_, d6, d5, d4, d3, d2, d1, (?_ : (8 : Int) ≠ (0 : Int))⟩))))))
  all_goals first | (first | (with_reducible rfl) | (with_reducible exact ⟨rfl, rfl⟩) | exact ⟨p1, p2⟩ | (exact (by decide : (8 : Int) ≠ 0)) | exact ⟨fun _ _ => rfl, by rw [prtR_ro]; exact hX, hm1, by omega, by omega⟩ | exact ⟨fun _ _ => rfl, rfl, by rw [consR_ro, prtR_ro]; exact hv⟩ | (simp only [et, prtR_ro, consR_ro, beq_iff_eq, beq_eq_false_iff_ne, ne_eq] at * <;> first | (rw [anyP_1 (by omega)]; done) | (rw [anyP_2 (by omega)]; done) | (rw [anyL_1 (by omega)]; exact ⟨rfl, rfl⟩) | (rw [anyL_2 (by omega) (by omega)]; exact ⟨rfl, rfl⟩) | (rw [anyL_3 (by omega)]; exact ⟨rfl, rfl⟩) | (rw [anyL_4 (by omega) (by omega)]; exact ⟨rfl, rfl⟩)))
noncomputable def bentI (L : List Con) (a : Int) : Nat := ((IntKind.i64.wrap a).tmod (L.length : Int)).toNat
noncomputable def bentP (p : Int) (L : List Con) (f n : Int) : Int := bif decide (0 < L.length) && (f % 8 == 6) then IntKind.i64.wrap (p + IntKind.i64.wrap (n.tmod 2)) else p
noncomputable def bentL (L : List Con) (a f n : Int) : List Con :=
  bif f % 8 == 0 then updE L (bentI L a) (IntKind.i64.wrap ((L.getD (bentI L a) Con.zero).exp + IntKind.i64.wrap (n.tmod 3)))
  else bif f % 8 == 1 then updD L (bentI L a) (IntKind.i64.wrap ((L.getD (bentI L a) Con.zero).dim + IntKind.i64.wrap (n.tmod 3)))
  else bif f % 8 == 2 then updS L (bentI L a) (IntKind.i64.wrap (n.tmod 3))
  else bif f % 8 == 3 then updO L (bentI L a) (!(L.getD (bentI L a) Con.zero).odd)
  else bif decide (f % 8 < 6) then updT L (bentI L a) (IntKind.i64.wrap ((L.getD (bentI L a) Con.zero).oddity + IntKind.i64.wrap (n.tmod 9)))
  else L
theorem bentL_len {L : List Con} {a f n : Int} : (bentL L a f n).length = L.length := by
  unfold bentL
  cases f % 8 == 0
  · cases f % 8 == 1
    · cases f % 8 == 2
      · cases f % 8 == 3
        · cases decide (f % 8 < 6) <;> simp [updT]
        · simp [updO]
      · simp [updS]
    · simp [updD]
  · simp [updE]
theorem bent_0 {L : List Con} {a f n : Int} (h : f % 8 = 0) : bentL L a f n = updE L (bentI L a) (IntKind.i64.wrap ((L.getD (bentI L a) Con.zero).exp + IntKind.i64.wrap (n.tmod 3))) := by unfold bentL; rw [h]; rfl
theorem bent_1 {L : List Con} {a f n : Int} (h : f % 8 = 1) : bentL L a f n = updD L (bentI L a) (IntKind.i64.wrap ((L.getD (bentI L a) Con.zero).dim + IntKind.i64.wrap (n.tmod 3))) := by unfold bentL; rw [h]; rfl
theorem bent_2 {L : List Con} {a f n : Int} (h : f % 8 = 2) : bentL L a f n = updS L (bentI L a) (IntKind.i64.wrap (n.tmod 3)) := by unfold bentL; rw [h]; rfl
theorem bent_3 {L : List Con} {a f n : Int} (h : f % 8 = 3) : bentL L a f n = updO L (bentI L a) (!(L.getD (bentI L a) Con.zero).odd) := by unfold bentL; rw [h]; rfl
theorem bent_4 {L : List Con} {a f n : Int} (h : f % 8 = 4 ∨ f % 8 = 5) : bentL L a f n = updT L (bentI L a) (IntKind.i64.wrap ((L.getD (bentI L a) Con.zero).oddity + IntKind.i64.wrap (n.tmod 9))) := by unfold bentL; rcases h with h | h <;> (rw [h]; rfl)
theorem bent_6 {L : List Con} {a f n : Int} (h : ¬ f % 8 < 6) : bentL L a f n = L := by
  unfold bentL
  rw [beq_eq_false_iff_ne.2 (by omega), beq_eq_false_iff_ne.2 (by omega), beq_eq_false_iff_ne.2 (by omega), beq_eq_false_iff_ne.2 (by omega), decide_eq_false h]; rfl
theorem bentP_y {p f n : Int} {L : List Con} (h : 0 < L.length) (h6 : f % 8 = 6) : bentP p L f n = IntKind.i64.wrap (p + IntKind.i64.wrap (n.tmod 2)) := by unfold bentP; rw [decide_eq_true h, h6]; rfl
theorem bentP_n {p f n : Int} {L : List Con} (h6 : ¬ f % 8 = 6) : bentP p L f n = p := by unfold bentP; rw [beq_eq_false_iff_ne.2 h6, Bool.and_false]; rfl
theorem bentP_0 {p f n : Int} {L : List Con} (h : ¬ 0 < L.length) : bentP p L f n = p := by unfold bentP; rw [decide_eq_false h]; rfl
theorem bentI_b {L : List Con} {a : Int} (ha : U8 a) (h : 0 < L.length) : 0 ≤ (IntKind.i64.wrap a).tmod (L.length : Int) ∧ (IntKind.i64.wrap a).tmod (L.length : Int) < (L.length : Int) := by
  obtain ⟨h1, h2⟩ := ha
  rw [w64 (by omega) (by omega), Int.tmod_eq_emod_of_nonneg h1]
  exact ⟨Int.emod_nonneg _ (by omega), Int.emod_lt_of_pos _ (by omega)⟩

set_option maxHeartbeats 2000000 in
set_option maxRecDepth 100000 in
theorem bent_pure (p : Int) (L : List Con) (a f n : Int) (hn : L.length ≤ 1000) (ha : U8 a) (hf : U8 f) : PureC Tryz.prog [] 45 [.agg [.int .i64 p, roC L], .int .u8 a, .int .u8 f, .int .i8 n] (.agg [.int .i64 (bentP p L f n), roC (bentL L a f n)]) := by
  have ft : f.tmod 8 = f % 8 := Int.tmod_eq_emod_of_nonneg hf.1; have f7 : 0 ≤ f % 8 ∧ f % 8 < 8 := (by omega); have hb := bentI_b (L := L) ha; have lE : ∀ v, (updE L (bentI L a) v).length = L.length := (fun v => by simp [updE]); have lD : ∀ v, (updD L (bentI L a) v).length = L.length := (fun v => by simp [updD]); have lS : ∀ v, (updS L (bentI L a) v).length = L.length := (fun v => by simp [updS]); have lO : ∀ v, (updO L (bentI L a) v).length = L.length := (fun v => by simp [updO]); have lT : ∀ v, (updT L (bentI L a) v).length = L.length := (fun v => by simp [updT])
  have rr := fun (tp : List Bool) (ms : List Prop) h hm => pure_run evOk (callF_ok evOk (noOrc_ok _ _) 8) Tryz.func45 (A := [.agg [.int .i64 p, roC L], .int .u8 a, .int .u8 f, .int .i8 n]) rfl none_ann rfl rfl evNg (tabs := []) (R := .agg [.int .i64 (bentP p L f n), roC (bentL L a f n)]) (tp := tp) (ms := ms) h hm
  refine Or.elim (Bool.eq_false_or_eq_true (L.length.beq (0 : Nat))) (fun d1 => rr [true] [p = bentP p L f n, (bentL L a f n).length = (0 : Nat), p = p, ∀ (i : Nat), i < L.length → (fun i => (L.getD i Con.zero).rvs) i = (Con.ofR ((fun i => (L.getD i Con.zero).rvs) i)).rvs, Dec (L.length.beq (0 : Nat)) true] (by kernel_rfl) ⟨?_, ?_, ?_, ?_, d1⟩)
           (fun d1 => Or.elim (Bool.eq_false_or_eq_true ((↑L.length : Int) == (0 : Int))) (fun d2 => rr [false, true] [p = bentP p L f n, L.length = (bentL L a f n).length ∧ L.length = (consR L.length fun i => (L.getD i Con.zero).rvs).length ∧ ∀ (i : Nat), i < L.length → (fun i => ((bentL L a f n).getD i Con.zero).rvs) i = ((consR L.length fun i => (L.getD i Con.zero).rvs).getD i Con.zero).rvs, Dec ((↑L.length : Int) == (0 : Int)) true, p = p, (0 : Nat) < L.length ∧ L.length ≤ (1000000 : Nat), ∀ (i : Nat), i < L.length → (fun i => (L.getD i Con.zero).rvs) i = (Con.ofR ((fun i => (L.getD i Con.zero).rvs) i)).rvs, Dec (L.length.beq (0 : Nat)) false] (by kernel_rfl) ⟨?_, ?_, d2, ?_, ?_, ?_, d1⟩)
           (fun d2 => Or.elim (Bool.eq_false_or_eq_true (f.tmod (8 : Int) == (0 : Int))) (fun d3 => rr [false, false, true] [p = bentP p L f n, L.length = (bentL L a f n).length ∧ L.length = (updE (consR L.length fun i => (L.getD i Con.zero).rvs) ((IntKind.i64.wrap a).tmod (↑L.length : Int)).toNat (IntKind.i64.wrap (((consR L.length fun i => (L.getD i Con.zero).rvs).getD ((IntKind.i64.wrap a).tmod (↑L.length : Int)).toNat Con.zero).exp + IntKind.i64.wrap (n.tmod (3 : Int))))).length ∧ ∀ (i : Nat), i < L.length → (fun i => ((bentL L a f n).getD i Con.zero).rvs) i = ((updE (consR L.length fun i => (L.getD i Con.zero).rvs) ((IntKind.i64.wrap a).tmod (↑L.length : Int)).toNat (IntKind.i64.wrap (((consR L.length fun i => (L.getD i Con.zero).rvs).getD ((IntKind.i64.wrap a).tmod (↑L.length : Int)).toNat Con.zero).exp + IntKind.i64.wrap (n.tmod (3 : Int))))).getD i Con.zero).rvs, ((IntKind.i64.wrap a).tmod (↑L.length : Int)).toNat < (consR L.length fun i => (L.getD i Con.zero).rvs).length, (3 : Int) ≠ (0 : Int), ((IntKind.i64.wrap a).tmod (↑L.length : Int)).toNat < (consR L.length fun i => (L.getD i Con.zero).rvs).length, Dec (f.tmod (8 : Int) == (0 : Int)) true, (8 : Int) ≠ (0 : Int), (0 : Int) ≤ (IntKind.i64.wrap a).tmod (↑L.length : Int) ∧ (IntKind.i64.wrap a).tmod (↑L.length : Int) < (↑L.length : Int), (↑L.length : Int) ≠ (0 : Int), Dec ((↑L.length : Int) == (0 : Int)) false, p = p, (0 : Nat) < L.length ∧ L.length ≤ (1000000 : Nat), ∀ (i : Nat), i < L.length → (fun i => (L.getD i Con.zero).rvs) i = (Con.ofR ((fun i => (L.getD i Con.zero).rvs) i)).rvs, Dec (L.length.beq (0 : Nat)) false] (by kernel_rfl) ⟨?_, ?_, ?_, ?_, ?_, d3, ?_, ?_, ?_, d2, ?_, ?_, ?_, d1⟩)
           (fun d3 => Or.elim (Bool.eq_false_or_eq_true (f.tmod (8 : Int) == (1 : Int))) (fun d4 => rr [false, false, false, true] [p = bentP p L f n, L.length = (bentL L a f n).length ∧ L.length = (updD (consR L.length fun i => (L.getD i Con.zero).rvs) ((IntKind.i64.wrap a).tmod (↑L.length : Int)).toNat (IntKind.i64.wrap (((consR L.length fun i => (L.getD i Con.zero).rvs).getD ((IntKind.i64.wrap a).tmod (↑L.length : Int)).toNat Con.zero).dim + IntKind.i64.wrap (n.tmod (3 : Int))))).length ∧ ∀ (i : Nat), i < L.length → (fun i => ((bentL L a f n).getD i Con.zero).rvs) i = ((updD (consR L.length fun i => (L.getD i Con.zero).rvs) ((IntKind.i64.wrap a).tmod (↑L.length : Int)).toNat (IntKind.i64.wrap (((consR L.length fun i => (L.getD i Con.zero).rvs).getD ((IntKind.i64.wrap a).tmod (↑L.length : Int)).toNat Con.zero).dim + IntKind.i64.wrap (n.tmod (3 : Int))))).getD i Con.zero).rvs, ((IntKind.i64.wrap a).tmod (↑L.length : Int)).toNat < (consR L.length fun i => (L.getD i Con.zero).rvs).length, (3 : Int) ≠ (0 : Int), ((IntKind.i64.wrap a).tmod (↑L.length : Int)).toNat < (consR L.length fun i => (L.getD i Con.zero).rvs).length, Dec (f.tmod (8 : Int) == (1 : Int)) true, Dec (f.tmod (8 : Int) == (0 : Int)) false, (8 : Int) ≠ (0 : Int), (0 : Int) ≤ (IntKind.i64.wrap a).tmod (↑L.length : Int) ∧ (IntKind.i64.wrap a).tmod (↑L.length : Int) < (↑L.length : Int), (↑L.length : Int) ≠ (0 : Int), Dec ((↑L.length : Int) == (0 : Int)) false, p = p, (0 : Nat) < L.length ∧ L.length ≤ (1000000 : Nat), ∀ (i : Nat), i < L.length → (fun i => (L.getD i Con.zero).rvs) i = (Con.ofR ((fun i => (L.getD i Con.zero).rvs) i)).rvs, Dec (L.length.beq (0 : Nat)) false] (by kernel_rfl) ⟨?_, ?_, ?_, ?_, ?_, d4, d3, ?_, ?_, ?_, d2, ?_, ?_, ?_, d1⟩)
           (fun d4 => Or.elim (Bool.eq_false_or_eq_true (f.tmod (8 : Int) == (2 : Int))) (fun d5 => rr [false, false, false, false, true] [p = bentP p L f n, L.length = (bentL L a f n).length ∧ L.length = (updS (consR L.length fun i => (L.getD i Con.zero).rvs) ((IntKind.i64.wrap a).tmod (↑L.length : Int)).toNat (IntKind.i64.wrap (n.tmod (3 : Int)))).length ∧ ∀ (i : Nat), i < L.length → (fun i => ((bentL L a f n).getD i Con.zero).rvs) i = ((updS (consR L.length fun i => (L.getD i Con.zero).rvs) ((IntKind.i64.wrap a).tmod (↑L.length : Int)).toNat (IntKind.i64.wrap (n.tmod (3 : Int)))).getD i Con.zero).rvs, ((IntKind.i64.wrap a).tmod (↑L.length : Int)).toNat < (consR L.length fun i => (L.getD i Con.zero).rvs).length, (3 : Int) ≠ (0 : Int), Dec (f.tmod (8 : Int) == (2 : Int)) true, Dec (f.tmod (8 : Int) == (1 : Int)) false, Dec (f.tmod (8 : Int) == (0 : Int)) false, (8 : Int) ≠ (0 : Int), (0 : Int) ≤ (IntKind.i64.wrap a).tmod (↑L.length : Int) ∧ (IntKind.i64.wrap a).tmod (↑L.length : Int) < (↑L.length : Int), (↑L.length : Int) ≠ (0 : Int), Dec ((↑L.length : Int) == (0 : Int)) false, p = p, (0 : Nat) < L.length ∧ L.length ≤ (1000000 : Nat), ∀ (i : Nat), i < L.length → (fun i => (L.getD i Con.zero).rvs) i = (Con.ofR ((fun i => (L.getD i Con.zero).rvs) i)).rvs, Dec (L.length.beq (0 : Nat)) false] (by kernel_rfl) ⟨?_, ?_, ?_, ?_, d5, d4, d3, ?_, ?_, ?_, d2, ?_, ?_, ?_, d1⟩)
           (fun d5 => Or.elim (Bool.eq_false_or_eq_true (f.tmod (8 : Int) == (3 : Int))) (fun d6 => rr [false, false, false, false, false, true] [p = bentP p L f n, L.length = (bentL L a f n).length ∧ L.length = (updO (consR L.length fun i => (L.getD i Con.zero).rvs) ((IntKind.i64.wrap a).tmod (↑L.length : Int)).toNat !((consR L.length fun i => (L.getD i Con.zero).rvs).getD ((IntKind.i64.wrap a).tmod (↑L.length : Int)).toNat Con.zero).odd).length ∧ ∀ (i : Nat), i < L.length → (fun i => ((bentL L a f n).getD i Con.zero).rvs) i = ((updO (consR L.length fun i => (L.getD i Con.zero).rvs) ((IntKind.i64.wrap a).tmod (↑L.length : Int)).toNat !((consR L.length fun i => (L.getD i Con.zero).rvs).getD ((IntKind.i64.wrap a).tmod (↑L.length : Int)).toNat Con.zero).odd).getD i Con.zero).rvs, ((IntKind.i64.wrap a).tmod (↑L.length : Int)).toNat < (consR L.length fun i => (L.getD i Con.zero).rvs).length, ((IntKind.i64.wrap a).tmod (↑L.length : Int)).toNat < (consR L.length fun i => (L.getD i Con.zero).rvs).length, Dec (f.tmod (8 : Int) == (3 : Int)) true, Dec (f.tmod (8 : Int) == (2 : Int)) false, Dec (f.tmod (8 : Int) == (1 : Int)) false, Dec (f.tmod (8 : Int) == (0 : Int)) false, (8 : Int) ≠ (0 : Int), (0 : Int) ≤ (IntKind.i64.wrap a).tmod (↑L.length : Int) ∧ (IntKind.i64.wrap a).tmod (↑L.length : Int) < (↑L.length : Int), (↑L.length : Int) ≠ (0 : Int), Dec ((↑L.length : Int) == (0 : Int)) false, p = p, (0 : Nat) < L.length ∧ L.length ≤ (1000000 : Nat), ∀ (i : Nat), i < L.length → (fun i => (L.getD i Con.zero).rvs) i = (Con.ofR ((fun i => (L.getD i Con.zero).rvs) i)).rvs, Dec (L.length.beq (0 : Nat)) false] (by kernel_rfl) ⟨?_, ?_, ?_, ?_, d6, d5, d4, d3, ?_, ?_, ?_, d2, ?_, ?_, ?_, d1⟩)
           (fun d6 => Or.elim (Bool.eq_false_or_eq_true (f.tmod (8 : Int) == (4 : Int))) (fun d7 => rr [false, false, false, false, false, false, true, true] [p = bentP p L f n, L.length = (bentL L a f n).length ∧ L.length = (updT (consR L.length fun i => (L.getD i Con.zero).rvs) ((IntKind.i64.wrap a).tmod (↑L.length : Int)).toNat (IntKind.i64.wrap (((consR L.length fun i => (L.getD i Con.zero).rvs).getD ((IntKind.i64.wrap a).tmod (↑L.length : Int)).toNat Con.zero).oddity + IntKind.i64.wrap (n.tmod (9 : Int))))).length ∧ ∀ (i : Nat), i < L.length → (fun i => ((bentL L a f n).getD i Con.zero).rvs) i = ((updT (consR L.length fun i => (L.getD i Con.zero).rvs) ((IntKind.i64.wrap a).tmod (↑L.length : Int)).toNat (IntKind.i64.wrap (((consR L.length fun i => (L.getD i Con.zero).rvs).getD ((IntKind.i64.wrap a).tmod (↑L.length : Int)).toNat Con.zero).oddity + IntKind.i64.wrap (n.tmod (9 : Int))))).getD i Con.zero).rvs, ((IntKind.i64.wrap a).tmod (↑L.length : Int)).toNat < (consR L.length fun i => (L.getD i Con.zero).rvs).length, (9 : Int) ≠ (0 : Int), ((IntKind.i64.wrap a).tmod (↑L.length : Int)).toNat < (consR L.length fun i => (L.getD i Con.zero).rvs).length, Dec (f.tmod (8 : Int) == (4 : Int)) true, Dec (f.tmod (8 : Int) == (4 : Int)) true, Dec (f.tmod (8 : Int) == (3 : Int)) false, Dec (f.tmod (8 : Int) == (2 : Int)) false, Dec (f.tmod (8 : Int) == (1 : Int)) false, Dec (f.tmod (8 : Int) == (0 : Int)) false, (8 : Int) ≠ (0 : Int), (0 : Int) ≤ (IntKind.i64.wrap a).tmod (↑L.length : Int) ∧ (IntKind.i64.wrap a).tmod (↑L.length : Int) < (↑L.length : Int), (↑L.length : Int) ≠ (0 : Int), Dec ((↑L.length : Int) == (0 : Int)) false, p = p, (0 : Nat) < L.length ∧ L.length ≤ (1000000 : Nat), ∀ (i : Nat), i < L.length → (fun i => (L.getD i Con.zero).rvs) i = (Con.ofR ((fun i => (L.getD i Con.zero).rvs) i)).rvs, Dec (L.length.beq (0 : Nat)) false] (by kernel_rfl) ⟨?_, ?_, ?_, ?_, ?_, d7, d7, d6, d5, d4, d3, ?_, ?_, ?_, d2, ?_, ?_, ?_, d1⟩)
           (fun d7 => Or.elim (Bool.eq_false_or_eq_true (f.tmod (8 : Int) == (5 : Int))) (fun d8 => rr [false, false, false, false, false, false, false, true] [p = bentP p L f n, L.length = (bentL L a f n).length ∧ L.length = (updT (consR L.length fun i => (L.getD i Con.zero).rvs) ((IntKind.i64.wrap a).tmod (↑L.length : Int)).toNat (IntKind.i64.wrap (((consR L.length fun i => (L.getD i Con.zero).rvs).getD ((IntKind.i64.wrap a).tmod (↑L.length : Int)).toNat Con.zero).oddity + IntKind.i64.wrap (n.tmod (9 : Int))))).length ∧ ∀ (i : Nat), i < L.length → (fun i => ((bentL L a f n).getD i Con.zero).rvs) i = ((updT (consR L.length fun i => (L.getD i Con.zero).rvs) ((IntKind.i64.wrap a).tmod (↑L.length : Int)).toNat (IntKind.i64.wrap (((consR L.length fun i => (L.getD i Con.zero).rvs).getD ((IntKind.i64.wrap a).tmod (↑L.length : Int)).toNat Con.zero).oddity + IntKind.i64.wrap (n.tmod (9 : Int))))).getD i Con.zero).rvs, ((IntKind.i64.wrap a).tmod (↑L.length : Int)).toNat < (consR L.length fun i => (L.getD i Con.zero).rvs).length, (9 : Int) ≠ (0 : Int), ((IntKind.i64.wrap a).tmod (↑L.length : Int)).toNat < (consR L.length fun i => (L.getD i Con.zero).rvs).length, Dec (f.tmod (8 : Int) == (5 : Int)) true, Dec (f.tmod (8 : Int) == (4 : Int)) false, Dec (f.tmod (8 : Int) == (3 : Int)) false, Dec (f.tmod (8 : Int) == (2 : Int)) false, Dec (f.tmod (8 : Int) == (1 : Int)) false, Dec (f.tmod (8 : Int) == (0 : Int)) false, (8 : Int) ≠ (0 : Int), (0 : Int) ≤ (IntKind.i64.wrap a).tmod (↑L.length : Int) ∧ (IntKind.i64.wrap a).tmod (↑L.length : Int) < (↑L.length : Int), (↑L.length : Int) ≠ (0 : Int), Dec ((↑L.length : Int) == (0 : Int)) false, p = p, (0 : Nat) < L.length ∧ L.length ≤ (1000000 : Nat), ∀ (i : Nat), i < L.length → (fun i => (L.getD i Con.zero).rvs) i = (Con.ofR ((fun i => (L.getD i Con.zero).rvs) i)).rvs, Dec (L.length.beq (0 : Nat)) false] (by kernel_rfl) ⟨?_, ?_, ?_, ?_, ?_, d8, d7, d6, d5, d4, d3, ?_, ?_, ?_, d2, ?_, ?_, ?_, d1⟩)
           (fun d8 => Or.elim (Bool.eq_false_or_eq_true (f.tmod (8 : Int) == (6 : Int))) (fun d9 => rr [false, false, false, false, false, false, false, false, true] [IntKind.i64.wrap (p + IntKind.i64.wrap (n.tmod (2 : Int))) = bentP p L f n, L.length = (bentL L a f n).length ∧ L.length = (consR L.length fun i => (L.getD i Con.zero).rvs).length ∧ ∀ (i : Nat), i < L.length → (fun i => ((bentL L a f n).getD i Con.zero).rvs) i = ((consR L.length fun i => (L.getD i Con.zero).rvs).getD i Con.zero).rvs, (2 : Int) ≠ (0 : Int), Dec (f.tmod (8 : Int) == (6 : Int)) true, Dec (f.tmod (8 : Int) == (5 : Int)) false, Dec (f.tmod (8 : Int) == (4 : Int)) false, Dec (f.tmod (8 : Int) == (3 : Int)) false, Dec (f.tmod (8 : Int) == (2 : Int)) false, Dec (f.tmod (8 : Int) == (1 : Int)) false, Dec (f.tmod (8 : Int) == (0 : Int)) false, (8 : Int) ≠ (0 : Int), (0 : Int) ≤ (IntKind.i64.wrap a).tmod (↑L.length : Int) ∧ (IntKind.i64.wrap a).tmod (↑L.length : Int) < (↑L.length : Int), (↑L.length : Int) ≠ (0 : Int), Dec ((↑L.length : Int) == (0 : Int)) false, p = p, (0 : Nat) < L.length ∧ L.length ≤ (1000000 : Nat), ∀ (i : Nat), i < L.length → (fun i => (L.getD i Con.zero).rvs) i = (Con.ofR ((fun i => (L.getD i Con.zero).rvs) i)).rvs, Dec (L.length.beq (0 : Nat)) false] (by kernel_rfl) ⟨?_, ?_, ?_, d9, d8, d7, d6, d5, d4, d3, ?_, ?_, ?_, d2, ?_, ?_, ?_, d1⟩)
           (fun d9 => rr [false, false, false, false, false, false, false, false, false] [p = bentP p L f n, L.length = (bentL L a f n).length ∧ L.length = (consR L.length fun i => (L.getD i Con.zero).rvs).length ∧ ∀ (i : Nat), i < L.length → (fun i => ((bentL L a f n).getD i Con.zero).rvs) i = ((consR L.length fun i => (L.getD i Con.zero).rvs).getD i Con.zero).rvs, Dec (f.tmod (8 : Int) == (6 : Int)) false, Dec (f.tmod (8 : Int) == (5 : Int)) false, Dec (f.tmod (8 : Int) == (4 : Int)) false, Dec (f.tmod (8 : Int) == (3 : Int)) false, Dec (f.tmod (8 : Int) == (2 : Int)) false, Dec (f.tmod (8 : Int) == (1 : Int)) false, Dec (f.tmod (8 : Int) == (0 : Int)) false, (8 : Int) ≠ (0 : Int), (0 : Int) ≤ (IntKind.i64.wrap a).tmod (↑L.length : Int) ∧ (IntKind.i64.wrap a).tmod (↑L.length : Int) < (↑L.length : Int), (↑L.length : Int) ≠ (0 : Int), Dec ((↑L.length : Int) == (0 : Int)) false, p = p, (0 : Nat) < L.length ∧ L.length ≤ (1000000 : Nat), ∀ (i : Nat), i < L.length → (fun i => (L.getD i Con.zero).rvs) i = (Con.ofR ((fun i => (L.getD i Con.zero).rvs) i)).rvs, Dec (L.length.beq (0 : Nat)) false] (by kernel_rfl) ⟨?_, ?_, d9, d8, d7, d6, d5, d4, d3, ?_, ?_, ?_, d2, ?_, ?_, ?_, d1⟩)))))))))
  all_goals first | (first | (with_reducible rfl) | (with_reducible exact ⟨rfl, rfl⟩) | exact fun _ _ => rfl | (exact (by decide : (8 : Int) ≠ 0)) | (exact (by decide : (3 : Int) ≠ 0)) | (exact (by decide : (9 : Int) ≠ 0)) | (exact (by decide : (2 : Int) ≠ 0)) | (simp only [ft, consR_ro, Nat.beq_eq_true_eq, beq_iff_eq, beq_eq_false_iff_ne, ne_eq] at * <;> (have e0 : L.length = 0 ∨ 0 < L.length := Nat.eq_zero_or_pos _); first | omega | (have h0 := Nat.ne_of_beq_eq_false d1; exact ⟨by omega, by omega⟩) | (have h0 := Nat.ne_of_beq_eq_false d1; exact hb (by omega)) | (have h0 := Nat.ne_of_beq_eq_false d1; have := hb (by omega); omega) | (have h0 := Nat.ne_of_beq_eq_false d1; omega) | (have h0 := Nat.eq_of_beq_eq_true d1; first | (rw [bentP_0 (by omega)]; done) | (rw [bentL_len]; exact h0)) | (rw [bentP_n (by omega)]; done) | (have h0 := Nat.ne_of_beq_eq_false d1; rw [bentP_y (by omega) (by omega)]; done) | (rw [bent_0 (by omega)]; exact ⟨(lE _).symm, (lE _).symm, fun _ _ => rfl⟩) | (rw [bent_1 (by omega)]; exact ⟨(lD _).symm, (lD _).symm, fun _ _ => rfl⟩) | (rw [bent_2 (by omega)]; exact ⟨(lS _).symm, (lS _).symm, fun _ _ => rfl⟩) | (rw [bent_3 (by omega)]; exact ⟨(lO _).symm, (lO _).symm, fun _ _ => rfl⟩) | (rw [bent_4 (by omega)]; exact ⟨(lT _).symm, (lT _).symm, fun _ _ => rfl⟩) | (rw [bent_6 (by omega)]; exact ⟨by trivial, by trivial, fun _ _ => rfl⟩) | (exfalso; have h0 := Nat.ne_of_beq_eq_false d1; omega)))
end Go.Proofs.YtcfdaddablojlaaGreatDoor.S

/- train.Canonical; both Fuses and both Canonicals, whatever they are given. -/
set_option linter.unusedSimpArgs false
set_option linter.unusedVariables false
namespace Go.Proofs.YtcfdaddablojlaaGreatDoor.S
open Go.QfSy Go.RowKit

noncomputable def entsVK : List OEnt := [
  ⟨54, [], fun A => match A with
    | [.agg [.int .i64 p, .sl n 5 row], .int .i64 a] => some (.agg [.int .i64 2, roC (stepM (consR n row) a.toNat)], [(∀ i, i < n → row i = (Con.ofR (row i)).rvs) ∧ p = 2 ∧ okL (consR n row) ∧ 1 ≤ a ∧ a < (n : Int)])
    | _ => none⟩,
  ⟨53, [], fun A => match A with
    | [.agg [.int .i64 p, .sl n 5 row], .int .i64 a] => some (.bool (linkM (consR n row) a.toNat), [(∀ i, i < n → row i = (Con.ofR (row i)).rvs) ∧ okL (consR n row) ∧ 1 ≤ a ∧ a < (n : Int)])
    | _ => none⟩,
  ⟨19, [], fun A => match A with
    | [.agg [.int .i64 p, .sl n 5 row]] => some (.tup [.agg [.int .i64 2, roC (fuseM (consR n row))], .bool true], [(∀ i, i < n → row i = (Con.ofR (row i)).rvs) ∧ p = 2 ∧ okL (consR n row) ∧ val2M 2 (consR n row) = true ∧ 0 < n])
    | _ => none⟩]
theorem entsVK_ok : ∀ e ∈ entsVK, EntOk Tryz.prog e := by
  intro e he
  simp only [entsVK, List.mem_cons, List.not_mem_nil, or_false] at he
  rcases he with rfl | rfl | rfl
  all_goals
    intro A R ms h hm
    simp only at h
    split at h
    all_goals first | (cases h; done) | cases h
  · obtain ⟨h1, h2, h3, h4, h5⟩ := all_one hm
    rename_i a
    subst h2
    have e : ((a.toNat : Nat) : Int) = a := by omega
    have := twalk_pure _ a.toNat h3 (by omega) (by rw [consR_len]; omega)
    rw [e] at this
    exact PureC.imp this (.cons (.agg (.cons .same (.cons (.con h1) .nil))) (.cons .same .nil))
  · obtain ⟨h1, h3, h4, h5⟩ := all_one hm
    rename_i p _ _ a
    have e : ((a.toNat : Nat) : Int) = a := by omega
    have := tlinked_pure p _ a.toNat h3 (by omega) (by rw [consR_len]; omega)
    rw [e] at this
    exact PureC.imp this (.cons (.agg (.cons .same (.cons (.con h1) .nil))) (.cons .same .nil))
  · obtain ⟨h1, h2, h4, h5, h6⟩ := all_one hm
    subst h2
    exact PureC.imp (tfuse_yes _ h4 h5 (by rw [consR_len]; exact h6)) (.cons (.agg (.cons .same (.cons (.con h1) .nil))) .nil)
noncomputable def entsVKn : List OEnt := [
  ⟨19, [], fun A => match A with
    | [.agg [.int .i64 p, .sl n 5 row]] => some (.tup [.agg [.int .i64 0, roC []], .bool false], [(∀ i, i < n → row i = (Con.ofR (row i)).rvs) ∧ n ≤ 1000 ∧ val2M p (consR n row) = false])
    | _ => none⟩]
theorem entsVKn_ok : ∀ e ∈ entsVKn, EntOk Tryz.prog e := by
  intro e he
  simp only [entsVKn, List.mem_cons, List.not_mem_nil, or_false] at he
  subst he
  intro A R ms h hm
  simp only at h
  split at h
  · cases h
    obtain ⟨h1, h3, h4⟩ := all_one hm
    exact PureC.imp (tfuse_no _ _ (by rw [consR_len]; exact h3) h4) (.cons (.agg (.cons .same (.cons (.con h1) .nil))) .nil)
  · cases h
noncomputable def tcnH (M : List Con) : List (Nat × Blk) := [(1001, ⟨.plain [.int .i64 0, .nils], 24, 0, false, true⟩), (1002, ⟨.plain [.vint .i64 2, (roC M).av], 24, 0, false, true⟩)]
noncomputable def tcnAnn (L : List Con) : Ann := ⟨⟨[(2, .ptr 1001 0), (4, .ptr 1002 0), (6, .vint .i64 (IntKind.i64.wrap (((fuseM L).length : Int) - 1)))], tcnH (fuseM L), 1020⟩, none, fun _ =>
  (.exit 0, ⟨[(2, .ptr 1001 0), (4, .ptr 1002 0)], tcnH (canM L), 1020⟩)⟩
set_option maxRecDepth 100000 in
theorem tcn_loop (L : List Con) (hL : okL (fuseM L)) (hne : 0 < (fuseM L).length) : AnnOk Tryz.prog EV.ng (Nat.max 1 Tryz.f22.ntmps) (bodyAt Tryz.f22 [0, 1, 0, 1, 1, 1]) (tcnAnn L) := by
  refine ann_of evOk (callF_ok evOk (orcOf_ok entsVK_ok) 8) none_ann (by kernel_rfl) (by kernel_rfl) (fun i : Nat × List Con => (fun (k : Nat) (M : List Con) => (⟨[(2, .ptr 1001 0), (4, .ptr 1002 0), (6, .vint .i64 (k : Int))], tcnH M, 1020⟩ : St)) i.1 i.2) (fun i : Nat × List Con => (fun (k : Nat) (M : List Con) => (k : Nat)) i.1 i.2) (fun (d : Bool) (i : Nat × List Con) => (fun (k : Nat) (M : List Con) => (okL M ∧ k < M.length ∧ canG M k = canM L : Prop)) i.1 i.2) ?_ ?_
  · intro d hd
    exact ⟨((fuseM L).length - 1, fuseM L), [IntKind.i64.wrap ((↑(fuseM L).length : Int) - (1 : Int)) = (↑((fuseM L).length - (1 : Nat)) : Int), (2 : Int) = (2 : Int), (fuseM L).length = (fuseM L).length ∧ (fun i => ((fuseM L).getD i Con.zero).rvs) = fun i => ((fuseM L).getD i Con.zero).rvs], by kernel_rfl, (by refine ⟨?_, ?_, (?_ : (fuseM L).length = (fuseM L).length ∧ (fun i => ((fuseM L).getD i Con.zero).rvs) = fun i => ((fuseM L).getD i Con.zero).rvs)⟩ <;> (first | rfl | exact ⟨rfl, rfl⟩ | (have := hL.1; rw [w64 (by omega) (by omega)]; omega))), (by exact ⟨hL, Nat.sub_lt hne (by decide), rfl⟩)⟩
  · rintro d hd ⟨k, M⟩ hI
    cases d
    · -- d = false
      exact Bool.noConfusion (show false = true from hd)
    · -- d = true
      obtain ⟨hM, hk, hc⟩ := hI
      have hl := hM.1
      have ek : IntKind.i64.wrap ((k : Int) - 1) = (k : Int) - 1 := w64 (by omega) (by omega)
      refine Or.elim (Bool.eq_false_or_eq_true (decide ((↑k : Int) > (0 : Int)))) (fun d1 => Or.elim (Bool.eq_false_or_eq_true ((M.getD k Con.zero).sign == (-1 : Int))) (fun d2 => Or.elim (Bool.eq_false_or_eq_true (linkM (consR M.length fun i => (M.getD i Con.zero).rvs) k)) (fun d3 => ⟨[true, true, true], .inl ⟨(k - 1, canS M k), [IntKind.i64.wrap ((↑k : Int) - (1 : Int)) = (↑(k - (1 : Nat)) : Int), (2 : Int) = (2 : Int), (stepM (consR M.length fun i => (M.getD i Con.zero).rvs) k).length = (canS M k).length ∧ (fun i => ((stepM (consR M.length fun i => (M.getD i Con.zero).rvs) k).getD i Con.zero).rvs) = fun i => ((canS M k).getD i Con.zero).rvs, (∀ (i : Nat), i < M.length → (fun i => (M.getD i Con.zero).rvs) i = (Con.ofR ((fun i => (M.getD i Con.zero).rvs) i)).rvs) ∧ (2 : Int) = (2 : Int) ∧ okL (consR M.length fun i => (M.getD i Con.zero).rvs) ∧ (1 : Int) ≤ (↑k : Int) ∧ (↑k : Int) < (↑M.length : Int), Dec (linkM (consR M.length fun i => (M.getD i Con.zero).rvs) k) true, (∀ (i : Nat), i < M.length → (fun i => (M.getD i Con.zero).rvs) i = (Con.ofR ((fun i => (M.getD i Con.zero).rvs) i)).rvs) ∧ okL (consR M.length fun i => (M.getD i Con.zero).rvs) ∧ (1 : Int) ≤ (↑k : Int) ∧ (↑k : Int) < (↑M.length : Int), Dec ((M.getD k Con.zero).sign == (-1 : Int)) true, (0 : Int) ≤ (↑k : Int) ∧ (↑k : Int) < (↑M.length : Int), Dec (decide ((↑k : Int) > (0 : Int))) true], by kernel_rfl, ⟨?_, ?_, ?_, ?_, d3, ?_, d2, ?_, d1⟩, MuG.out ?_, InG.out ?_⟩⟩)
           (fun d3 => ⟨[true, true, false], .inl ⟨(k - 1, canS M k), [IntKind.i64.wrap ((↑k : Int) - (1 : Int)) = (↑(k - (1 : Nat)) : Int), (2 : Int) = (2 : Int), M.length = (canS M k).length ∧ (fun i => (M.getD i Con.zero).rvs) = fun i => ((canS M k).getD i Con.zero).rvs, Dec (linkM (consR M.length fun i => (M.getD i Con.zero).rvs) k) false, (∀ (i : Nat), i < M.length → (fun i => (M.getD i Con.zero).rvs) i = (Con.ofR ((fun i => (M.getD i Con.zero).rvs) i)).rvs) ∧ okL (consR M.length fun i => (M.getD i Con.zero).rvs) ∧ (1 : Int) ≤ (↑k : Int) ∧ (↑k : Int) < (↑M.length : Int), Dec ((M.getD k Con.zero).sign == (-1 : Int)) true, (0 : Int) ≤ (↑k : Int) ∧ (↑k : Int) < (↑M.length : Int), Dec (decide ((↑k : Int) > (0 : Int))) true], by kernel_rfl, ⟨?_, ?_, ?_, d3, ?_, d2, ?_, d1⟩, MuG.out ?_, InG.out ?_⟩⟩))
           (fun d2 => ⟨[true, false], .inl ⟨(k - 1, canS M k), [IntKind.i64.wrap ((↑k : Int) - (1 : Int)) = (↑(k - (1 : Nat)) : Int), (2 : Int) = (2 : Int), M.length = (canS M k).length ∧ (fun i => (M.getD i Con.zero).rvs) = fun i => ((canS M k).getD i Con.zero).rvs, Dec ((M.getD k Con.zero).sign == (-1 : Int)) false, (0 : Int) ≤ (↑k : Int) ∧ (↑k : Int) < (↑M.length : Int), Dec (decide ((↑k : Int) > (0 : Int))) true], by kernel_rfl, ⟨?_, ?_, ?_, d2, ?_, d1⟩, MuG.out ?_, InG.out ?_⟩⟩))
           (fun d1 => ⟨[false], .inr ⟨[(2 : Int) = (2 : Int), M.length = (canM L).length ∧ (fun i => (M.getD i Con.zero).rvs) = fun i => ((canM L).getD i Con.zero).rvs, Dec (decide ((↑k : Int) > (0 : Int))) false], by kernel_rfl, ⟨?_, ?_, d1⟩, rfl⟩⟩)
      all_goals first | (refine MuG.mk ?_; (simp only [decide_eq_true_eq, ge_iff_le, gt_iff_lt] at *; show k - 1 < k; omega)) | (refine InG.mk ?_; (simp only [decide_eq_true_eq, ge_iff_le, gt_iff_lt] at *; refine ⟨canS_ok hM hk, by rw [canS_len]; omega, ?_⟩; rw [← hc]; unfold canS; cases hs : ((at_ M k).sign == -1 && linkM M k) with | true => exact canG_yes (by omega) hs | false => exact canG_no (by omega) hs)) | (refine CtG.mk ?_; (simp_all)) | (first | (with_reducible rfl) | exact ⟨rfl, rfl⟩ | ((try simp only [ek, consR_ro, Int.toNat_natCast, decide_eq_true_eq, decide_eq_false_iff_not, ge_iff_le, gt_iff_lt] at *) <;> first | omega | rfl | exact ⟨fun _ _ => rfl, hM, by omega, by omega⟩ | exact ⟨fun _ _ => rfl, by trivial, hM, by omega, by omega⟩ | (rw [canS, show ((at_ M k).sign == -1 && linkM M k) = true from by simp_all [at_]]; exact ⟨rfl, rfl⟩) | (rw [canS, show ((at_ M k).sign == -1 && linkM M k) = false from by simp_all [at_]]; exact ⟨rfl, rfl⟩) | (rw [← hc, canG_end (by omega)]; exact ⟨rfl, rfl⟩)))
set_option maxRecDepth 100000 in
theorem tcan_yes (L : List Con) (hL : okL L) (hv : val2M 2 L = true) (hne : 0 < L.length) : PureC Tryz.prog [] 22 [.agg [.int .i64 2, roC L]] (.tup [.agg [.int .i64 2, roC (canM L)], .bool true]) := by
  have rr := fun (tp : List Bool) (ms : List Prop) h hm => pure_run evOk (callF_ok evOk (orcOf_ok entsVK_ok) 8) Tryz.func22 (A := [.agg [.int .i64 2, roC L]]) (N := Nat.max 1 Tryz.f22.ntmps) rfl (one_ann (tcn_loop L (fuseM_ok hL) (by rw [fuseM_len]; exact hne))) rfl rfl evNg (tabs := []) (R := .tup [.agg [.int .i64 2, roC (canM L)], .bool true]) (tp := tp) (ms := ms) h hm
  refine rr [false] [(2 : Int) = (2 : Int), (canM L).length = (canM L).length ∧ (fun i => ((canM L).getD i Con.zero).rvs) = fun i => ((canM L).getD i Con.zero).rvs, true = true, IntKind.i64.wrap ((↑(fuseM (consR L.length fun i => (L.getD i Con.zero).rvs)).length : Int) - (1 : Int)) = IntKind.i64.wrap ((↑(fuseM L).length : Int) - (1 : Int)), (2 : Int) = (2 : Int), (fuseM (consR L.length fun i => (L.getD i Con.zero).rvs)).length = (fuseM L).length ∧ (fun i => ((fuseM (consR L.length fun i => (L.getD i Con.zero).rvs)).getD i Con.zero).rvs) = fun i => ((fuseM L).getD i Con.zero).rvs, Dec (!true) false, (∀ (i : Nat), i < L.length → (fun i => (L.getD i Con.zero).rvs) i = (Con.ofR ((fun i => (L.getD i Con.zero).rvs) i)).rvs) ∧ (2 : Int) = (2 : Int) ∧ okL (consR L.length fun i => (L.getD i Con.zero).rvs) ∧ val2M (2 : Int) (consR L.length fun i => (L.getD i Con.zero).rvs) = true ∧ (0 : Nat) < L.length] (by kernel_rfl) ⟨?_, ?_, ?_, ?_, ?_, ?_, (dN rfl), (?_ : (∀ (i : Nat), i < L.length → (fun i => (L.getD i Con.zero).rvs) i = (Con.ofR ((fun i => (L.getD i Con.zero).rvs) i)).rvs) ∧ (2 : Int) = (2 : Int) ∧ okL (consR L.length fun i => (L.getD i Con.zero).rvs) ∧ val2M (2 : Int) (consR L.length fun i => (L.getD i Con.zero).rvs) = true ∧ (0 : Nat) < L.length)⟩
  all_goals first | (first | (with_reducible rfl) | exact ⟨rfl, rfl⟩ | exact ⟨fun _ _ => rfl, rfl, by rw [consR_ro]; exact hL, by rw [consR_ro]; exact hv, hne⟩ | (rw [consR_ro]; first | done | rfl | exact ⟨rfl, rfl⟩))
set_option maxRecDepth 100000 in
theorem tcan_no (p : Int) (L : List Con) (hn : L.length ≤ 1000) (hv : val2M p L = false) : PureC Tryz.prog [] 22 [.agg [.int .i64 p, roC L]] (.tup [.agg [.int .i64 0, roC []], .bool false]) := by
  have rr := fun (tp : List Bool) (ms : List Prop) h hm => pure_run evOk (callF_ok evOk (orcOf_ok entsVKn_ok) 8) Tryz.func22 (A := [.agg [.int .i64 p, roC L]]) rfl none_ann rfl rfl evNg (tabs := []) (R := .tup [.agg [.int .i64 0, roC []], .bool false]) (tp := tp) (ms := ms) h hm
  refine rr [true] [(0 : Int) = (0 : Int), (0 : Nat) = (0 : Nat), false = false, Dec (!false) true, (∀ (i : Nat), i < L.length → (fun i => (L.getD i Con.zero).rvs) i = (Con.ofR ((fun i => (L.getD i Con.zero).rvs) i)).rvs) ∧ L.length ≤ (1000 : Nat) ∧ val2M p (consR L.length fun i => (L.getD i Con.zero).rvs) = false] (by kernel_rfl) ⟨?_, ?_, ?_, (dN rfl), (?_ : (∀ (i : Nat), i < L.length → (fun i => (L.getD i Con.zero).rvs) i = (Con.ofR ((fun i => (L.getD i Con.zero).rvs) i)).rvs) ∧ L.length ≤ (1000 : Nat) ∧ val2M p (consR L.length fun i => (L.getD i Con.zero).rvs) = false)⟩
  all_goals first | (first | rfl | exact ⟨rfl, rfl⟩ | exact ⟨fun _ _ => rfl, hn, by rw [consR_ro]; exact hv⟩)
def bP (v : Bool) : Int := bif v then 2 else 0
def bL (v : Bool) (M : List Con) : List Con := bif v then M else []
theorem val2_p {p : Int} {L : List Con} (h : val2M p L = true) : p = 2 := by
  unfold val2M at h
  simp only [Bool.and_eq_true, beq_iff_eq] at h
  exact h.1
theorem tfuse_pure (p : Int) (L : List Con) (hn : L.length ≤ 1000) : PureC Tryz.prog [] 19 [.agg [.int .i64 p, roC L]] (.tup [.agg [.int .i64 (bP (val2M p L)), roC (bL (val2M p L) (fuseM L))], .bool (val2M p L)]) := by
  cases h : val2M p L with
  | false => exact tfuse_no p L hn h
  | true =>
    have := val2_p h
    subst this
    obtain ⟨a, _, c, _⟩ := val2_ok h
    exact tfuse_yes L a h c
theorem rfuse_pure (p : Int) (L : List Con) (hn : L.length ≤ 1000) : PureC Tryz.prog [] 20 [.agg [.int .i64 p, roC L]] (.tup [.agg [.int .i64 (bP (val2M p L)), roC (bL (val2M p L) (fuseM L))], .bool (val2M p L)]) := by
  cases h : val2M p L with
  | false => exact fuse_no p L hn h
  | true =>
    have := val2_p h
    subst this
    obtain ⟨a, _, c, _⟩ := val2_ok h
    exact fuse_yes L a h c
theorem tcan_pure (p : Int) (L : List Con) (hn : L.length ≤ 1000) : PureC Tryz.prog [] 22 [.agg [.int .i64 p, roC L]] (.tup [.agg [.int .i64 (bP (val2M p L)), roC (bL (val2M p L) (canM L))], .bool (val2M p L)]) := by
  cases h : val2M p L with
  | false => exact tcan_no p L hn h
  | true =>
    have := val2_p h
    subst this
    obtain ⟨a, _, c, _⟩ := val2_ok h
    exact tcan_yes L a h c
theorem rcan_pure (p : Int) (L : List Con) (hn : L.length ≤ 1000) : PureC Tryz.prog [] 23 [.agg [.int .i64 p, roC L]] (.tup [.agg [.int .i64 (bP (val2M p L)), roC (bL (val2M p L) (canM L))], .bool (val2M p L)]) := by
  cases h : val2M p L with
  | false => exact can_no p L hn h
  | true =>
    have := val2_p h
    subst this
    obtain ⟨a, _, c, _⟩ := val2_ok h
    exact can_yes L a h c
theorem bL_len {v : Bool} {M : List Con} : (bL v M).length ≤ M.length := by cases v <;> simp [bL]
theorem canM_len {L : List Con} : (canM L).length = L.length := by unfold canM; rw [canG_len, fuseM_len]
theorem anyL_len' {pr : Int} {X : List Prt} {most : Int} : (anyL pr X most).length ≤ X.length + 1 := by
  have h1 := listV_len (most := most) (two := false) (X := X)
  have h2 := listV_len (most := most) (two := true) (X := X)
  unfold anyL
  cases decide (pr % 8 < 3)
  · cases decide (pr % 8 < 5)
    · cases pr % 8 == 5
      · simp only [cond_false]; rw [canM_len]; exact h2
      · simp only [cond_false, cond_true]; rw [fuseM_len]; exact h2
    · exact h2
  · exact h1
end Go.Proofs.YtcfdaddablojlaaGreatDoor.S

/- The tables that the rows list; a world that the rows speak of holds them. -/
namespace Go.Proofs.YtcfdaddablojlaaGreatDoor.S
open Go.ChangeShapes Go.WideShapes Go.ChangeAt Go.RowKit Go.QfSy

theorem own : ownKnob Tryz.prog.godebug = none := by kernel_rfl
theorem laidOut : laidOutB Tryz.prog = true := by kernel_rfl
def tabs : List Tb := [
  ⟨2, .u8, [0, 1, 28, 2, 29, 14, 24, 3, 30, 22, 20, 15, 25, 17, 4, 8, 31, 27, 13, 23, 21, 19, 16, 7, 26, 12, 18, 6, 11, 5, 10, 9], 197⟩,
  ⟨3, .u8, [0, 1, 56, 2, 57, 49, 28, 3, 61, 58, 42, 50, 38, 29, 17, 4, 62, 47, 59, 36, 45, 43, 51, 22, 53, 39, 33, 30, 24, 18, 12, 5, 63, 55, 48, 27, 60, 41, 37, 16, 46, 35, 44, 21, 52, 32, 23, 11, 54, 26, 40, 15, 34, 20, 31, 10, 25, 14, 19, 9, 13, 8, 7, 6], 198⟩,
  ⟨0, .u64, [1, 10, 100, 1000, 10000, 100000, 1000000, 10000000, 100000000, 1000000000, 10000000000, 100000000000, 1000000000000, 10000000000000, 100000000000000, 1000000000000000, 10000000000000000, 100000000000000000, 1000000000000000000, 10000000000000000000], 176⟩,
  ⟨1, .i64, [7, 11, 13, 17, 19, 23, 29, 31], 182⟩]
theorem gn0 : Tryz.prog.globalNamed "math/bits.deBruijn32tab" = some 2 := by kernel_rfl
theorem gt0 : (Tryz.prog.globals[2]?).map (·.type) = some 197 := by kernel_rfl
theorem gs0 : 2 < Tryz.prog.globals.size := by show Nat.lt _ _; exact Nat.le_of_ble_eq_true (by kernel_rfl)
theorem gc0 : Tryz.prog.cellsOf 197 = 32 := by kernel_rfl
theorem ge0 : Tryz.prog.cellsOf 5 = 1 := by kernel_rfl
theorem gr0 : (((begin Tryz.prog (fun _ _ => 0) default).world.heap[2]?).bind Obj.row?).map (·.2) = some 197 := by kernel_rfl
theorem gn1 : Tryz.prog.globalNamed "math/bits.deBruijn64tab" = some 3 := by kernel_rfl
theorem gt1 : (Tryz.prog.globals[3]?).map (·.type) = some 198 := by kernel_rfl
theorem gs1 : 3 < Tryz.prog.globals.size := by show Nat.lt _ _; exact Nat.le_of_ble_eq_true (by kernel_rfl)
theorem gc1 : Tryz.prog.cellsOf 198 = 64 := by kernel_rfl
theorem ge1 : Tryz.prog.cellsOf 5 = 1 := by kernel_rfl
theorem gr1 : (((begin Tryz.prog (fun _ _ => 0) default).world.heap[3]?).bind Obj.row?).map (·.2) = some 198 := by kernel_rfl
theorem gn2 : Tryz.prog.globalNamed "internal/strconv.uint64pow10" = some 0 := by kernel_rfl
theorem gt2 : (Tryz.prog.globals[0]?).map (·.type) = some 176 := by kernel_rfl
theorem gs2 : 0 < Tryz.prog.globals.size := by show Nat.lt _ _; exact Nat.le_of_ble_eq_true (by kernel_rfl)
theorem gc2 : Tryz.prog.cellsOf 176 = 20 := by kernel_rfl
theorem ge2 : Tryz.prog.cellsOf 148 = 1 := by kernel_rfl
theorem gr2 : (((begin Tryz.prog (fun _ _ => 0) default).world.heap[0]?).bind Obj.row?).map (·.2) = some 176 := by kernel_rfl
theorem gn3 : Tryz.prog.globalNamed "quadform/prime.offsets" = some 1 := by kernel_rfl
theorem gt3 : (Tryz.prog.globals[1]?).map (·.type) = some 182 := by kernel_rfl
theorem gs3 : 1 < Tryz.prog.globals.size := by show Nat.lt _ _; exact Nat.le_of_ble_eq_true (by kernel_rfl)
theorem gc3 : Tryz.prog.cellsOf 182 = 8 := by kernel_rfl
theorem ge3 : Tryz.prog.cellsOf 2 = 1 := by kernel_rfl
theorem gr3 : (((begin Tryz.prog (fun _ _ => 0) default).world.heap[1]?).bind Obj.row?).map (·.2) = some 182 := by kernel_rfl
theorem gl0 {W : World} {rest : List (String × DataW Unit)} (h : laidMet Tryz.prog (("math/bits.deBruijn32tab", Rows.laid_math_bits_deBruijn32tab) :: rest) W) (hS : W.ShapedOpen Tryz.prog) : W.heap[2]? = some (.cells (([0, 1, 28, 2, 29, 14, 24, 3, 30, 22, 20, 15, 25, 17, 4, 8, 31, 27, 13, 23, 21, 19, 16, 7, 26, 12, 18, 6, 11, 5, 10, 9] : List Int).map (Value.int .u8)).toArray 197 (0, 0)) := by
  have ht : Lib.TabIs Tryz.prog W "math/bits.deBruijn32tab" .u8 [0, 1, 28, 2, 29, 14, 24, 3, 30, 22, 20, 15, 25, 17, 4, 8, 31, 27, 13, 23, 21, 19, 16, 7, 26, 12, 18, 6, 11, 5, 10, 9] :=
    Lib.tabIs_of_head gn0 gt0 Tryz.underlying197 Tryz.underlying5 ge0 gc0 h
  obtain ⟨cs, t, h1, h2⟩ := row_of gs0 gr0 hS
  subst h2
  exact tab_block gn0 ht h1
theorem gl1 {W : World} {rest : List (String × DataW Unit)} (h : laidMet Tryz.prog (("math/bits.deBruijn64tab", Rows.laid_math_bits_deBruijn64tab) :: rest) W) (hS : W.ShapedOpen Tryz.prog) : W.heap[3]? = some (.cells (([0, 1, 56, 2, 57, 49, 28, 3, 61, 58, 42, 50, 38, 29, 17, 4, 62, 47, 59, 36, 45, 43, 51, 22, 53, 39, 33, 30, 24, 18, 12, 5, 63, 55, 48, 27, 60, 41, 37, 16, 46, 35, 44, 21, 52, 32, 23, 11, 54, 26, 40, 15, 34, 20, 31, 10, 25, 14, 19, 9, 13, 8, 7, 6] : List Int).map (Value.int .u8)).toArray 198 (0, 0)) := by
  have ht : Lib.TabIs Tryz.prog W "math/bits.deBruijn64tab" .u8 [0, 1, 56, 2, 57, 49, 28, 3, 61, 58, 42, 50, 38, 29, 17, 4, 62, 47, 59, 36, 45, 43, 51, 22, 53, 39, 33, 30, 24, 18, 12, 5, 63, 55, 48, 27, 60, 41, 37, 16, 46, 35, 44, 21, 52, 32, 23, 11, 54, 26, 40, 15, 34, 20, 31, 10, 25, 14, 19, 9, 13, 8, 7, 6] :=
    Lib.tabIs_of_head gn1 gt1 Tryz.underlying198 Tryz.underlying5 ge1 gc1 h
  obtain ⟨cs, t, h1, h2⟩ := row_of gs1 gr1 hS
  subst h2
  exact tab_block gn1 ht h1
theorem gl2 {W : World} {rest : List (String × DataW Unit)} (h : laidMet Tryz.prog (("internal/strconv.uint64pow10", Rows.laid_internal_strconv_uint64pow10) :: rest) W) (hS : W.ShapedOpen Tryz.prog) : W.heap[0]? = some (.cells (([1, 10, 100, 1000, 10000, 100000, 1000000, 10000000, 100000000, 1000000000, 10000000000, 100000000000, 1000000000000, 10000000000000, 100000000000000, 1000000000000000, 10000000000000000, 100000000000000000, 1000000000000000000, 10000000000000000000] : List Int).map (Value.int .u64)).toArray 176 (0, 0)) := by
  have ht : Lib.TabIs Tryz.prog W "internal/strconv.uint64pow10" .u64 [1, 10, 100, 1000, 10000, 100000, 1000000, 10000000, 100000000, 1000000000, 10000000000, 100000000000, 1000000000000, 10000000000000, 100000000000000, 1000000000000000, 10000000000000000, 100000000000000000, 1000000000000000000, 10000000000000000000] :=
    Lib.tabIs_of_head gn2 gt2 Tryz.underlying176 Tryz.underlying148 ge2 gc2 h
  obtain ⟨cs, t, h1, h2⟩ := row_of gs2 gr2 hS
  subst h2
  exact tab_block gn2 ht h1
theorem gl3 {W : World} {rest : List (String × DataW Unit)} (h : laidMet Tryz.prog (("quadform/prime.offsets", Rows.laid_quadform_prime_offsets) :: rest) W) (hS : W.ShapedOpen Tryz.prog) : W.heap[1]? = some (.cells (([7, 11, 13, 17, 19, 23, 29, 31] : List Int).map (Value.int .i64)).toArray 182 (0, 0)) := by
  have ht : Lib.TabIs Tryz.prog W "quadform/prime.offsets" .i64 [7, 11, 13, 17, 19, 23, 29, 31] :=
    Lib.tabIs_of_head gn3 gt3 Tryz.underlying182 Tryz.underlying2 ge3 gc3 h
  obtain ⟨cs, t, h1, h2⟩ := row_of gs3 gr3 hS
  subst h2
  exact tab_block gn3 ht h1
theorem tabs_of {W : World} (h : laidMet Tryz.prog [("math/bits.deBruijn32tab", Rows.laid_math_bits_deBruijn32tab), ("math/bits.deBruijn64tab", Rows.laid_math_bits_deBruijn64tab), ("internal/strconv.uint64pow10", Rows.laid_internal_strconv_uint64pow10), ("quadform/prime.offsets", Rows.laid_quadform_prime_offsets)] W) (hS : W.ShapedOpen Tryz.prog) : TabW tabs W := by
  intro t ht
  simp only [tabs, List.mem_cons, List.not_mem_nil, or_false] at ht
  rcases ht with rfl | rfl | rfl | rfl
  · exact gl0 h hS
  · exact gl1 (laidMet.tail h) hS
  · exact gl2 (laidMet.tail (laidMet.tail h)) hS
  · exact gl3 (laidMet.tail (laidMet.tail (laidMet.tail h))) hS
noncomputable def laidWorld (os : Os) : World := (layAt 1 Rows.laid_quadform_prime_offsets (layAt 0 Rows.laid_internal_strconv_uint64pow10 (layAt 3 Rows.laid_math_bits_deBruijn64tab (layAt 2 Rows.laid_math_bits_deBruijn32tab (World.holding Tryz.prog os ⟨#[], #[], []⟩)))))
end Go.Proofs.YtcfdaddablojlaaGreatDoor.S

/- awake of quadformlaw27 returns true. -/
namespace Go.Proofs.YtcfdaddablojlaaGreatDoor.S
open Go.QfSy Go.RowKit

set_option maxRecDepth 1000000 in
theorem awake_run : isT0 (bodyF EC (callF EC noOrc 60) noLo 17 (RV.avl []) ⟨trOf (tabList tabs), 1000, [], []⟩) = true := by kernel_rfl
theorem awake_pure : PureC Tryz.prog tabs 17 [] (.bool true) :=
  pure_true ecOk (callF_ok ecOk (noOrc_ok _ _) 60) rfl rfl ecNg awake_run
end Go.Proofs.YtcfdaddablojlaaGreatDoor.S

