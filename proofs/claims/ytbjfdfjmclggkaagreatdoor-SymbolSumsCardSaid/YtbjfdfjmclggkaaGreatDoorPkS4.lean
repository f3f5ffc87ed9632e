/- A part of the proof of TiedSymbolSums: YG, YH, SA, YI, X4, YV, YL, Y4, SB, CardSymbolSums, TiedSymbolSums. -/
import Derived.Test.YtbjfdfjmclggkaaGreatDoorPkS3
import Derived.Test.YtbjfdfjmclggkaaGreatDoorPkM3
import Derived.Test.YtbjfdfjmclggkaaGreatDoorPkS1
set_option linter.unusedSimpArgs false
set_option linter.unusedVariables false
/- symbol.merge over constituents. -/
set_option linter.unusedSimpArgs false
set_option linter.unusedVariables false
namespace Go.Proofs.YtbjfdfjmclggkaaGreatDoor.S
open Go.QfSy Go.RowKit

def cmpI (x y : Int) : Int := if x < y then -1 else if y < x then 1 else 0
theorem cmpI_b (x y : Int) : (cmpI x y < 0 ↔ x < y) ∧ (0 < cmpI x y ↔ y < x) := by
  unfold cmpI; split
  · omega
  · split <;> omega
/-- A constituent of an odd prime's symbol. -/
def evenOk (c : Con) : Prop := addOk c ∧ c.odd = false ∧ c.oddity = 0

set_option maxRecDepth 100000 in
theorem cmp_pure (a b : Con) : PureC Tryz.prog [] 29 [.agg a.rvs, .agg b.rvs] (.int .i64 (cmpI a.exp b.exp)) := by
  rcases Bool.eq_false_or_eq_true (a.exp == a.exp) with d1 | d1
  · -- true
    rcases Bool.eq_false_or_eq_true (b.exp == b.exp) with d2 | d2
    · -- true
      rcases Bool.eq_false_or_eq_true (decide (a.exp < b.exp)) with d3 | d3
      · -- true
        exact pure_run evOk (callF_ok evOk (noOrc_ok _ _) 8) Tryz.func29 rfl none_ann rfl rfl evNg (tp := [false, false, true]) (ms := [(-1 : Int) = cmpI a.exp b.exp, Dec (decide (a.exp < b.exp)) true, Dec (b.exp != b.exp) false, Dec (a.exp != a.exp) false]) (by kernel_rfl) (by refine ⟨?_, d3, (dN d2), (dN d1)⟩ <;> (first | rfl | (simp at d1; done) | (simp at d2; done) | (simp at d3; done) | (simp only [decide_eq_true_eq, decide_eq_false_iff_not] at *; unfold cmpI; (repeat split) <;> omega) | (simp at *; unfold cmpI; (repeat split) <;> omega)))
      · -- false
        rcases Bool.eq_false_or_eq_true (decide (a.exp > b.exp)) with d4 | d4
        · -- true
          exact pure_run evOk (callF_ok evOk (noOrc_ok _ _) 8) Tryz.func29 rfl none_ann rfl rfl evNg (tp := [false, false, false, true]) (ms := [(1 : Int) = cmpI a.exp b.exp, Dec (decide (a.exp > b.exp)) true, Dec (decide (a.exp < b.exp)) false, Dec (b.exp != b.exp) false, Dec (a.exp != a.exp) false]) (by kernel_rfl) (by refine ⟨?_, d4, d3, (dN d2), (dN d1)⟩ <;> (first | rfl | (simp at d1; done) | (simp at d2; done) | (simp at d3; done) | (simp only [decide_eq_true_eq, decide_eq_false_iff_not] at *; unfold cmpI; (repeat split) <;> omega) | (simp at *; unfold cmpI; (repeat split) <;> omega)))
        · -- false
          exact pure_run evOk (callF_ok evOk (noOrc_ok _ _) 8) Tryz.func29 rfl none_ann rfl rfl evNg (tp := [false, false, false, false]) (ms := [(0 : Int) = cmpI a.exp b.exp, Dec (decide (a.exp > b.exp)) false, Dec (decide (a.exp < b.exp)) false, Dec (b.exp != b.exp) false, Dec (a.exp != a.exp) false]) (by kernel_rfl) (by refine ⟨?_, d4, d3, (dN d2), (dN d1)⟩ <;> (first | rfl | (simp at d1; done) | (simp at d2; done) | (simp at d3; done) | (simp only [decide_eq_true_eq, decide_eq_false_iff_not] at *; unfold cmpI; (repeat split) <;> omega) | (simp at *; unfold cmpI; (repeat split) <;> omega)))
    · -- false
      exact pure_run evOk (callF_ok evOk (noOrc_ok _ _) 8) Tryz.func29 rfl none_ann rfl rfl evNg (tp := [false, true]) (ms := [(1 : Int) = cmpI a.exp b.exp, Dec (b.exp != b.exp) true, Dec (a.exp != a.exp) false]) (by kernel_rfl) (by refine ⟨?_, (dN d2), (dN d1)⟩ <;> (first | rfl | (simp at d1; done) | (simp at d2; done) | (simp at d3; done) | (simp only [decide_eq_true_eq, decide_eq_false_iff_not] at *; unfold cmpI; (repeat split) <;> omega) | (simp at *; unfold cmpI; (repeat split) <;> omega)))
  · -- false
    rcases Bool.eq_false_or_eq_true (b.exp == b.exp) with d2 | d2
    · -- true
      exact pure_run evOk (callF_ok evOk (noOrc_ok _ _) 8) Tryz.func29 rfl none_ann rfl rfl evNg (tp := [true, false]) (ms := [(-1 : Int) = cmpI a.exp b.exp, Dec (b.exp != b.exp) false, Dec (a.exp != a.exp) true]) (by kernel_rfl) (by refine ⟨?_, (dN d2), (dN d1)⟩ <;> (first | rfl | (simp at d1; done) | (simp at d2; done) | (simp at d3; done) | (simp only [decide_eq_true_eq, decide_eq_false_iff_not] at *; unfold cmpI; (repeat split) <;> omega) | (simp at *; unfold cmpI; (repeat split) <;> omega)))
    · -- false
      exact pure_run evOk (callF_ok evOk (noOrc_ok _ _) 8) Tryz.func29 rfl none_ann rfl rfl evNg (tp := [true, true]) (ms := [(0 : Int) = cmpI a.exp b.exp, Dec (b.exp != b.exp) true, Dec (a.exp != a.exp) true]) (by kernel_rfl) (by refine ⟨?_, (dN d2), (dN d1)⟩ <;> (first | rfl | (simp at d1; done) | (simp at d2; done) | (simp at d3; done) | (simp only [decide_eq_true_eq, decide_eq_false_iff_not] at *; unfold cmpI; (repeat split) <;> omega) | (simp at *; unfold cmpI; (repeat split) <;> omega)))
set_option maxRecDepth 100000 in
theorem join2_pure (a b : Con) (ha : evenOk a) (hb : evenOk b) : PureC Tryz.prog [] 31 [.agg a.rvs, .agg b.rvs] (.agg (joinM a b).rvs) := by
  obtain ⟨⟨⟨a1, a2⟩, a3, a4, a5⟩, a6, a7⟩ := ha; obtain ⟨⟨⟨b1, b2⟩, b3, b4, b5⟩, b6, b7⟩ := hb
  exact pure_run evOk (callF_ok evOk (noOrc_ok _ _) 8) Tryz.func31 rfl none_ann rfl rfl evNg (tp := []) (ms := [a.exp = (joinM a b).exp, IntKind.i64.wrap (a.dim + b.dim) = (joinM a b).dim, IntKind.i64.wrap (a.sign * b.sign) = (joinM a b).sign, false = (joinM a b).odd, (0 : Int) = (joinM a b).oddity]) (by kernel_rfl) (by refine ⟨?_, ?_, ?_, ?_, (?_ : (0 : Int) = (joinM a b).oddity)⟩ <;> (first | rfl | decide | (show IntKind.i64.wrap (a.dim + b.dim) = a.dim + b.dim; exact w64 (by omega) (by omega)) | (show IntKind.i64.wrap (a.sign * b.sign) = a.sign * b.sign; rcases a3 with h | h <;> rcases b3 with k | k <;> rw [h, k] <;> decide) | (simp only [joinM, a6, b6, a7, b7]; done) | (simp [joinM, a6, b6, a7, b7]; done)))

noncomputable def entsM : List OEnt := [
  ⟨29, [], fun A => match A with
    | [.agg [.int .i64 e0, .int .i64 d0, .int .i64 s0, .bool o0, .int .i64 t0], .agg [.int .i64 e1, .int .i64 d1, .int .i64 s1, .bool o1, .int .i64 t1]] => some (.int .i64 (cmpI e0 e1), [])
    | _ => none⟩,
  ⟨31, [], fun A => match A with
    | [.agg [.int .i64 e0, .int .i64 d0, .int .i64 s0, .bool o0, .int .i64 t0], .agg [.int .i64 e1, .int .i64 d1, .int .i64 s1, .bool o1, .int .i64 t1]] => some (.agg (joinM ⟨e0, d0, s0, o0, t0⟩ ⟨e1, d1, s1, o1, t1⟩).rvs, [evenOk ⟨e0, d0, s0, o0, t0⟩ ∧ evenOk ⟨e1, d1, s1, o1, t1⟩])
    | _ => none⟩]
theorem entsM_ok : ∀ e ∈ entsM, EntOk Tryz.prog e := by
  intro e he
  simp only [entsM, List.mem_cons, List.not_mem_nil, or_false] at he
  rcases he with rfl | rfl
  · intro A R ms h hm
    simp only at h
    split at h
    · cases h
      exact cmp_pure ⟨_, _, _, _, _⟩ ⟨_, _, _, _, _⟩
    · cases h
  · intro A R ms h hm
    simp only at h
    split at h
    · cases h
      obtain ⟨h1, h2⟩ := all_one hm
      exact join2_pure _ _ h1 h2
    · cases h

/-- What merge's loop leaves: the list, and the two rests. -/
def mrgM : List Con → List Con → List Con × List Con × List Con
  | [], B => ([], [], B)
  | a :: A, [] => ([], a :: A, [])
  | a :: A, b :: B =>
    if a.exp < b.exp then (a :: (mrgM A (b :: B)).1, (mrgM A (b :: B)).2)
    else if b.exp < a.exp then (b :: (mrgM (a :: A) B).1, (mrgM (a :: A) B).2)
    else (joinM a b :: (mrgM A B).1, (mrgM A B).2)
termination_by A B => A.length + B.length
theorem mrgM_eq : ∀ (A B : List Con), (mrgM A B).1 ++ (mrgM A B).2.1 ++ (mrgM A B).2.2 = addM A B
  | [], B => by rw [mrgM, addM]; simp
  | a :: A, [] => by rw [mrgM, addM]; simp
  | a :: A, b :: B => by
    rw [mrgM, addM]
    split
    · have := mrgM_eq A (b :: B); simp at this ⊢; exact this
    · split
      · have := mrgM_eq (a :: A) B; simp at this ⊢; exact this
      · have := mrgM_eq A B; simp at this ⊢; exact this
termination_by A B => A.length + B.length
theorem mrgM_nil (A : List Con) : mrgM A [] = ([], A, []) := by cases A <;> rw [mrgM]

noncomputable def mrgA (A B : List Con) : Ann := ⟨⟨[(0, (roC A).av), (1, (roC B).av), (2, .fn 29 []), (3, .fn 31 []), (9, .nils)], [], 1100⟩, none, fun _ => (.exit 0, ⟨[(0, (roC (mrgM A B).2.1).av), (1, (roC (mrgM A B).2.2).av), (9, .lo 1100 (mrgM A B).1.length)], [(1100, ⟨.con (mrgM A B).1, 50, 5, true, true⟩)], 1101⟩)⟩
noncomputable def mrgS : List Con × List Con × List Con → St
  | (A, B, []) => ⟨[(0, (roC A).av), (1, (roC B).av), (2, .fn 29 []), (3, .fn 31 []), (9, .nils)], [], 1101⟩
  | (A, B, c :: l) => ⟨[(0, (roC A).av), (1, (roC B).av), (2, .fn 29 []), (3, .fn 31 []), (9, .lo 1100 (l.length + 1))], [(1100, ⟨.con (c :: l), 50, 5, true, true⟩)], 1101⟩
def mrgI (A B : List Con) (i : List Con × List Con × List Con) : Prop := (∀ c ∈ i.1, evenOk c) ∧ (∀ c ∈ i.2.1, evenOk c) ∧ i.2.2.length + i.1.length + i.2.1.length ≤ 2000 ∧ (i.2.2 ++ (mrgM i.1 i.2.1).1, (mrgM i.1 i.2.1).2) = mrgM A B

theorem tn0 : Int.toNat 0 = 0 := rfl
theorem tail_row (X : List Con) (h : 0 < X.length) : X.length - 1 = X.tail.length ∧ (fun k => (X.getD (1 + k) Con.zero).rvs) = (fun k => (X.tail.getD k Con.zero).rvs) := by
  cases X with
  | nil => simp at h
  | cons c l => exact ⟨by simp, by funext k; rw [Nat.add_comm]; rfl⟩
theorem cons_at {X : List Con} (h : 0 < X.length) : X = at_ X 0 :: X.tail := by cases X with | nil => simp at h | cons c l => rfl
theorem ok_at {X : List Con} (h : 0 < X.length) (k : ∀ c ∈ X, evenOk c) : evenOk (at_ X 0) := by cases X with | nil => simp at h | cons c l => exact k c (by simp)
theorem ok_tail {X : List Con} (k : ∀ c ∈ X, evenOk c) : ∀ c ∈ X.tail, evenOk c := fun c hc => k c (List.mem_of_mem_tail hc)
theorem mrgI_a {A B X Y acc : List Con} (h : mrgI A B (X, Y, acc)) (hx : 0 < X.length) (hy : 0 < Y.length) (hc : (at_ X 0).exp < (at_ Y 0).exp) : mrgI A B (X.tail, Y, acc ++ [at_ X 0]) := by
  obtain ⟨h1, h2, h3, h4⟩ := h
  refine ⟨ok_tail h1, h2, ?_, ?_⟩
  · simp at h3 ⊢; omega
  · simp only at h4 ⊢
    rw [← h4, cons_at hx, cons_at hy, mrgM, if_pos hc]; simp
theorem mrgI_b {A B X Y acc : List Con} (h : mrgI A B (X, Y, acc)) (hx : 0 < X.length) (hy : 0 < Y.length) (hc : (at_ Y 0).exp < (at_ X 0).exp) : mrgI A B (X, Y.tail, acc ++ [at_ Y 0]) := by
  obtain ⟨h1, h2, h3, h4⟩ := h
  refine ⟨h1, ok_tail h2, ?_, ?_⟩
  · simp at h3 ⊢; omega
  · simp only at h4 ⊢
    rw [← h4, cons_at hx, cons_at hy, mrgM, if_neg (by omega), if_pos hc]; simp
theorem mrgI_c {A B X Y acc : List Con} (h : mrgI A B (X, Y, acc)) (hx : 0 < X.length) (hy : 0 < Y.length) (hc : ¬ (at_ X 0).exp < (at_ Y 0).exp) (hd : ¬ (at_ Y 0).exp < (at_ X 0).exp) : mrgI A B (X.tail, Y.tail, acc ++ [joinM (at_ X 0) (at_ Y 0)]) := by
  obtain ⟨h1, h2, h3, h4⟩ := h
  refine ⟨ok_tail h1, ok_tail h2, ?_, ?_⟩
  · simp at h3 ⊢; omega
  · simp only at h4 ⊢
    rw [← h4, cons_at hx, cons_at hy, mrgM, if_neg hc, if_neg hd]; simp
theorem mrgI_end {A B X Y acc : List Con} (h : mrgI A B (X, Y, acc)) (hx : X.length = 0 ∨ Y.length = 0) : (acc, X, Y) = mrgM A B := by
  obtain ⟨h1, h2, h3, h4⟩ := h
  simp only at h4
  rw [← h4]
  rcases hx with hx | hx
  · rw [List.eq_nil_of_length_eq_zero hx, mrgM]; simp
  · rw [List.eq_nil_of_length_eq_zero hx, mrgM_nil]; simp

set_option maxRecDepth 100000 in
theorem mrg_loop (A B : List Con) (hA : ∀ c ∈ A, evenOk c) (hB : ∀ c ∈ B, evenOk c) (hne : 0 < (mrgM A B).1.length) (hnA : A.length ≤ 1000) (hnB : B.length ≤ 1000) : AnnOk Tryz.prog EV.ng (Nat.max 4 Tryz.f28.ntmps) (bodyAt Tryz.f28 [0, 0, 1, 1]) (mrgA A B) := by
  refine ann_of evOk (callF_ok evOk (orcOf_ok entsM_ok) 8) none_ann (by kernel_rfl) (by kernel_rfl) (mrgS) (fun i => i.1.length + i.2.1.length) (fun _ i => mrgI A B i) ?_ ?_
  · intro d hd
    exact ⟨(A, B, []), [A.length = A.length ∧ (fun i => (A.getD i Con.zero).rvs) = fun i => (A.getD i Con.zero).rvs, B.length = B.length ∧ (fun i => (B.getD i Con.zero).rvs) = fun i => (B.getD i Con.zero).rvs], by kernel_rfl, (by refine ⟨?_, (?_ : B.length = B.length ∧ (fun i => (B.getD i Con.zero).rvs) = fun i => (B.getD i Con.zero).rvs)⟩ <;> (first | rfl | assumption | omega | simp_all)), (by exact ⟨hA, hB, by simp; omega, rfl⟩)⟩
  · rintro d hd ⟨X, Y, acc⟩ hI
    cases d
    · -- d = false
      exact Bool.noConfusion (show false = true from hd)
    · -- d = true
      have hI' := hI
      obtain ⟨a1, a2, a3, a4⟩ := hI'
      simp only at a1 a2 a3 a4
      have hc := cmpI_b (at_ X 0).exp (at_ Y 0).exp
      simp only [at_] at hc
      rcases acc with _ | ⟨c, l⟩
      · -- 1
        rcases Bool.eq_false_or_eq_true (decide ((↑X.length : Int) > (0 : Int))) with d1 | d1
        · -- true
          rcases Bool.eq_false_or_eq_true (decide ((↑Y.length : Int) > (0 : Int))) with d2 | d2
          · -- true
            rcases Bool.eq_false_or_eq_true (decide (cmpI (X.getD (Int.toNat (0 : Int)) Con.zero).exp (Y.getD (Int.toNat (0 : Int)) Con.zero).exp < (0 : Int))) with d3 | d3
            · -- true
              rcases Bool.eq_false_or_eq_true (decide (cmpI (X.getD (Int.toNat (0 : Int)) Con.zero).exp (Y.getD (Int.toNat (0 : Int)) Con.zero).exp ≤ (0 : Int))) with d4 | d4
              · -- true
                rcases Bool.eq_false_or_eq_true (decide (cmpI (X.getD (Int.toNat (0 : Int)) Con.zero).exp (Y.getD (Int.toNat (0 : Int)) Con.zero).exp ≥ (0 : Int))) with d5 | d5
                · -- true
                  exact ⟨[true, true, true, true, true], .inl ⟨(X.tail, Y.tail, [joinM (at_ X 0) (at_ Y 0)]), [X.length - Int.toNat (1 : Int) = X.tail.length ∧ (fun i => (fun i => (X.getD i Con.zero).rvs) (i + Int.toNat (1 : Int))) = fun i => (X.tail.getD i Con.zero).rvs, Y.length - Int.toNat (1 : Int) = Y.tail.length ∧ (fun i => (fun i => (Y.getD i Con.zero).rvs) (i + Int.toNat (1 : Int))) = fun i => (Y.tail.getD i Con.zero).rvs, (1 : Nat) = (0 : Nat) + (1 : Nat), [X.getD (Int.toNat (0 : Int)) Con.zero] = [joinM (at_ X (0 : Nat)) (at_ Y (0 : Nat))], (0 : Int) ≤ (1 : Int) ∧ (1 : Int) ≤ (↑Y.length : Int), Dec (decide (cmpI (X.getD (Int.toNat (0 : Int)) Con.zero).exp (Y.getD (Int.toNat (0 : Int)) Con.zero).exp ≥ (0 : Int))) true, (0 : Int) ≤ (1 : Int) ∧ (1 : Int) ≤ (↑X.length : Int), Dec (decide (cmpI (X.getD (Int.toNat (0 : Int)) Con.zero).exp (Y.getD (Int.toNat (0 : Int)) Con.zero).exp ≤ (0 : Int))) true, (0 : Nat) < (1 : Nat) ∧ (1 : Nat) ≤ (1000000 : Nat), (0 : Int) ≤ (0 : Int) ∧ (0 : Int) < (↑X.length : Int), Dec (decide (cmpI (X.getD (Int.toNat (0 : Int)) Con.zero).exp (Y.getD (Int.toNat (0 : Int)) Con.zero).exp < (0 : Int))) true, (0 : Int) ≤ (0 : Int) ∧ (0 : Int) < (↑Y.length : Int), (0 : Int) ≤ (0 : Int) ∧ (0 : Int) < (↑X.length : Int), Dec (decide ((↑Y.length : Int) > (0 : Int))) true, Dec (decide ((↑X.length : Int) > (0 : Int))) true], by kernel_rfl, (by refine ⟨?_, ?_, ?_, ?_, ?_, d5, ?_, d4, ?_, ?_, d3, ?_, ?_, d2, d1⟩ <;> (first | rfl | exact ⟨rfl, rfl⟩ | ((try simp only [tn0, decide_eq_true_eq, decide_eq_false_iff_not, View.num, beq_iff_eq, beq_eq_false_iff_ne, ne_eq] at *) <;> first | omega | exact tail_row X (by omega) | exact tail_row Y (by omega) | exact ⟨ok_at (by omega) a1, ok_at (by omega) a2⟩ | (rw [← mrgI_end hI (by omega)]; done) | (rw [← mrgI_end hI (by omega)]; first | rfl | exact ⟨rfl, rfl⟩) | (simp at a3 ⊢; omega) | rfl | simp))), (by (try simp only [tn0, decide_eq_true_eq, decide_eq_false_iff_not, beq_iff_eq, beq_eq_false_iff_ne, ne_eq] at *); simp only [List.length_tail]; omega), (by (try simp only [tn0, decide_eq_true_eq, decide_eq_false_iff_not, beq_iff_eq, beq_eq_false_iff_ne, ne_eq] at *); first | (exfalso; omega) | exact mrgI_a hI (by omega) (by omega) (by simp only [at_]; omega) | exact mrgI_b hI (by omega) (by omega) (by simp only [at_]; omega) | exact mrgI_c hI (by omega) (by omega) (by simp only [at_]; omega) (by simp only [at_]; omega))⟩⟩
                · -- false
                  exact ⟨[true, true, true, true, false], .inl ⟨(X.tail, Y, [at_ X 0]), [X.length - Int.toNat (1 : Int) = X.tail.length ∧ (fun i => (fun i => (X.getD i Con.zero).rvs) (i + Int.toNat (1 : Int))) = fun i => (X.tail.getD i Con.zero).rvs, Y.length = Y.length ∧ (fun i => (Y.getD i Con.zero).rvs) = fun i => (Y.getD i Con.zero).rvs, (1 : Nat) = (0 : Nat) + (1 : Nat), [X.getD (Int.toNat (0 : Int)) Con.zero] = [at_ X (0 : Nat)], Dec (decide (cmpI (X.getD (Int.toNat (0 : Int)) Con.zero).exp (Y.getD (Int.toNat (0 : Int)) Con.zero).exp ≥ (0 : Int))) false, (0 : Int) ≤ (1 : Int) ∧ (1 : Int) ≤ (↑X.length : Int), Dec (decide (cmpI (X.getD (Int.toNat (0 : Int)) Con.zero).exp (Y.getD (Int.toNat (0 : Int)) Con.zero).exp ≤ (0 : Int))) true, (0 : Nat) < (1 : Nat) ∧ (1 : Nat) ≤ (1000000 : Nat), (0 : Int) ≤ (0 : Int) ∧ (0 : Int) < (↑X.length : Int), Dec (decide (cmpI (X.getD (Int.toNat (0 : Int)) Con.zero).exp (Y.getD (Int.toNat (0 : Int)) Con.zero).exp < (0 : Int))) true, (0 : Int) ≤ (0 : Int) ∧ (0 : Int) < (↑Y.length : Int), (0 : Int) ≤ (0 : Int) ∧ (0 : Int) < (↑X.length : Int), Dec (decide ((↑Y.length : Int) > (0 : Int))) true, Dec (decide ((↑X.length : Int) > (0 : Int))) true], by kernel_rfl, (by refine ⟨?_, ?_, ?_, ?_, d5, ?_, d4, ?_, ?_, d3, ?_, ?_, d2, d1⟩ <;> (first | rfl | exact ⟨rfl, rfl⟩ | ((try simp only [tn0, decide_eq_true_eq, decide_eq_false_iff_not, View.num, beq_iff_eq, beq_eq_false_iff_ne, ne_eq] at *) <;> first | omega | exact tail_row X (by omega) | exact tail_row Y (by omega) | exact ⟨ok_at (by omega) a1, ok_at (by omega) a2⟩ | (rw [← mrgI_end hI (by omega)]; done) | (rw [← mrgI_end hI (by omega)]; first | rfl | exact ⟨rfl, rfl⟩) | (simp at a3 ⊢; omega) | rfl | simp))), (by (try simp only [tn0, decide_eq_true_eq, decide_eq_false_iff_not, beq_iff_eq, beq_eq_false_iff_ne, ne_eq] at *); simp only [List.length_tail]; omega), (by (try simp only [tn0, decide_eq_true_eq, decide_eq_false_iff_not, beq_iff_eq, beq_eq_false_iff_ne, ne_eq] at *); first | (exfalso; omega) | exact mrgI_a hI (by omega) (by omega) (by simp only [at_]; omega) | exact mrgI_b hI (by omega) (by omega) (by simp only [at_]; omega) | exact mrgI_c hI (by omega) (by omega) (by simp only [at_]; omega) (by simp only [at_]; omega))⟩⟩
              · -- false
                rcases Bool.eq_false_or_eq_true (decide (cmpI (X.getD (Int.toNat (0 : Int)) Con.zero).exp (Y.getD (Int.toNat (0 : Int)) Con.zero).exp ≥ (0 : Int))) with d5 | d5
                · -- true
                  exact ⟨[true, true, true, false, true], .inl ⟨(X, Y.tail, [at_ Y 0]), [X.length = X.length ∧ (fun i => (X.getD i Con.zero).rvs) = fun i => (X.getD i Con.zero).rvs, Y.length - Int.toNat (1 : Int) = Y.tail.length ∧ (fun i => (fun i => (Y.getD i Con.zero).rvs) (i + Int.toNat (1 : Int))) = fun i => (Y.tail.getD i Con.zero).rvs, (1 : Nat) = (0 : Nat) + (1 : Nat), [X.getD (Int.toNat (0 : Int)) Con.zero] = [at_ Y (0 : Nat)], (0 : Int) ≤ (1 : Int) ∧ (1 : Int) ≤ (↑Y.length : Int), Dec (decide (cmpI (X.getD (Int.toNat (0 : Int)) Con.zero).exp (Y.getD (Int.toNat (0 : Int)) Con.zero).exp ≥ (0 : Int))) true, Dec (decide (cmpI (X.getD (Int.toNat (0 : Int)) Con.zero).exp (Y.getD (Int.toNat (0 : Int)) Con.zero).exp ≤ (0 : Int))) false, (0 : Nat) < (1 : Nat) ∧ (1 : Nat) ≤ (1000000 : Nat), (0 : Int) ≤ (0 : Int) ∧ (0 : Int) < (↑X.length : Int), Dec (decide (cmpI (X.getD (Int.toNat (0 : Int)) Con.zero).exp (Y.getD (Int.toNat (0 : Int)) Con.zero).exp < (0 : Int))) true, (0 : Int) ≤ (0 : Int) ∧ (0 : Int) < (↑Y.length : Int), (0 : Int) ≤ (0 : Int) ∧ (0 : Int) < (↑X.length : Int), Dec (decide ((↑Y.length : Int) > (0 : Int))) true, Dec (decide ((↑X.length : Int) > (0 : Int))) true], by kernel_rfl, (by refine ⟨?_, ?_, ?_, ?_, ?_, d5, d4, ?_, ?_, d3, ?_, ?_, d2, d1⟩ <;> (first | rfl | exact ⟨rfl, rfl⟩ | ((try simp only [tn0, decide_eq_true_eq, decide_eq_false_iff_not, View.num, beq_iff_eq, beq_eq_false_iff_ne, ne_eq] at *) <;> first | omega | exact tail_row X (by omega) | exact tail_row Y (by omega) | exact ⟨ok_at (by omega) a1, ok_at (by omega) a2⟩ | (rw [← mrgI_end hI (by omega)]; done) | (rw [← mrgI_end hI (by omega)]; first | rfl | exact ⟨rfl, rfl⟩) | (simp at a3 ⊢; omega) | rfl | simp))), (by (try simp only [tn0, decide_eq_true_eq, decide_eq_false_iff_not, beq_iff_eq, beq_eq_false_iff_ne, ne_eq] at *); simp only [List.length_tail]; omega), (by (try simp only [tn0, decide_eq_true_eq, decide_eq_false_iff_not, beq_iff_eq, beq_eq_false_iff_ne, ne_eq] at *); first | (exfalso; omega) | exact mrgI_a hI (by omega) (by omega) (by simp only [at_]; omega) | exact mrgI_b hI (by omega) (by omega) (by simp only [at_]; omega) | exact mrgI_c hI (by omega) (by omega) (by simp only [at_]; omega) (by simp only [at_]; omega))⟩⟩
                · -- false
                  exfalso
                  simp only [tn0, decide_eq_true_eq, decide_eq_false_iff_not] at *; first | omega | (have h0 := mrgI_end hI (by omega); rw [← h0] at hne; simp at hne; done)
            · -- false
              rcases Bool.eq_false_or_eq_true (decide (cmpI (X.getD (Int.toNat (0 : Int)) Con.zero).exp (Y.getD (Int.toNat (0 : Int)) Con.zero).exp > (0 : Int))) with d4 | d4
              · -- true
                rcases Bool.eq_false_or_eq_true (decide (cmpI (X.getD (Int.toNat (0 : Int)) Con.zero).exp (Y.getD (Int.toNat (0 : Int)) Con.zero).exp ≤ (0 : Int))) with d5 | d5
                · -- true
                  rcases Bool.eq_false_or_eq_true (decide (cmpI (X.getD (Int.toNat (0 : Int)) Con.zero).exp (Y.getD (Int.toNat (0 : Int)) Con.zero).exp ≥ (0 : Int))) with d6 | d6
                  · -- true
                    exact ⟨[true, true, false, true, true, true], .inl ⟨(X.tail, Y.tail, [joinM (at_ X 0) (at_ Y 0)]), [X.length - Int.toNat (1 : Int) = X.tail.length ∧ (fun i => (fun i => (X.getD i Con.zero).rvs) (i + Int.toNat (1 : Int))) = fun i => (X.tail.getD i Con.zero).rvs, Y.length - Int.toNat (1 : Int) = Y.tail.length ∧ (fun i => (fun i => (Y.getD i Con.zero).rvs) (i + Int.toNat (1 : Int))) = fun i => (Y.tail.getD i Con.zero).rvs, (1 : Nat) = (0 : Nat) + (1 : Nat), [Y.getD (Int.toNat (0 : Int)) Con.zero] = [joinM (at_ X (0 : Nat)) (at_ Y (0 : Nat))], (0 : Int) ≤ (1 : Int) ∧ (1 : Int) ≤ (↑Y.length : Int), Dec (decide (cmpI (X.getD (Int.toNat (0 : Int)) Con.zero).exp (Y.getD (Int.toNat (0 : Int)) Con.zero).exp ≥ (0 : Int))) true, (0 : Int) ≤ (1 : Int) ∧ (1 : Int) ≤ (↑X.length : Int), Dec (decide (cmpI (X.getD (Int.toNat (0 : Int)) Con.zero).exp (Y.getD (Int.toNat (0 : Int)) Con.zero).exp ≤ (0 : Int))) true, (0 : Nat) < (1 : Nat) ∧ (1 : Nat) ≤ (1000000 : Nat), (0 : Int) ≤ (0 : Int) ∧ (0 : Int) < (↑Y.length : Int), Dec (decide (cmpI (X.getD (Int.toNat (0 : Int)) Con.zero).exp (Y.getD (Int.toNat (0 : Int)) Con.zero).exp > (0 : Int))) true, Dec (decide (cmpI (X.getD (Int.toNat (0 : Int)) Con.zero).exp (Y.getD (Int.toNat (0 : Int)) Con.zero).exp < (0 : Int))) false, (0 : Int) ≤ (0 : Int) ∧ (0 : Int) < (↑Y.length : Int), (0 : Int) ≤ (0 : Int) ∧ (0 : Int) < (↑X.length : Int), Dec (decide ((↑Y.length : Int) > (0 : Int))) true, Dec (decide ((↑X.length : Int) > (0 : Int))) true], by kernel_rfl, (by refine ⟨?_, ?_, ?_, ?_, ?_, d6, ?_, d5, ?_, ?_, d4, d3, ?_, ?_, d2, d1⟩ <;> (first | rfl | exact ⟨rfl, rfl⟩ | ((try simp only [tn0, decide_eq_true_eq, decide_eq_false_iff_not, View.num, beq_iff_eq, beq_eq_false_iff_ne, ne_eq] at *) <;> first | omega | exact tail_row X (by omega) | exact tail_row Y (by omega) | exact ⟨ok_at (by omega) a1, ok_at (by omega) a2⟩ | (rw [← mrgI_end hI (by omega)]; done) | (rw [← mrgI_end hI (by omega)]; first | rfl | exact ⟨rfl, rfl⟩) | (simp at a3 ⊢; omega) | rfl | simp))), (by (try simp only [tn0, decide_eq_true_eq, decide_eq_false_iff_not, beq_iff_eq, beq_eq_false_iff_ne, ne_eq] at *); simp only [List.length_tail]; omega), (by (try simp only [tn0, decide_eq_true_eq, decide_eq_false_iff_not, beq_iff_eq, beq_eq_false_iff_ne, ne_eq] at *); first | (exfalso; omega) | exact mrgI_a hI (by omega) (by omega) (by simp only [at_]; omega) | exact mrgI_b hI (by omega) (by omega) (by simp only [at_]; omega) | exact mrgI_c hI (by omega) (by omega) (by simp only [at_]; omega) (by simp only [at_]; omega))⟩⟩
                  · -- false
                    exact ⟨[true, true, false, true, true, false], .inl ⟨(X.tail, Y, [at_ X 0]), [X.length - Int.toNat (1 : Int) = X.tail.length ∧ (fun i => (fun i => (X.getD i Con.zero).rvs) (i + Int.toNat (1 : Int))) = fun i => (X.tail.getD i Con.zero).rvs, Y.length = Y.length ∧ (fun i => (Y.getD i Con.zero).rvs) = fun i => (Y.getD i Con.zero).rvs, (1 : Nat) = (0 : Nat) + (1 : Nat), [Y.getD (Int.toNat (0 : Int)) Con.zero] = [at_ X (0 : Nat)], Dec (decide (cmpI (X.getD (Int.toNat (0 : Int)) Con.zero).exp (Y.getD (Int.toNat (0 : Int)) Con.zero).exp ≥ (0 : Int))) false, (0 : Int) ≤ (1 : Int) ∧ (1 : Int) ≤ (↑X.length : Int), Dec (decide (cmpI (X.getD (Int.toNat (0 : Int)) Con.zero).exp (Y.getD (Int.toNat (0 : Int)) Con.zero).exp ≤ (0 : Int))) true, (0 : Nat) < (1 : Nat) ∧ (1 : Nat) ≤ (1000000 : Nat), (0 : Int) ≤ (0 : Int) ∧ (0 : Int) < (↑Y.length : Int), Dec (decide (cmpI (X.getD (Int.toNat (0 : Int)) Con.zero).exp (Y.getD (Int.toNat (0 : Int)) Con.zero).exp > (0 : Int))) true, Dec (decide (cmpI (X.getD (Int.toNat (0 : Int)) Con.zero).exp (Y.getD (Int.toNat (0 : Int)) Con.zero).exp < (0 : Int))) false, (0 : Int) ≤ (0 : Int) ∧ (0 : Int) < (↑Y.length : Int), (0 : Int) ≤ (0 : Int) ∧ (0 : Int) < (↑X.length : Int), Dec (decide ((↑Y.length : Int) > (0 : Int))) true, Dec (decide ((↑X.length : Int) > (0 : Int))) true], by kernel_rfl, (by refine ⟨?_, ?_, ?_, ?_, d6, ?_, d5, ?_, ?_, d4, d3, ?_, ?_, d2, d1⟩ <;> (first | rfl | exact ⟨rfl, rfl⟩ | ((try simp only [tn0, decide_eq_true_eq, decide_eq_false_iff_not, View.num, beq_iff_eq, beq_eq_false_iff_ne, ne_eq] at *) <;> first | omega | exact tail_row X (by omega) | exact tail_row Y (by omega) | exact ⟨ok_at (by omega) a1, ok_at (by omega) a2⟩ | (rw [← mrgI_end hI (by omega)]; done) | (rw [← mrgI_end hI (by omega)]; first | rfl | exact ⟨rfl, rfl⟩) | (simp at a3 ⊢; omega) | rfl | simp))), (by (try simp only [tn0, decide_eq_true_eq, decide_eq_false_iff_not, beq_iff_eq, beq_eq_false_iff_ne, ne_eq] at *); simp only [List.length_tail]; omega), (by (try simp only [tn0, decide_eq_true_eq, decide_eq_false_iff_not, beq_iff_eq, beq_eq_false_iff_ne, ne_eq] at *); first | (exfalso; omega) | exact mrgI_a hI (by omega) (by omega) (by simp only [at_]; omega) | exact mrgI_b hI (by omega) (by omega) (by simp only [at_]; omega) | exact mrgI_c hI (by omega) (by omega) (by simp only [at_]; omega) (by simp only [at_]; omega))⟩⟩
                · -- false
                  rcases Bool.eq_false_or_eq_true (decide (cmpI (X.getD (Int.toNat (0 : Int)) Con.zero).exp (Y.getD (Int.toNat (0 : Int)) Con.zero).exp ≥ (0 : Int))) with d6 | d6
                  · -- true
                    exact ⟨[true, true, false, true, false, true], .inl ⟨(X, Y.tail, [at_ Y 0]), [X.length = X.length ∧ (fun i => (X.getD i Con.zero).rvs) = fun i => (X.getD i Con.zero).rvs, Y.length - Int.toNat (1 : Int) = Y.tail.length ∧ (fun i => (fun i => (Y.getD i Con.zero).rvs) (i + Int.toNat (1 : Int))) = fun i => (Y.tail.getD i Con.zero).rvs, (1 : Nat) = (0 : Nat) + (1 : Nat), [Y.getD (Int.toNat (0 : Int)) Con.zero] = [at_ Y (0 : Nat)], (0 : Int) ≤ (1 : Int) ∧ (1 : Int) ≤ (↑Y.length : Int), Dec (decide (cmpI (X.getD (Int.toNat (0 : Int)) Con.zero).exp (Y.getD (Int.toNat (0 : Int)) Con.zero).exp ≥ (0 : Int))) true, Dec (decide (cmpI (X.getD (Int.toNat (0 : Int)) Con.zero).exp (Y.getD (Int.toNat (0 : Int)) Con.zero).exp ≤ (0 : Int))) false, (0 : Nat) < (1 : Nat) ∧ (1 : Nat) ≤ (1000000 : Nat), (0 : Int) ≤ (0 : Int) ∧ (0 : Int) < (↑Y.length : Int), Dec (decide (cmpI (X.getD (Int.toNat (0 : Int)) Con.zero).exp (Y.getD (Int.toNat (0 : Int)) Con.zero).exp > (0 : Int))) true, Dec (decide (cmpI (X.getD (Int.toNat (0 : Int)) Con.zero).exp (Y.getD (Int.toNat (0 : Int)) Con.zero).exp < (0 : Int))) false, (0 : Int) ≤ (0 : Int) ∧ (0 : Int) < (↑Y.length : Int), (0 : Int) ≤ (0 : Int) ∧ (0 : Int) < (↑X.length : Int), Dec (decide ((↑Y.length : Int) > (0 : Int))) true, Dec (decide ((↑X.length : Int) > (0 : Int))) true], by kernel_rfl, (by refine ⟨?_, ?_, ?_, ?_, ?_, d6, d5, ?_, ?_, d4, d3, ?_, ?_, d2, d1⟩ <;> (first | rfl | exact ⟨rfl, rfl⟩ | ((try simp only [tn0, decide_eq_true_eq, decide_eq_false_iff_not, View.num, beq_iff_eq, beq_eq_false_iff_ne, ne_eq] at *) <;> first | omega | exact tail_row X (by omega) | exact tail_row Y (by omega) | exact ⟨ok_at (by omega) a1, ok_at (by omega) a2⟩ | (rw [← mrgI_end hI (by omega)]; done) | (rw [← mrgI_end hI (by omega)]; first | rfl | exact ⟨rfl, rfl⟩) | (simp at a3 ⊢; omega) | rfl | simp))), (by (try simp only [tn0, decide_eq_true_eq, decide_eq_false_iff_not, beq_iff_eq, beq_eq_false_iff_ne, ne_eq] at *); simp only [List.length_tail]; omega), (by (try simp only [tn0, decide_eq_true_eq, decide_eq_false_iff_not, beq_iff_eq, beq_eq_false_iff_ne, ne_eq] at *); first | (exfalso; omega) | exact mrgI_a hI (by omega) (by omega) (by simp only [at_]; omega) | exact mrgI_b hI (by omega) (by omega) (by simp only [at_]; omega) | exact mrgI_c hI (by omega) (by omega) (by simp only [at_]; omega) (by simp only [at_]; omega))⟩⟩
                  · -- false
                    exfalso
                    simp only [tn0, decide_eq_true_eq, decide_eq_false_iff_not] at *; first | omega | (have h0 := mrgI_end hI (by omega); rw [← h0] at hne; simp at hne; done)
              · -- false
                rcases Bool.eq_false_or_eq_true (decide (cmpI (X.getD (Int.toNat (0 : Int)) Con.zero).exp (Y.getD (Int.toNat (0 : Int)) Con.zero).exp ≤ (0 : Int))) with d5 | d5
                · -- true
                  rcases Bool.eq_false_or_eq_true (decide (cmpI (X.getD (Int.toNat (0 : Int)) Con.zero).exp (Y.getD (Int.toNat (0 : Int)) Con.zero).exp ≥ (0 : Int))) with d6 | d6
                  · -- true
                    exact ⟨[true, true, false, false, true, true], .inl ⟨(X.tail, Y.tail, [joinM (at_ X 0) (at_ Y 0)]), [X.length - Int.toNat (1 : Int) = X.tail.length ∧ (fun i => (fun i => (X.getD i Con.zero).rvs) (i + Int.toNat (1 : Int))) = fun i => (X.tail.getD i Con.zero).rvs, Y.length - Int.toNat (1 : Int) = Y.tail.length ∧ (fun i => (fun i => (Y.getD i Con.zero).rvs) (i + Int.toNat (1 : Int))) = fun i => (Y.tail.getD i Con.zero).rvs, (1 : Nat) = (0 : Nat) + (1 : Nat), [joinM (X.getD (Int.toNat (0 : Int)) Con.zero) (Y.getD (Int.toNat (0 : Int)) Con.zero)] = [joinM (at_ X (0 : Nat)) (at_ Y (0 : Nat))], (0 : Int) ≤ (1 : Int) ∧ (1 : Int) ≤ (↑Y.length : Int), Dec (decide (cmpI (X.getD (Int.toNat (0 : Int)) Con.zero).exp (Y.getD (Int.toNat (0 : Int)) Con.zero).exp ≥ (0 : Int))) true, (0 : Int) ≤ (1 : Int) ∧ (1 : Int) ≤ (↑X.length : Int), Dec (decide (cmpI (X.getD (Int.toNat (0 : Int)) Con.zero).exp (Y.getD (Int.toNat (0 : Int)) Con.zero).exp ≤ (0 : Int))) true, (0 : Nat) < (1 : Nat) ∧ (1 : Nat) ≤ (1000000 : Nat), evenOk (X.getD (Int.toNat (0 : Int)) Con.zero) ∧ evenOk (Y.getD (Int.toNat (0 : Int)) Con.zero), (0 : Int) ≤ (0 : Int) ∧ (0 : Int) < (↑Y.length : Int), (0 : Int) ≤ (0 : Int) ∧ (0 : Int) < (↑X.length : Int), Dec (decide (cmpI (X.getD (Int.toNat (0 : Int)) Con.zero).exp (Y.getD (Int.toNat (0 : Int)) Con.zero).exp > (0 : Int))) false, Dec (decide (cmpI (X.getD (Int.toNat (0 : Int)) Con.zero).exp (Y.getD (Int.toNat (0 : Int)) Con.zero).exp < (0 : Int))) false, (0 : Int) ≤ (0 : Int) ∧ (0 : Int) < (↑Y.length : Int), (0 : Int) ≤ (0 : Int) ∧ (0 : Int) < (↑X.length : Int), Dec (decide ((↑Y.length : Int) > (0 : Int))) true, Dec (decide ((↑X.length : Int) > (0 : Int))) true], by kernel_rfl, (by refine ⟨?_, ?_, ?_, ?_, ?_, d6, ?_, d5, ?_, ?_, ?_, ?_, d4, d3, ?_, ?_, d2, d1⟩ <;> (first | rfl | exact ⟨rfl, rfl⟩ | ((try simp only [tn0, decide_eq_true_eq, decide_eq_false_iff_not, View.num, beq_iff_eq, beq_eq_false_iff_ne, ne_eq] at *) <;> first | omega | exact tail_row X (by omega) | exact tail_row Y (by omega) | exact ⟨ok_at (by omega) a1, ok_at (by omega) a2⟩ | (rw [← mrgI_end hI (by omega)]; done) | (rw [← mrgI_end hI (by omega)]; first | rfl | exact ⟨rfl, rfl⟩) | (simp at a3 ⊢; omega) | rfl | simp))), (by (try simp only [tn0, decide_eq_true_eq, decide_eq_false_iff_not, beq_iff_eq, beq_eq_false_iff_ne, ne_eq] at *); simp only [List.length_tail]; omega), (by (try simp only [tn0, decide_eq_true_eq, decide_eq_false_iff_not, beq_iff_eq, beq_eq_false_iff_ne, ne_eq] at *); first | (exfalso; omega) | exact mrgI_a hI (by omega) (by omega) (by simp only [at_]; omega) | exact mrgI_b hI (by omega) (by omega) (by simp only [at_]; omega) | exact mrgI_c hI (by omega) (by omega) (by simp only [at_]; omega) (by simp only [at_]; omega))⟩⟩
                  · -- false
                    exact ⟨[true, true, false, false, true, false], .inl ⟨(X.tail, Y, [at_ X 0]), [X.length - Int.toNat (1 : Int) = X.tail.length ∧ (fun i => (fun i => (X.getD i Con.zero).rvs) (i + Int.toNat (1 : Int))) = fun i => (X.tail.getD i Con.zero).rvs, Y.length = Y.length ∧ (fun i => (Y.getD i Con.zero).rvs) = fun i => (Y.getD i Con.zero).rvs, (1 : Nat) = (0 : Nat) + (1 : Nat), [joinM (X.getD (Int.toNat (0 : Int)) Con.zero) (Y.getD (Int.toNat (0 : Int)) Con.zero)] = [at_ X (0 : Nat)], Dec (decide (cmpI (X.getD (Int.toNat (0 : Int)) Con.zero).exp (Y.getD (Int.toNat (0 : Int)) Con.zero).exp ≥ (0 : Int))) false, (0 : Int) ≤ (1 : Int) ∧ (1 : Int) ≤ (↑X.length : Int), Dec (decide (cmpI (X.getD (Int.toNat (0 : Int)) Con.zero).exp (Y.getD (Int.toNat (0 : Int)) Con.zero).exp ≤ (0 : Int))) true, (0 : Nat) < (1 : Nat) ∧ (1 : Nat) ≤ (1000000 : Nat), evenOk (X.getD (Int.toNat (0 : Int)) Con.zero) ∧ evenOk (Y.getD (Int.toNat (0 : Int)) Con.zero), (0 : Int) ≤ (0 : Int) ∧ (0 : Int) < (↑Y.length : Int), (0 : Int) ≤ (0 : Int) ∧ (0 : Int) < (↑X.length : Int), Dec (decide (cmpI (X.getD (Int.toNat (0 : Int)) Con.zero).exp (Y.getD (Int.toNat (0 : Int)) Con.zero).exp > (0 : Int))) false, Dec (decide (cmpI (X.getD (Int.toNat (0 : Int)) Con.zero).exp (Y.getD (Int.toNat (0 : Int)) Con.zero).exp < (0 : Int))) false, (0 : Int) ≤ (0 : Int) ∧ (0 : Int) < (↑Y.length : Int), (0 : Int) ≤ (0 : Int) ∧ (0 : Int) < (↑X.length : Int), Dec (decide ((↑Y.length : Int) > (0 : Int))) true, Dec (decide ((↑X.length : Int) > (0 : Int))) true], by kernel_rfl, (by refine ⟨?_, ?_, ?_, ?_, d6, ?_, d5, ?_, ?_, ?_, ?_, d4, d3, ?_, ?_, d2, d1⟩ <;> (first | rfl | exact ⟨rfl, rfl⟩ | ((try simp only [tn0, decide_eq_true_eq, decide_eq_false_iff_not, View.num, beq_iff_eq, beq_eq_false_iff_ne, ne_eq] at *) <;> first | omega | exact tail_row X (by omega) | exact tail_row Y (by omega) | exact ⟨ok_at (by omega) a1, ok_at (by omega) a2⟩ | (rw [← mrgI_end hI (by omega)]; done) | (rw [← mrgI_end hI (by omega)]; first | rfl | exact ⟨rfl, rfl⟩) | (simp at a3 ⊢; omega) | rfl | simp))), (by (try simp only [tn0, decide_eq_true_eq, decide_eq_false_iff_not, beq_iff_eq, beq_eq_false_iff_ne, ne_eq] at *); simp only [List.length_tail]; omega), (by (try simp only [tn0, decide_eq_true_eq, decide_eq_false_iff_not, beq_iff_eq, beq_eq_false_iff_ne, ne_eq] at *); first | (exfalso; omega) | exact mrgI_a hI (by omega) (by omega) (by simp only [at_]; omega) | exact mrgI_b hI (by omega) (by omega) (by simp only [at_]; omega) | exact mrgI_c hI (by omega) (by omega) (by simp only [at_]; omega) (by simp only [at_]; omega))⟩⟩
                · -- false
                  rcases Bool.eq_false_or_eq_true (decide (cmpI (X.getD (Int.toNat (0 : Int)) Con.zero).exp (Y.getD (Int.toNat (0 : Int)) Con.zero).exp ≥ (0 : Int))) with d6 | d6
                  · -- true
                    exact ⟨[true, true, false, false, false, true], .inl ⟨(X, Y.tail, [at_ Y 0]), [X.length = X.length ∧ (fun i => (X.getD i Con.zero).rvs) = fun i => (X.getD i Con.zero).rvs, Y.length - Int.toNat (1 : Int) = Y.tail.length ∧ (fun i => (fun i => (Y.getD i Con.zero).rvs) (i + Int.toNat (1 : Int))) = fun i => (Y.tail.getD i Con.zero).rvs, (1 : Nat) = (0 : Nat) + (1 : Nat), [joinM (X.getD (Int.toNat (0 : Int)) Con.zero) (Y.getD (Int.toNat (0 : Int)) Con.zero)] = [at_ Y (0 : Nat)], (0 : Int) ≤ (1 : Int) ∧ (1 : Int) ≤ (↑Y.length : Int), Dec (decide (cmpI (X.getD (Int.toNat (0 : Int)) Con.zero).exp (Y.getD (Int.toNat (0 : Int)) Con.zero).exp ≥ (0 : Int))) true, Dec (decide (cmpI (X.getD (Int.toNat (0 : Int)) Con.zero).exp (Y.getD (Int.toNat (0 : Int)) Con.zero).exp ≤ (0 : Int))) false, (0 : Nat) < (1 : Nat) ∧ (1 : Nat) ≤ (1000000 : Nat), evenOk (X.getD (Int.toNat (0 : Int)) Con.zero) ∧ evenOk (Y.getD (Int.toNat (0 : Int)) Con.zero), (0 : Int) ≤ (0 : Int) ∧ (0 : Int) < (↑Y.length : Int), (0 : Int) ≤ (0 : Int) ∧ (0 : Int) < (↑X.length : Int), Dec (decide (cmpI (X.getD (Int.toNat (0 : Int)) Con.zero).exp (Y.getD (Int.toNat (0 : Int)) Con.zero).exp > (0 : Int))) false, Dec (decide (cmpI (X.getD (Int.toNat (0 : Int)) Con.zero).exp (Y.getD (Int.toNat (0 : Int)) Con.zero).exp < (0 : Int))) false, (0 : Int) ≤ (0 : Int) ∧ (0 : Int) < (↑Y.length : Int), (0 : Int) ≤ (0 : Int) ∧ (0 : Int) < (↑X.length : Int), Dec (decide ((↑Y.length : Int) > (0 : Int))) true, Dec (decide ((↑X.length : Int) > (0 : Int))) true], by kernel_rfl, (by refine ⟨?_, ?_, ?_, ?_, ?_, d6, d5, ?_, ?_, ?_, ?_, d4, d3, ?_, ?_, d2, d1⟩ <;> (first | rfl | exact ⟨rfl, rfl⟩ | ((try simp only [tn0, decide_eq_true_eq, decide_eq_false_iff_not, View.num, beq_iff_eq, beq_eq_false_iff_ne, ne_eq] at *) <;> first | omega | exact tail_row X (by omega) | exact tail_row Y (by omega) | exact ⟨ok_at (by omega) a1, ok_at (by omega) a2⟩ | (rw [← mrgI_end hI (by omega)]; done) | (rw [← mrgI_end hI (by omega)]; first | rfl | exact ⟨rfl, rfl⟩) | (simp at a3 ⊢; omega) | rfl | simp))), (by (try simp only [tn0, decide_eq_true_eq, decide_eq_false_iff_not, beq_iff_eq, beq_eq_false_iff_ne, ne_eq] at *); simp only [List.length_tail]; omega), (by (try simp only [tn0, decide_eq_true_eq, decide_eq_false_iff_not, beq_iff_eq, beq_eq_false_iff_ne, ne_eq] at *); first | (exfalso; omega) | exact mrgI_a hI (by omega) (by omega) (by simp only [at_]; omega) | exact mrgI_b hI (by omega) (by omega) (by simp only [at_]; omega) | exact mrgI_c hI (by omega) (by omega) (by simp only [at_]; omega) (by simp only [at_]; omega))⟩⟩
                  · -- false
                    exfalso
                    simp only [tn0, decide_eq_true_eq, decide_eq_false_iff_not] at *; first | omega | (have h0 := mrgI_end hI (by omega); rw [← h0] at hne; simp at hne; done)
          · -- false
            exfalso
            simp only [tn0, decide_eq_true_eq, decide_eq_false_iff_not] at *; first | omega | (have h0 := mrgI_end hI (by omega); rw [← h0] at hne; simp at hne; done)
        · -- false
          exfalso
          simp only [tn0, decide_eq_true_eq, decide_eq_false_iff_not] at *; first | omega | (have h0 := mrgI_end hI (by omega); rw [← h0] at hne; simp at hne; done)
      · -- 2
        rcases Bool.eq_false_or_eq_true (decide ((↑X.length : Int) > (0 : Int))) with d1 | d1
        · -- true
          rcases Bool.eq_false_or_eq_true (decide ((↑Y.length : Int) > (0 : Int))) with d2 | d2
          · -- true
            rcases Bool.eq_false_or_eq_true (decide (cmpI (X.getD (Int.toNat (0 : Int)) Con.zero).exp (Y.getD (Int.toNat (0 : Int)) Con.zero).exp < (0 : Int))) with d3 | d3
            · -- true
              rcases Bool.eq_false_or_eq_true (decide (cmpI (X.getD (Int.toNat (0 : Int)) Con.zero).exp (Y.getD (Int.toNat (0 : Int)) Con.zero).exp ≤ (0 : Int))) with d4 | d4
              · -- true
                rcases Bool.eq_false_or_eq_true (decide (cmpI (X.getD (Int.toNat (0 : Int)) Con.zero).exp (Y.getD (Int.toNat (0 : Int)) Con.zero).exp ≥ (0 : Int))) with d5 | d5
                · -- true
                  exact ⟨[true, true, true, true, true], .inl ⟨(X.tail, Y.tail, c :: (l ++ [joinM (at_ X 0) (at_ Y 0)])), [X.length - Int.toNat (1 : Int) = X.tail.length ∧ (fun i => (fun i => (X.getD i Con.zero).rvs) (i + Int.toNat (1 : Int))) = fun i => (X.tail.getD i Con.zero).rvs, Y.length - Int.toNat (1 : Int) = Y.tail.length ∧ (fun i => (fun i => (Y.getD i Con.zero).rvs) (i + Int.toNat (1 : Int))) = fun i => (Y.tail.getD i Con.zero).rvs, l.length + (1 : Nat) + (1 : Nat) = (l ++ [joinM (at_ X (0 : Nat)) (at_ Y (0 : Nat))]).length + (1 : Nat), c :: l ++ [X.getD (Int.toNat (0 : Int)) Con.zero] = c :: (l ++ [joinM (at_ X (0 : Nat)) (at_ Y (0 : Nat))]), (0 : Int) ≤ (1 : Int) ∧ (1 : Int) ≤ (↑Y.length : Int), Dec (decide (cmpI (X.getD (Int.toNat (0 : Int)) Con.zero).exp (Y.getD (Int.toNat (0 : Int)) Con.zero).exp ≥ (0 : Int))) true, (0 : Int) ≤ (1 : Int) ∧ (1 : Int) ≤ (↑X.length : Int), Dec (decide (cmpI (X.getD (Int.toNat (0 : Int)) Con.zero).exp (Y.getD (Int.toNat (0 : Int)) Con.zero).exp ≤ (0 : Int))) true, (View.con (c :: l)).num = l.length + (1 : Nat) ∧ l.length + (1 : Nat) + (1 : Nat) ≤ (1000000 : Nat), (0 : Int) ≤ (0 : Int) ∧ (0 : Int) < (↑X.length : Int), Dec (decide (cmpI (X.getD (Int.toNat (0 : Int)) Con.zero).exp (Y.getD (Int.toNat (0 : Int)) Con.zero).exp < (0 : Int))) true, (0 : Int) ≤ (0 : Int) ∧ (0 : Int) < (↑Y.length : Int), (0 : Int) ≤ (0 : Int) ∧ (0 : Int) < (↑X.length : Int), Dec (decide ((↑Y.length : Int) > (0 : Int))) true, Dec (decide ((↑X.length : Int) > (0 : Int))) true], by kernel_rfl, (by refine ⟨?_, ?_, ?_, ?_, ?_, d5, ?_, d4, ?_, ?_, d3, ?_, ?_, d2, d1⟩ <;> (first | rfl | exact ⟨rfl, rfl⟩ | ((try simp only [tn0, decide_eq_true_eq, decide_eq_false_iff_not, View.num, beq_iff_eq, beq_eq_false_iff_ne, ne_eq] at *) <;> first | omega | exact tail_row X (by omega) | exact tail_row Y (by omega) | exact ⟨ok_at (by omega) a1, ok_at (by omega) a2⟩ | (rw [← mrgI_end hI (by omega)]; done) | (rw [← mrgI_end hI (by omega)]; first | rfl | exact ⟨rfl, rfl⟩) | (simp at a3 ⊢; omega) | rfl | simp))), (by (try simp only [tn0, decide_eq_true_eq, decide_eq_false_iff_not, beq_iff_eq, beq_eq_false_iff_ne, ne_eq] at *); simp only [List.length_tail]; omega), (by (try simp only [tn0, decide_eq_true_eq, decide_eq_false_iff_not, beq_iff_eq, beq_eq_false_iff_ne, ne_eq] at *); first | (exfalso; omega) | exact mrgI_a hI (by omega) (by omega) (by simp only [at_]; omega) | exact mrgI_b hI (by omega) (by omega) (by simp only [at_]; omega) | exact mrgI_c hI (by omega) (by omega) (by simp only [at_]; omega) (by simp only [at_]; omega))⟩⟩
                · -- false
                  exact ⟨[true, true, true, true, false], .inl ⟨(X.tail, Y, c :: (l ++ [at_ X 0])), [X.length - Int.toNat (1 : Int) = X.tail.length ∧ (fun i => (fun i => (X.getD i Con.zero).rvs) (i + Int.toNat (1 : Int))) = fun i => (X.tail.getD i Con.zero).rvs, Y.length = Y.length ∧ (fun i => (Y.getD i Con.zero).rvs) = fun i => (Y.getD i Con.zero).rvs, l.length + (1 : Nat) + (1 : Nat) = (l ++ [at_ X (0 : Nat)]).length + (1 : Nat), c :: l ++ [X.getD (Int.toNat (0 : Int)) Con.zero] = c :: (l ++ [at_ X (0 : Nat)]), Dec (decide (cmpI (X.getD (Int.toNat (0 : Int)) Con.zero).exp (Y.getD (Int.toNat (0 : Int)) Con.zero).exp ≥ (0 : Int))) false, (0 : Int) ≤ (1 : Int) ∧ (1 : Int) ≤ (↑X.length : Int), Dec (decide (cmpI (X.getD (Int.toNat (0 : Int)) Con.zero).exp (Y.getD (Int.toNat (0 : Int)) Con.zero).exp ≤ (0 : Int))) true, (View.con (c :: l)).num = l.length + (1 : Nat) ∧ l.length + (1 : Nat) + (1 : Nat) ≤ (1000000 : Nat), (0 : Int) ≤ (0 : Int) ∧ (0 : Int) < (↑X.length : Int), Dec (decide (cmpI (X.getD (Int.toNat (0 : Int)) Con.zero).exp (Y.getD (Int.toNat (0 : Int)) Con.zero).exp < (0 : Int))) true, (0 : Int) ≤ (0 : Int) ∧ (0 : Int) < (↑Y.length : Int), (0 : Int) ≤ (0 : Int) ∧ (0 : Int) < (↑X.length : Int), Dec (decide ((↑Y.length : Int) > (0 : Int))) true, Dec (decide ((↑X.length : Int) > (0 : Int))) true], by kernel_rfl, (by refine ⟨?_, ?_, ?_, ?_, d5, ?_, d4, ?_, ?_, d3, ?_, ?_, d2, d1⟩ <;> (first | rfl | exact ⟨rfl, rfl⟩ | ((try simp only [tn0, decide_eq_true_eq, decide_eq_false_iff_not, View.num, beq_iff_eq, beq_eq_false_iff_ne, ne_eq] at *) <;> first | omega | exact tail_row X (by omega) | exact tail_row Y (by omega) | exact ⟨ok_at (by omega) a1, ok_at (by omega) a2⟩ | (rw [← mrgI_end hI (by omega)]; done) | (rw [← mrgI_end hI (by omega)]; first | rfl | exact ⟨rfl, rfl⟩) | (simp at a3 ⊢; omega) | rfl | simp))), (by (try simp only [tn0, decide_eq_true_eq, decide_eq_false_iff_not, beq_iff_eq, beq_eq_false_iff_ne, ne_eq] at *); simp only [List.length_tail]; omega), (by (try simp only [tn0, decide_eq_true_eq, decide_eq_false_iff_not, beq_iff_eq, beq_eq_false_iff_ne, ne_eq] at *); first | (exfalso; omega) | exact mrgI_a hI (by omega) (by omega) (by simp only [at_]; omega) | exact mrgI_b hI (by omega) (by omega) (by simp only [at_]; omega) | exact mrgI_c hI (by omega) (by omega) (by simp only [at_]; omega) (by simp only [at_]; omega))⟩⟩
              · -- false
                rcases Bool.eq_false_or_eq_true (decide (cmpI (X.getD (Int.toNat (0 : Int)) Con.zero).exp (Y.getD (Int.toNat (0 : Int)) Con.zero).exp ≥ (0 : Int))) with d5 | d5
                · -- true
                  exact ⟨[true, true, true, false, true], .inl ⟨(X, Y.tail, c :: (l ++ [at_ Y 0])), [X.length = X.length ∧ (fun i => (X.getD i Con.zero).rvs) = fun i => (X.getD i Con.zero).rvs, Y.length - Int.toNat (1 : Int) = Y.tail.length ∧ (fun i => (fun i => (Y.getD i Con.zero).rvs) (i + Int.toNat (1 : Int))) = fun i => (Y.tail.getD i Con.zero).rvs, l.length + (1 : Nat) + (1 : Nat) = (l ++ [at_ Y (0 : Nat)]).length + (1 : Nat), c :: l ++ [X.getD (Int.toNat (0 : Int)) Con.zero] = c :: (l ++ [at_ Y (0 : Nat)]), (0 : Int) ≤ (1 : Int) ∧ (1 : Int) ≤ (↑Y.length : Int), Dec (decide (cmpI (X.getD (Int.toNat (0 : Int)) Con.zero).exp (Y.getD (Int.toNat (0 : Int)) Con.zero).exp ≥ (0 : Int))) true, Dec (decide (cmpI (X.getD (Int.toNat (0 : Int)) Con.zero).exp (Y.getD (Int.toNat (0 : Int)) Con.zero).exp ≤ (0 : Int))) false, (View.con (c :: l)).num = l.length + (1 : Nat) ∧ l.length + (1 : Nat) + (1 : Nat) ≤ (1000000 : Nat), (0 : Int) ≤ (0 : Int) ∧ (0 : Int) < (↑X.length : Int), Dec (decide (cmpI (X.getD (Int.toNat (0 : Int)) Con.zero).exp (Y.getD (Int.toNat (0 : Int)) Con.zero).exp < (0 : Int))) true, (0 : Int) ≤ (0 : Int) ∧ (0 : Int) < (↑Y.length : Int), (0 : Int) ≤ (0 : Int) ∧ (0 : Int) < (↑X.length : Int), Dec (decide ((↑Y.length : Int) > (0 : Int))) true, Dec (decide ((↑X.length : Int) > (0 : Int))) true], by kernel_rfl, (by refine ⟨?_, ?_, ?_, ?_, ?_, d5, d4, ?_, ?_, d3, ?_, ?_, d2, d1⟩ <;> (first | rfl | exact ⟨rfl, rfl⟩ | ((try simp only [tn0, decide_eq_true_eq, decide_eq_false_iff_not, View.num, beq_iff_eq, beq_eq_false_iff_ne, ne_eq] at *) <;> first | omega | exact tail_row X (by omega) | exact tail_row Y (by omega) | exact ⟨ok_at (by omega) a1, ok_at (by omega) a2⟩ | (rw [← mrgI_end hI (by omega)]; done) | (rw [← mrgI_end hI (by omega)]; first | rfl | exact ⟨rfl, rfl⟩) | (simp at a3 ⊢; omega) | rfl | simp))), (by (try simp only [tn0, decide_eq_true_eq, decide_eq_false_iff_not, beq_iff_eq, beq_eq_false_iff_ne, ne_eq] at *); simp only [List.length_tail]; omega), (by (try simp only [tn0, decide_eq_true_eq, decide_eq_false_iff_not, beq_iff_eq, beq_eq_false_iff_ne, ne_eq] at *); first | (exfalso; omega) | exact mrgI_a hI (by omega) (by omega) (by simp only [at_]; omega) | exact mrgI_b hI (by omega) (by omega) (by simp only [at_]; omega) | exact mrgI_c hI (by omega) (by omega) (by simp only [at_]; omega) (by simp only [at_]; omega))⟩⟩
                · -- false
                  exfalso
                  simp only [tn0, decide_eq_true_eq, decide_eq_false_iff_not] at *; first | omega | (have h0 := mrgI_end hI (by omega); rw [← h0] at hne; simp at hne; done)
            · -- false
              rcases Bool.eq_false_or_eq_true (decide (cmpI (X.getD (Int.toNat (0 : Int)) Con.zero).exp (Y.getD (Int.toNat (0 : Int)) Con.zero).exp > (0 : Int))) with d4 | d4
              · -- true
                rcases Bool.eq_false_or_eq_true (decide (cmpI (X.getD (Int.toNat (0 : Int)) Con.zero).exp (Y.getD (Int.toNat (0 : Int)) Con.zero).exp ≤ (0 : Int))) with d5 | d5
                · -- true
                  rcases Bool.eq_false_or_eq_true (decide (cmpI (X.getD (Int.toNat (0 : Int)) Con.zero).exp (Y.getD (Int.toNat (0 : Int)) Con.zero).exp ≥ (0 : Int))) with d6 | d6
                  · -- true
                    exact ⟨[true, true, false, true, true, true], .inl ⟨(X.tail, Y.tail, c :: (l ++ [joinM (at_ X 0) (at_ Y 0)])), [X.length - Int.toNat (1 : Int) = X.tail.length ∧ (fun i => (fun i => (X.getD i Con.zero).rvs) (i + Int.toNat (1 : Int))) = fun i => (X.tail.getD i Con.zero).rvs, Y.length - Int.toNat (1 : Int) = Y.tail.length ∧ (fun i => (fun i => (Y.getD i Con.zero).rvs) (i + Int.toNat (1 : Int))) = fun i => (Y.tail.getD i Con.zero).rvs, l.length + (1 : Nat) + (1 : Nat) = (l ++ [joinM (at_ X (0 : Nat)) (at_ Y (0 : Nat))]).length + (1 : Nat), c :: l ++ [Y.getD (Int.toNat (0 : Int)) Con.zero] = c :: (l ++ [joinM (at_ X (0 : Nat)) (at_ Y (0 : Nat))]), (0 : Int) ≤ (1 : Int) ∧ (1 : Int) ≤ (↑Y.length : Int), Dec (decide (cmpI (X.getD (Int.toNat (0 : Int)) Con.zero).exp (Y.getD (Int.toNat (0 : Int)) Con.zero).exp ≥ (0 : Int))) true, (0 : Int) ≤ (1 : Int) ∧ (1 : Int) ≤ (↑X.length : Int), Dec (decide (cmpI (X.getD (Int.toNat (0 : Int)) Con.zero).exp (Y.getD (Int.toNat (0 : Int)) Con.zero).exp ≤ (0 : Int))) true, (View.con (c :: l)).num = l.length + (1 : Nat) ∧ l.length + (1 : Nat) + (1 : Nat) ≤ (1000000 : Nat), (0 : Int) ≤ (0 : Int) ∧ (0 : Int) < (↑Y.length : Int), Dec (decide (cmpI (X.getD (Int.toNat (0 : Int)) Con.zero).exp (Y.getD (Int.toNat (0 : Int)) Con.zero).exp > (0 : Int))) true, Dec (decide (cmpI (X.getD (Int.toNat (0 : Int)) Con.zero).exp (Y.getD (Int.toNat (0 : Int)) Con.zero).exp < (0 : Int))) false, (0 : Int) ≤ (0 : Int) ∧ (0 : Int) < (↑Y.length : Int), (0 : Int) ≤ (0 : Int) ∧ (0 : Int) < (↑X.length : Int), Dec (decide ((↑Y.length : Int) > (0 : Int))) true, Dec (decide ((↑X.length : Int) > (0 : Int))) true], by kernel_rfl, (by refine ⟨?_, ?_, ?_, ?_, ?_, d6, ?_, d5, ?_, ?_, d4, d3, ?_, ?_, d2, d1⟩ <;> (first | rfl | exact ⟨rfl, rfl⟩ | ((try simp only [tn0, decide_eq_true_eq, decide_eq_false_iff_not, View.num, beq_iff_eq, beq_eq_false_iff_ne, ne_eq] at *) <;> first | omega | exact tail_row X (by omega) | exact tail_row Y (by omega) | exact ⟨ok_at (by omega) a1, ok_at (by omega) a2⟩ | (rw [← mrgI_end hI (by omega)]; done) | (rw [← mrgI_end hI (by omega)]; first | rfl | exact ⟨rfl, rfl⟩) | (simp at a3 ⊢; omega) | rfl | simp))), (by (try simp only [tn0, decide_eq_true_eq, decide_eq_false_iff_not, beq_iff_eq, beq_eq_false_iff_ne, ne_eq] at *); simp only [List.length_tail]; omega), (by (try simp only [tn0, decide_eq_true_eq, decide_eq_false_iff_not, beq_iff_eq, beq_eq_false_iff_ne, ne_eq] at *); first | (exfalso; omega) | exact mrgI_a hI (by omega) (by omega) (by simp only [at_]; omega) | exact mrgI_b hI (by omega) (by omega) (by simp only [at_]; omega) | exact mrgI_c hI (by omega) (by omega) (by simp only [at_]; omega) (by simp only [at_]; omega))⟩⟩
                  · -- false
                    exact ⟨[true, true, false, true, true, false], .inl ⟨(X.tail, Y, c :: (l ++ [at_ X 0])), [X.length - Int.toNat (1 : Int) = X.tail.length ∧ (fun i => (fun i => (X.getD i Con.zero).rvs) (i + Int.toNat (1 : Int))) = fun i => (X.tail.getD i Con.zero).rvs, Y.length = Y.length ∧ (fun i => (Y.getD i Con.zero).rvs) = fun i => (Y.getD i Con.zero).rvs, l.length + (1 : Nat) + (1 : Nat) = (l ++ [at_ X (0 : Nat)]).length + (1 : Nat), c :: l ++ [Y.getD (Int.toNat (0 : Int)) Con.zero] = c :: (l ++ [at_ X (0 : Nat)]), Dec (decide (cmpI (X.getD (Int.toNat (0 : Int)) Con.zero).exp (Y.getD (Int.toNat (0 : Int)) Con.zero).exp ≥ (0 : Int))) false, (0 : Int) ≤ (1 : Int) ∧ (1 : Int) ≤ (↑X.length : Int), Dec (decide (cmpI (X.getD (Int.toNat (0 : Int)) Con.zero).exp (Y.getD (Int.toNat (0 : Int)) Con.zero).exp ≤ (0 : Int))) true, (View.con (c :: l)).num = l.length + (1 : Nat) ∧ l.length + (1 : Nat) + (1 : Nat) ≤ (1000000 : Nat), (0 : Int) ≤ (0 : Int) ∧ (0 : Int) < (↑Y.length : Int), Dec (decide (cmpI (X.getD (Int.toNat (0 : Int)) Con.zero).exp (Y.getD (Int.toNat (0 : Int)) Con.zero).exp > (0 : Int))) true, Dec (decide (cmpI (X.getD (Int.toNat (0 : Int)) Con.zero).exp (Y.getD (Int.toNat (0 : Int)) Con.zero).exp < (0 : Int))) false, (0 : Int) ≤ (0 : Int) ∧ (0 : Int) < (↑Y.length : Int), (0 : Int) ≤ (0 : Int) ∧ (0 : Int) < (↑X.length : Int), Dec (decide ((↑Y.length : Int) > (0 : Int))) true, Dec (decide ((↑X.length : Int) > (0 : Int))) true], by kernel_rfl, (by refine ⟨?_, ?_, ?_, ?_, d6, ?_, d5, ?_, ?_, d4, d3, ?_, ?_, d2, d1⟩ <;> (first | rfl | exact ⟨rfl, rfl⟩ | ((try simp only [tn0, decide_eq_true_eq, decide_eq_false_iff_not, View.num, beq_iff_eq, beq_eq_false_iff_ne, ne_eq] at *) <;> first | omega | exact tail_row X (by omega) | exact tail_row Y (by omega) | exact ⟨ok_at (by omega) a1, ok_at (by omega) a2⟩ | (rw [← mrgI_end hI (by omega)]; done) | (rw [← mrgI_end hI (by omega)]; first | rfl | exact ⟨rfl, rfl⟩) | (simp at a3 ⊢; omega) | rfl | simp))), (by (try simp only [tn0, decide_eq_true_eq, decide_eq_false_iff_not, beq_iff_eq, beq_eq_false_iff_ne, ne_eq] at *); simp only [List.length_tail]; omega), (by (try simp only [tn0, decide_eq_true_eq, decide_eq_false_iff_not, beq_iff_eq, beq_eq_false_iff_ne, ne_eq] at *); first | (exfalso; omega) | exact mrgI_a hI (by omega) (by omega) (by simp only [at_]; omega) | exact mrgI_b hI (by omega) (by omega) (by simp only [at_]; omega) | exact mrgI_c hI (by omega) (by omega) (by simp only [at_]; omega) (by simp only [at_]; omega))⟩⟩
                · -- false
                  rcases Bool.eq_false_or_eq_true (decide (cmpI (X.getD (Int.toNat (0 : Int)) Con.zero).exp (Y.getD (Int.toNat (0 : Int)) Con.zero).exp ≥ (0 : Int))) with d6 | d6
                  · -- true
                    exact ⟨[true, true, false, true, false, true], .inl ⟨(X, Y.tail, c :: (l ++ [at_ Y 0])), [X.length = X.length ∧ (fun i => (X.getD i Con.zero).rvs) = fun i => (X.getD i Con.zero).rvs, Y.length - Int.toNat (1 : Int) = Y.tail.length ∧ (fun i => (fun i => (Y.getD i Con.zero).rvs) (i + Int.toNat (1 : Int))) = fun i => (Y.tail.getD i Con.zero).rvs, l.length + (1 : Nat) + (1 : Nat) = (l ++ [at_ Y (0 : Nat)]).length + (1 : Nat), c :: l ++ [Y.getD (Int.toNat (0 : Int)) Con.zero] = c :: (l ++ [at_ Y (0 : Nat)]), (0 : Int) ≤ (1 : Int) ∧ (1 : Int) ≤ (↑Y.length : Int), Dec (decide (cmpI (X.getD (Int.toNat (0 : Int)) Con.zero).exp (Y.getD (Int.toNat (0 : Int)) Con.zero).exp ≥ (0 : Int))) true, Dec (decide (cmpI (X.getD (Int.toNat (0 : Int)) Con.zero).exp (Y.getD (Int.toNat (0 : Int)) Con.zero).exp ≤ (0 : Int))) false, (View.con (c :: l)).num = l.length + (1 : Nat) ∧ l.length + (1 : Nat) + (1 : Nat) ≤ (1000000 : Nat), (0 : Int) ≤ (0 : Int) ∧ (0 : Int) < (↑Y.length : Int), Dec (decide (cmpI (X.getD (Int.toNat (0 : Int)) Con.zero).exp (Y.getD (Int.toNat (0 : Int)) Con.zero).exp > (0 : Int))) true, Dec (decide (cmpI (X.getD (Int.toNat (0 : Int)) Con.zero).exp (Y.getD (Int.toNat (0 : Int)) Con.zero).exp < (0 : Int))) false, (0 : Int) ≤ (0 : Int) ∧ (0 : Int) < (↑Y.length : Int), (0 : Int) ≤ (0 : Int) ∧ (0 : Int) < (↑X.length : Int), Dec (decide ((↑Y.length : Int) > (0 : Int))) true, Dec (decide ((↑X.length : Int) > (0 : Int))) true], by kernel_rfl, (by refine ⟨?_, ?_, ?_, ?_, ?_, d6, d5, ?_, ?_, d4, d3, ?_, ?_, d2, d1⟩ <;> (first | rfl | exact ⟨rfl, rfl⟩ | ((try simp only [tn0, decide_eq_true_eq, decide_eq_false_iff_not, View.num, beq_iff_eq, beq_eq_false_iff_ne, ne_eq] at *) <;> first | omega | exact tail_row X (by omega) | exact tail_row Y (by omega) | exact ⟨ok_at (by omega) a1, ok_at (by omega) a2⟩ | (rw [← mrgI_end hI (by omega)]; done) | (rw [← mrgI_end hI (by omega)]; first | rfl | exact ⟨rfl, rfl⟩) | (simp at a3 ⊢; omega) | rfl | simp))), (by (try simp only [tn0, decide_eq_true_eq, decide_eq_false_iff_not, beq_iff_eq, beq_eq_false_iff_ne, ne_eq] at *); simp only [List.length_tail]; omega), (by (try simp only [tn0, decide_eq_true_eq, decide_eq_false_iff_not, beq_iff_eq, beq_eq_false_iff_ne, ne_eq] at *); first | (exfalso; omega) | exact mrgI_a hI (by omega) (by omega) (by simp only [at_]; omega) | exact mrgI_b hI (by omega) (by omega) (by simp only [at_]; omega) | exact mrgI_c hI (by omega) (by omega) (by simp only [at_]; omega) (by simp only [at_]; omega))⟩⟩
                  · -- false
                    exfalso
                    simp only [tn0, decide_eq_true_eq, decide_eq_false_iff_not] at *; first | omega | (have h0 := mrgI_end hI (by omega); rw [← h0] at hne; simp at hne; done)
              · -- false
                rcases Bool.eq_false_or_eq_true (decide (cmpI (X.getD (Int.toNat (0 : Int)) Con.zero).exp (Y.getD (Int.toNat (0 : Int)) Con.zero).exp ≤ (0 : Int))) with d5 | d5
                · -- true
                  rcases Bool.eq_false_or_eq_true (decide (cmpI (X.getD (Int.toNat (0 : Int)) Con.zero).exp (Y.getD (Int.toNat (0 : Int)) Con.zero).exp ≥ (0 : Int))) with d6 | d6
                  · -- true
                    exact ⟨[true, true, false, false, true, true], .inl ⟨(X.tail, Y.tail, c :: (l ++ [joinM (at_ X 0) (at_ Y 0)])), [X.length - Int.toNat (1 : Int) = X.tail.length ∧ (fun i => (fun i => (X.getD i Con.zero).rvs) (i + Int.toNat (1 : Int))) = fun i => (X.tail.getD i Con.zero).rvs, Y.length - Int.toNat (1 : Int) = Y.tail.length ∧ (fun i => (fun i => (Y.getD i Con.zero).rvs) (i + Int.toNat (1 : Int))) = fun i => (Y.tail.getD i Con.zero).rvs, l.length + (1 : Nat) + (1 : Nat) = (l ++ [joinM (at_ X (0 : Nat)) (at_ Y (0 : Nat))]).length + (1 : Nat), c :: l ++ [joinM (X.getD (Int.toNat (0 : Int)) Con.zero) (Y.getD (Int.toNat (0 : Int)) Con.zero)] = c :: (l ++ [joinM (at_ X (0 : Nat)) (at_ Y (0 : Nat))]), (0 : Int) ≤ (1 : Int) ∧ (1 : Int) ≤ (↑Y.length : Int), Dec (decide (cmpI (X.getD (Int.toNat (0 : Int)) Con.zero).exp (Y.getD (Int.toNat (0 : Int)) Con.zero).exp ≥ (0 : Int))) true, (0 : Int) ≤ (1 : Int) ∧ (1 : Int) ≤ (↑X.length : Int), Dec (decide (cmpI (X.getD (Int.toNat (0 : Int)) Con.zero).exp (Y.getD (Int.toNat (0 : Int)) Con.zero).exp ≤ (0 : Int))) true, (View.con (c :: l)).num = l.length + (1 : Nat) ∧ l.length + (1 : Nat) + (1 : Nat) ≤ (1000000 : Nat), evenOk (X.getD (Int.toNat (0 : Int)) Con.zero) ∧ evenOk (Y.getD (Int.toNat (0 : Int)) Con.zero), (0 : Int) ≤ (0 : Int) ∧ (0 : Int) < (↑Y.length : Int), (0 : Int) ≤ (0 : Int) ∧ (0 : Int) < (↑X.length : Int), Dec (decide (cmpI (X.getD (Int.toNat (0 : Int)) Con.zero).exp (Y.getD (Int.toNat (0 : Int)) Con.zero).exp > (0 : Int))) false, Dec (decide (cmpI (X.getD (Int.toNat (0 : Int)) Con.zero).exp (Y.getD (Int.toNat (0 : Int)) Con.zero).exp < (0 : Int))) false, (0 : Int) ≤ (0 : Int) ∧ (0 : Int) < (↑Y.length : Int), (0 : Int) ≤ (0 : Int) ∧ (0 : Int) < (↑X.length : Int), Dec (decide ((↑Y.length : Int) > (0 : Int))) true, Dec (decide ((↑X.length : Int) > (0 : Int))) true], by kernel_rfl, (by refine ⟨?_, ?_, ?_, ?_, ?_, d6, ?_, d5, ?_, ?_, ?_, ?_, d4, d3, ?_, ?_, d2, d1⟩ <;> (first | rfl | exact ⟨rfl, rfl⟩ | ((try simp only [tn0, decide_eq_true_eq, decide_eq_false_iff_not, View.num, beq_iff_eq, beq_eq_false_iff_ne, ne_eq] at *) <;> first | omega | exact tail_row X (by omega) | exact tail_row Y (by omega) | exact ⟨ok_at (by omega) a1, ok_at (by omega) a2⟩ | (rw [← mrgI_end hI (by omega)]; done) | (rw [← mrgI_end hI (by omega)]; first | rfl | exact ⟨rfl, rfl⟩) | (simp at a3 ⊢; omega) | rfl | simp))), (by (try simp only [tn0, decide_eq_true_eq, decide_eq_false_iff_not, beq_iff_eq, beq_eq_false_iff_ne, ne_eq] at *); simp only [List.length_tail]; omega), (by (try simp only [tn0, decide_eq_true_eq, decide_eq_false_iff_not, beq_iff_eq, beq_eq_false_iff_ne, ne_eq] at *); first | (exfalso; omega) | exact mrgI_a hI (by omega) (by omega) (by simp only [at_]; omega) | exact mrgI_b hI (by omega) (by omega) (by simp only [at_]; omega) | exact mrgI_c hI (by omega) (by omega) (by simp only [at_]; omega) (by simp only [at_]; omega))⟩⟩
                  · -- false
                    exact ⟨[true, true, false, false, true, false], .inl ⟨(X.tail, Y, c :: (l ++ [at_ X 0])), [X.length - Int.toNat (1 : Int) = X.tail.length ∧ (fun i => (fun i => (X.getD i Con.zero).rvs) (i + Int.toNat (1 : Int))) = fun i => (X.tail.getD i Con.zero).rvs, Y.length = Y.length ∧ (fun i => (Y.getD i Con.zero).rvs) = fun i => (Y.getD i Con.zero).rvs, l.length + (1 : Nat) + (1 : Nat) = (l ++ [at_ X (0 : Nat)]).length + (1 : Nat), c :: l ++ [joinM (X.getD (Int.toNat (0 : Int)) Con.zero) (Y.getD (Int.toNat (0 : Int)) Con.zero)] = c :: (l ++ [at_ X (0 : Nat)]), Dec (decide (cmpI (X.getD (Int.toNat (0 : Int)) Con.zero).exp (Y.getD (Int.toNat (0 : Int)) Con.zero).exp ≥ (0 : Int))) false, (0 : Int) ≤ (1 : Int) ∧ (1 : Int) ≤ (↑X.length : Int), Dec (decide (cmpI (X.getD (Int.toNat (0 : Int)) Con.zero).exp (Y.getD (Int.toNat (0 : Int)) Con.zero).exp ≤ (0 : Int))) true, (View.con (c :: l)).num = l.length + (1 : Nat) ∧ l.length + (1 : Nat) + (1 : Nat) ≤ (1000000 : Nat), evenOk (X.getD (Int.toNat (0 : Int)) Con.zero) ∧ evenOk (Y.getD (Int.toNat (0 : Int)) Con.zero), (0 : Int) ≤ (0 : Int) ∧ (0 : Int) < (↑Y.length : Int), (0 : Int) ≤ (0 : Int) ∧ (0 : Int) < (↑X.length : Int), Dec (decide (cmpI (X.getD (Int.toNat (0 : Int)) Con.zero).exp (Y.getD (Int.toNat (0 : Int)) Con.zero).exp > (0 : Int))) false, Dec (decide (cmpI (X.getD (Int.toNat (0 : Int)) Con.zero).exp (Y.getD (Int.toNat (0 : Int)) Con.zero).exp < (0 : Int))) false, (0 : Int) ≤ (0 : Int) ∧ (0 : Int) < (↑Y.length : Int), (0 : Int) ≤ (0 : Int) ∧ (0 : Int) < (↑X.length : Int), Dec (decide ((↑Y.length : Int) > (0 : Int))) true, Dec (decide ((↑X.length : Int) > (0 : Int))) true], by kernel_rfl, (by refine ⟨?_, ?_, ?_, ?_, d6, ?_, d5, ?_, ?_, ?_, ?_, d4, d3, ?_, ?_, d2, d1⟩ <;> (first | rfl | exact ⟨rfl, rfl⟩ | ((try simp only [tn0, decide_eq_true_eq, decide_eq_false_iff_not, View.num, beq_iff_eq, beq_eq_false_iff_ne, ne_eq] at *) <;> first | omega | exact tail_row X (by omega) | exact tail_row Y (by omega) | exact ⟨ok_at (by omega) a1, ok_at (by omega) a2⟩ | (rw [← mrgI_end hI (by omega)]; done) | (rw [← mrgI_end hI (by omega)]; first | rfl | exact ⟨rfl, rfl⟩) | (simp at a3 ⊢; omega) | rfl | simp))), (by (try simp only [tn0, decide_eq_true_eq, decide_eq_false_iff_not, beq_iff_eq, beq_eq_false_iff_ne, ne_eq] at *); simp only [List.length_tail]; omega), (by (try simp only [tn0, decide_eq_true_eq, decide_eq_false_iff_not, beq_iff_eq, beq_eq_false_iff_ne, ne_eq] at *); first | (exfalso; omega) | exact mrgI_a hI (by omega) (by omega) (by simp only [at_]; omega) | exact mrgI_b hI (by omega) (by omega) (by simp only [at_]; omega) | exact mrgI_c hI (by omega) (by omega) (by simp only [at_]; omega) (by simp only [at_]; omega))⟩⟩
                · -- false
                  rcases Bool.eq_false_or_eq_true (decide (cmpI (X.getD (Int.toNat (0 : Int)) Con.zero).exp (Y.getD (Int.toNat (0 : Int)) Con.zero).exp ≥ (0 : Int))) with d6 | d6
                  · -- true
                    exact ⟨[true, true, false, false, false, true], .inl ⟨(X, Y.tail, c :: (l ++ [at_ Y 0])), [X.length = X.length ∧ (fun i => (X.getD i Con.zero).rvs) = fun i => (X.getD i Con.zero).rvs, Y.length - Int.toNat (1 : Int) = Y.tail.length ∧ (fun i => (fun i => (Y.getD i Con.zero).rvs) (i + Int.toNat (1 : Int))) = fun i => (Y.tail.getD i Con.zero).rvs, l.length + (1 : Nat) + (1 : Nat) = (l ++ [at_ Y (0 : Nat)]).length + (1 : Nat), c :: l ++ [joinM (X.getD (Int.toNat (0 : Int)) Con.zero) (Y.getD (Int.toNat (0 : Int)) Con.zero)] = c :: (l ++ [at_ Y (0 : Nat)]), (0 : Int) ≤ (1 : Int) ∧ (1 : Int) ≤ (↑Y.length : Int), Dec (decide (cmpI (X.getD (Int.toNat (0 : Int)) Con.zero).exp (Y.getD (Int.toNat (0 : Int)) Con.zero).exp ≥ (0 : Int))) true, Dec (decide (cmpI (X.getD (Int.toNat (0 : Int)) Con.zero).exp (Y.getD (Int.toNat (0 : Int)) Con.zero).exp ≤ (0 : Int))) false, (View.con (c :: l)).num = l.length + (1 : Nat) ∧ l.length + (1 : Nat) + (1 : Nat) ≤ (1000000 : Nat), evenOk (X.getD (Int.toNat (0 : Int)) Con.zero) ∧ evenOk (Y.getD (Int.toNat (0 : Int)) Con.zero), (0 : Int) ≤ (0 : Int) ∧ (0 : Int) < (↑Y.length : Int), (0 : Int) ≤ (0 : Int) ∧ (0 : Int) < (↑X.length : Int), Dec (decide (cmpI (X.getD (Int.toNat (0 : Int)) Con.zero).exp (Y.getD (Int.toNat (0 : Int)) Con.zero).exp > (0 : Int))) false, Dec (decide (cmpI (X.getD (Int.toNat (0 : Int)) Con.zero).exp (Y.getD (Int.toNat (0 : Int)) Con.zero).exp < (0 : Int))) false, (0 : Int) ≤ (0 : Int) ∧ (0 : Int) < (↑Y.length : Int), (0 : Int) ≤ (0 : Int) ∧ (0 : Int) < (↑X.length : Int), Dec (decide ((↑Y.length : Int) > (0 : Int))) true, Dec (decide ((↑X.length : Int) > (0 : Int))) true], by kernel_rfl, (by refine ⟨?_, ?_, ?_, ?_, ?_, d6, d5, ?_, ?_, ?_, ?_, d4, d3, ?_, ?_, d2, d1⟩ <;> (first | rfl | exact ⟨rfl, rfl⟩ | ((try simp only [tn0, decide_eq_true_eq, decide_eq_false_iff_not, View.num, beq_iff_eq, beq_eq_false_iff_ne, ne_eq] at *) <;> first | omega | exact tail_row X (by omega) | exact tail_row Y (by omega) | exact ⟨ok_at (by omega) a1, ok_at (by omega) a2⟩ | (rw [← mrgI_end hI (by omega)]; done) | (rw [← mrgI_end hI (by omega)]; first | rfl | exact ⟨rfl, rfl⟩) | (simp at a3 ⊢; omega) | rfl | simp))), (by (try simp only [tn0, decide_eq_true_eq, decide_eq_false_iff_not, beq_iff_eq, beq_eq_false_iff_ne, ne_eq] at *); simp only [List.length_tail]; omega), (by (try simp only [tn0, decide_eq_true_eq, decide_eq_false_iff_not, beq_iff_eq, beq_eq_false_iff_ne, ne_eq] at *); first | (exfalso; omega) | exact mrgI_a hI (by omega) (by omega) (by simp only [at_]; omega) | exact mrgI_b hI (by omega) (by omega) (by simp only [at_]; omega) | exact mrgI_c hI (by omega) (by omega) (by simp only [at_]; omega) (by simp only [at_]; omega))⟩⟩
                  · -- false
                    exfalso
                    simp only [tn0, decide_eq_true_eq, decide_eq_false_iff_not] at *; first | omega | (have h0 := mrgI_end hI (by omega); rw [← h0] at hne; simp at hne; done)
          · -- false
            exact ⟨[true, false], .inr ⟨[X.length = (mrgM A B).snd.fst.length ∧ (fun i => (X.getD i Con.zero).rvs) = fun i => ((mrgM A B).snd.fst.getD i Con.zero).rvs, Y.length = (mrgM A B).snd.snd.length ∧ (fun i => (Y.getD i Con.zero).rvs) = fun i => ((mrgM A B).snd.snd.getD i Con.zero).rvs, l.length + (1 : Nat) = (mrgM A B).fst.length, c :: l = (mrgM A B).fst, Dec (decide ((↑Y.length : Int) > (0 : Int))) false, Dec (decide ((↑X.length : Int) > (0 : Int))) true], by kernel_rfl, (by refine ⟨?_, ?_, ?_, ?_, d2, d1⟩ <;> (first | rfl | exact ⟨rfl, rfl⟩ | ((try simp only [tn0, decide_eq_true_eq, decide_eq_false_iff_not, View.num, beq_iff_eq, beq_eq_false_iff_ne, ne_eq] at *) <;> first | omega | exact tail_row X (by omega) | exact tail_row Y (by omega) | exact ⟨ok_at (by omega) a1, ok_at (by omega) a2⟩ | (rw [← mrgI_end hI (by omega)]; done) | (rw [← mrgI_end hI (by omega)]; first | rfl | exact ⟨rfl, rfl⟩) | (simp at a3 ⊢; omega) | rfl | simp))), rfl⟩⟩
        · -- false
          exact ⟨[false], .inr ⟨[X.length = (mrgM A B).snd.fst.length ∧ (fun i => (X.getD i Con.zero).rvs) = fun i => ((mrgM A B).snd.fst.getD i Con.zero).rvs, Y.length = (mrgM A B).snd.snd.length ∧ (fun i => (Y.getD i Con.zero).rvs) = fun i => ((mrgM A B).snd.snd.getD i Con.zero).rvs, l.length + (1 : Nat) = (mrgM A B).fst.length, c :: l = (mrgM A B).fst, Dec (decide ((↑X.length : Int) > (0 : Int))) false], by kernel_rfl, (by refine ⟨?_, ?_, ?_, ?_, d1⟩ <;> (first | rfl | exact ⟨rfl, rfl⟩ | ((try simp only [tn0, decide_eq_true_eq, decide_eq_false_iff_not, View.num, beq_iff_eq, beq_eq_false_iff_ne, ne_eq] at *) <;> first | omega | exact tail_row X (by omega) | exact tail_row Y (by omega) | exact ⟨ok_at (by omega) a1, ok_at (by omega) a2⟩ | (rw [← mrgI_end hI (by omega)]; done) | (rw [← mrgI_end hI (by omega)]; first | rfl | exact ⟨rfl, rfl⟩) | (simp at a3 ⊢; omega) | rfl | simp))), rfl⟩⟩
end Go.Proofs.YtbjfdfjmclggkaaGreatDoor.S

/- symbol.Sum and quadformref26.Sum. -/
set_option linter.unusedSimpArgs false
set_option linter.unusedVariables false
namespace Go.Proofs.YtbjfdfjmclggkaaGreatDoor.S
open Go.QfSy Go.RowKit

noncomputable abbrev vSS (p : Int) (L : List Con) : Bool := Q.vS p (L.map toQ)
theorem consR_ro' {n : Nat} {L : List Con} (h : n = L.length) : consR n (fun i => (L.getD i Con.zero).rvs) = L := by subst h; exact consR_ro L
theorem vL_all : ∀ {L : List Con} {s last : Int}, 0 ≤ s → Q.vL (L.map toQ) s last = true → (∀ c ∈ L, evenOk c) ∧ (L.length : Int) + s ≤ 8 + (if L = [] then s else 0)
  | [], s, last, _, _ => by simp; omega
  | c :: l, s, last, hs, h => by
    simp only [List.map_cons, Q.vL, Q.vc, Bool.and_eq_true, decide_eq_true_eq] at h
    obtain ⟨⟨h1, h2, h3, h4, h5, h6, h7⟩, h8⟩ := h
    simp only [toQ] at h1 h2 h3 h4 h5 h6 h7 h8
    have ih := vL_all (L := l) (by omega) h8
    refine ⟨?_, ?_⟩
    · intro x hx
      rcases List.mem_cons.1 hx with rfl | hx
      · exact ⟨⟨⟨by omega, by omega⟩, h5, by omega, by omega⟩, h6, h7⟩
      · exact ih.1 x hx
    · have := ih.2
      cases l with
      | nil => simp; omega
      | cons d l => simp at this ⊢; omega
theorem vSS_ok {p : Int} {L : List Con} (h : vSS p L = true) : (∀ c ∈ L, evenOk c) ∧ 0 < L.length ∧ L.length ≤ 8 := by
  unfold vSS Q.vS at h
  simp only [Bool.and_eq_true] at h
  have h1 := vL_all (L := L) (by decide) h.2
  cases L with
  | nil => simp at h
  | cons c l => exact ⟨h1.1, by simp, by have := h1.2; simp at this ⊢; omega⟩
theorem mrgM_pos {A B : List Con} (hA : 0 < A.length) (hB : 0 < B.length) : 0 < (mrgM A B).1.length := by
  cases A with
  | nil => simp at hA
  | cons a A => cases B with
    | nil => simp at hB
    | cons b B =>
      rw [mrgM]
      split
      · simp
      · split <;> simp
theorem addM_pos {A B : List Con} (hA : 0 < A.length) : 0 < (addM A B).length := by
  cases A with
  | nil => simp at hA
  | cons a A => cases B with
    | nil => rw [addM]; simp
    | cons b B =>
      rw [addM]
      split
      · simp
      · split <;> simp

noncomputable def entsV : List OEnt := [
  ⟨10, [offT], fun A => match A with
    | [.agg [.int .i64 p, .sl n 5 row]] => some (.bool (vSS p (consR n row)), [(∀ i, i < n → row i = (Con.ofR (row i)).rvs) ∧ n ≤ 1000])
    | _ => none⟩]
theorem entsV_ok : ∀ e ∈ entsV, EntOk Tryz.prog e := by
  intro e he
  simp only [entsV, List.mem_cons, List.not_mem_nil, or_false] at he
  subst he
  intro A R ms h hm
  simp only at h
  split at h
  · cases h
    obtain ⟨h1, h2⟩ := all_one hm
    refine (valid_pure _ _ (by simpa [consR] using h2)).args (fun F Args hr => ?_)
    cases hr with | cons h0 hr => cases hr; cases h0 with | agg h0 => cases h0 with | cons h3 h0 => cases h0 with | cons h4 h0 =>
    cases h0
    exact .cons (.agg (.cons h3 (.cons (roC_ro h1 h4) .nil))) .nil
  · cases h

def errV : RV := .tup [.agg [.int .i64 0, roC []], .int .i64 22]
noncomputable def sumV (p : Int) (A B : List Con) : RV := .tup [.agg [.int .i64 p, roC (addM A B)], .int .i64 0]

end Go.Proofs.YtbjfdfjmclggkaaGreatDoor.S

/- Plain: sums of lists of constituents: commutative, associative, valid; excesses add up. -/
set_option linter.unusedSimpArgs false
set_option linter.unusedVariables false
namespace Go.Proofs.YtbjfdfjmclggkaaGreatDoor.S
open Go.QfSy Go.RowKit

theorem addM_lt {a b : Con} {A B : List Con} (h : a.exp < b.exp) : addM (a :: A) (b :: B) = a :: addM A (b :: B) := by rw [addM, if_pos h]
theorem addM_gt {a b : Con} {A B : List Con} (h : b.exp < a.exp) : addM (a :: A) (b :: B) = b :: addM (a :: A) B := by rw [addM, if_neg (by omega), if_pos h]
theorem addM_eq {a b : Con} {A B : List Con} (h : a.exp = b.exp) : addM (a :: A) (b :: B) = joinM a b :: addM A B := by rw [addM, if_neg (by omega), if_neg (by omega)]
theorem addM_nil1 (B : List Con) : addM [] B = B := by rw [addM]
theorem join_comm {a b : Con} (h : a.exp = b.exp) : joinM a b = joinM b a := by
  unfold joinM
  rw [h, Int.add_comm a.dim, Int.mul_comm a.sign, Bool.or_comm a.odd, Int.add_comm a.oddity]
theorem addM_comm : ∀ (A B : List Con), addM A B = addM B A
  | [], B => by rw [addM_nil1, addM_nil]
  | a :: A, [] => by rw [addM_nil1, addM_nil]
  | a :: A, b :: B => by
    rcases Int.lt_trichotomy a.exp b.exp with h | h | h
    · rw [addM_lt h, addM_gt h, addM_comm A (b :: B)]
    · rw [addM_eq h, addM_eq h.symm, addM_comm A B, join_comm h]
    · rw [addM_gt h, addM_lt h, addM_comm (a :: A) B]
termination_by A B => A.length + B.length
theorem join_assoc (a b c : Con) : joinM (joinM a b) c = joinM a (joinM b c) := by
  unfold joinM
  simp only [Con.mk.injEq]
  refine ⟨trivial, Int.add_assoc _ _ _, Int.mul_assoc _ _ _, Bool.or_assoc _ _ _, ?_⟩
  omega
theorem addM_assoc : ∀ (A B C : List Con), addM (addM A B) C = addM A (addM B C)
  | [], B, C => by rw [addM_nil1, addM_nil1]
  | a :: A, [], C => by rw [addM_nil, addM_nil1]
  | a :: A, b :: B, [] => by rw [addM_nil, addM_nil]
  | a :: A, b :: B, c :: C => by
    rcases Int.lt_trichotomy a.exp b.exp with h | h | h
    · rw [addM_lt h]
      rcases Int.lt_trichotomy a.exp c.exp with k | k | k
      · rw [addM_lt k, addM_assoc A (b :: B) (c :: C)]
        rcases Int.lt_trichotomy b.exp c.exp with m | m | m
        · rw [addM_lt m, addM_lt h]
        · rw [addM_eq m, addM_lt (show a.exp < (joinM b c).exp from h)]
        · rw [addM_gt m, addM_lt k]
      · rw [addM_eq k, addM_gt (show c.exp < b.exp by omega), addM_eq k, addM_assoc A (b :: B) C]
      · rw [addM_gt k, ← addM_lt h, addM_assoc (a :: A) (b :: B) C, addM_gt (show c.exp < b.exp by omega), addM_gt k]
    · rw [addM_eq h]
      rcases Int.lt_trichotomy a.exp c.exp with k | k | k
      · rw [addM_lt (show (joinM a b).exp < c.exp from k), addM_lt (show b.exp < c.exp by omega), addM_eq h, addM_assoc A B (c :: C)]
      · rw [addM_eq (show (joinM a b).exp = c.exp from k), addM_eq (show b.exp = c.exp by omega), addM_eq (show a.exp = (joinM b c).exp from h), addM_assoc A B C, join_assoc]
      · rw [addM_gt (show c.exp < (joinM a b).exp from k), ← addM_eq h, addM_assoc (a :: A) (b :: B) C, addM_gt (show c.exp < b.exp by omega), addM_gt k]
    · rw [addM_gt h]
      rcases Int.lt_trichotomy b.exp c.exp with k | k | k
      · rw [addM_lt k, addM_lt k, addM_gt h, addM_assoc (a :: A) B (c :: C)]
      · rw [addM_eq k, addM_eq k, addM_gt (show (joinM b c).exp < a.exp from h), addM_assoc (a :: A) B C]
      · rw [addM_gt k, ← addM_gt h, addM_assoc (a :: A) (b :: B) C, addM_gt k, addM_gt (show c.exp < a.exp by omega)]
termination_by A B C => A.length + B.length + C.length

/- valid lists, part by part -/
def goodC (c : Con) : Prop := c.exp ≤ 60 ∧ 1 ≤ c.dim ∧ (c.sign = 1 ∨ c.sign = -1) ∧ c.odd = false ∧ c.oddity = 0
def ascL : List Con → Int → Prop
  | [], _ => True
  | c :: l, last => last < c.exp ∧ ascL l c.exp
theorem good_join {a b : Con} (ha : goodC a) (hb : goodC b) : goodC (joinM a b) := by
  obtain ⟨a1, a2, a3, a4, a5⟩ := ha
  obtain ⟨b1, b2, b3, b4, b5⟩ := hb
  refine ⟨a1, ?_, ?_, ?_, ?_⟩
  · show 1 ≤ a.dim + b.dim; omega
  · show a.sign * b.sign = 1 ∨ a.sign * b.sign = -1
    rcases a3 with h | h <;> rcases b3 with k | k <;> rw [h, k] <;> decide
  · show (a.odd || b.odd) = false; rw [a4, b4]; rfl
  · show (a.oddity + b.oddity) % 8 = 0; rw [a5, b5]; rfl
theorem good_add : ∀ {A B : List Con}, (∀ c ∈ A, goodC c) → (∀ c ∈ B, goodC c) → ∀ c ∈ addM A B, goodC c
  | [], B, hA, hB => by rw [addM_nil1]; exact hB
  | a :: A, [], hA, hB => by rw [addM_nil]; exact hA
  | a :: A, b :: B, hA, hB => by
    have ha := hA a (by simp)
    have hb := hB b (by simp)
    have hA' : ∀ c ∈ A, goodC c := fun c hc => hA c (by simp [hc])
    have hB' : ∀ c ∈ B, goodC c := fun c hc => hB c (by simp [hc])
    intro c hc
    rcases Int.lt_trichotomy a.exp b.exp with h | h | h
    · rw [addM_lt h] at hc
      rcases List.mem_cons.1 hc with e | hc
      · rw [e]; exact ha
      · exact good_add hA' hB c hc
    · rw [addM_eq h] at hc
      rcases List.mem_cons.1 hc with e | hc
      · rw [e]; exact good_join ha hb
      · exact good_add hA' hB' c hc
    · rw [addM_gt h] at hc
      rcases List.mem_cons.1 hc with e | hc
      · rw [e]; exact hb
      · exact good_add hA hB' c hc
termination_by A B => A.length + B.length
theorem asc_mono {L : List Con} {a b : Int} (h : a ≤ b) (hb : ascL L b) : ascL L a := by
  cases L with
  | nil => trivial
  | cons c l => exact ⟨by have := hb.1; omega, hb.2⟩
theorem asc_add : ∀ {A B : List Con} {l : Int}, ascL A l → ascL B l → ascL (addM A B) l
  | [], B, l, hA, hB => by rw [addM_nil1]; exact hB
  | a :: A, [], l, hA, hB => by rw [addM_nil]; exact hA
  | a :: A, b :: B, l, hA, hB => by
    obtain ⟨a1, a2⟩ := hA
    obtain ⟨b1, b2⟩ := hB
    rcases Int.lt_trichotomy a.exp b.exp with h | h | h
    · rw [addM_lt h]; exact ⟨a1, asc_add a2 ⟨h, b2⟩⟩
    · rw [addM_eq h]; exact ⟨a1, asc_add a2 (by rw [show (joinM a b).exp = a.exp from rfl, h]; exact b2)⟩
    · rw [addM_gt h]; exact ⟨b1, asc_add ⟨h, a2⟩ b2⟩
termination_by A B => A.length + B.length
theorem dim_add : ∀ (A B : List Con), dimS (addM A B) = dimS A + dimS B
  | [], B => by rw [addM_nil1]; simp [dimS]
  | a :: A, [] => by rw [addM_nil]; simp [dimS]
  | a :: A, b :: B => by
    rcases Int.lt_trichotomy a.exp b.exp with h | h | h
    · rw [addM_lt h]; simp only [dimS, dim_add A (b :: B)]; omega
    · rw [addM_eq h]; simp only [dimS, dim_add A B]; show (a.dim + b.dim) + _ = _; omega
    · rw [addM_gt h]; simp only [dimS, dim_add (a :: A) B]; omega
termination_by A B => A.length + B.length
theorem vL_of : ∀ {L : List Con} {l s : Int}, ascL L l → (∀ c ∈ L, goodC c) → s + dimS L ≤ 8 → Q.vL (L.map toQ) s l = true
  | [], l, s, _, _, _ => rfl
  | c :: L, l, s, h1, h2, h3 => by
    obtain ⟨g1, g2, g3, g4, g5⟩ := h2 c (by simp)
    have h4 : ∀ x ∈ L, goodC x := fun x hx => h2 x (by simp [hx])
    have h5 : 0 ≤ dimS L := (dimS_nonneg (fun x hx => (h4 x hx).2.1)).1
    simp only [dimS] at h3
    simp only [List.map_cons, Q.vL, Q.vc, Bool.and_eq_true, decide_eq_true_eq]
    refine ⟨⟨h1.1, g1, g2, ?_, g3, g4, g5⟩, vL_of (l := c.exp) (s := s + c.dim) h1.2 h4 (by omega)⟩
    show c.dim ≤ 8 - s
    omega
theorem vL_parts : ∀ {L : List Con} {l s : Int}, Q.vL (L.map toQ) s l = true → ascL L l ∧ ∀ c ∈ L, goodC c
  | [], l, s, _ => ⟨trivial, fun c hc => by simp at hc⟩
  | c :: L, l, s, h => by
    simp only [List.map_cons, Q.vL, Q.vc, Bool.and_eq_true, decide_eq_true_eq] at h
    obtain ⟨⟨g1, g2, g3, g4, g5, g6, g7⟩, h⟩ := h
    have ih := vL_parts (L := L) (l := c.exp) h
    refine ⟨⟨g1, ih.1⟩, fun x hx => ?_⟩
    rcases List.mem_cons.1 hx with e | hx
    · rw [e]; exact ⟨g2, g3, g5, g6, g7⟩
    · exact ih.2 x hx
theorem vSS_add {p : Int} {A B : List Con} (hA : vSS p A = true) (hB : vSS p B = true) (hd : dimS A + dimS B ≤ 8) : vSS p (addM A B) = true := by
  have ha := Q.vS_parts hA
  have hb := Q.vS_parts hB
  obtain ⟨a1, a2⟩ := vL_parts ha.2.2.2.2
  obtain ⟨b1, b2⟩ := vL_parts hb.2.2.2.2
  have hv := vL_of (s := 0) (asc_add a1 b1) (good_add a2 b2) (by rw [dim_add]; omega)
  have hne : ((addM A B).map toQ).isEmpty = false := by
    have := addM_pos (B := B) (vSS_ok hA).2.1
    cases h : addM A B with
    | nil => rw [h] at this; simp at this
    | cons a l => rfl
  unfold vSS Q.vS
  simp [ha.1, ha.2.1, ha.2.2.1, hne, hv]

/- excesses -/
theorem four_join {a b : Con} (ha : a.sign = 1 ∨ a.sign = -1) (hb : b.sign = 1 ∨ b.sign = -1) (h : a.exp = b.exp) : (Q.four (toQ (joinM a b)) - (Q.four (toQ a) + Q.four (toQ b))) % 8 = 0 := by
  unfold Q.four
  show ((if a.exp % 2 = 1 ∧ a.sign * b.sign = -1 then (4 : Int) else 0) - ((if a.exp % 2 = 1 ∧ a.sign = -1 then (4 : Int) else 0) + (if b.exp % 2 = 1 ∧ b.sign = -1 then (4 : Int) else 0))) % 8 = 0
  rw [← h]
  by_cases h1 : a.exp % 2 = 1
  · rcases ha with k | k <;> rcases hb with m | m <;> rw [k, m] <;> simp [h1]
  · simp [h1]
theorem ex_add {p : Int} : ∀ {A B : List Con}, (∀ c ∈ A, goodC c) → (∀ c ∈ B, goodC c) → (Q.ex1 p ((addM A B).map toQ) - (Q.ex1 p (A.map toQ) + Q.ex1 p (B.map toQ))) % 8 = 0
  | [], B, hA, hB => by rw [addM_nil1]; simp [Q.ex1]
  | a :: A, [], hA, hB => by rw [addM_nil]; simp [Q.ex1]
  | a :: A, b :: B, hA, hB => by
    have ha := hA a (by simp)
    have hb := hB b (by simp)
    have hA' : ∀ c ∈ A, goodC c := fun c hc => hA c (by simp [hc])
    have hB' : ∀ c ∈ B, goodC c := fun c hc => hB c (by simp [hc])
    rcases Int.lt_trichotomy a.exp b.exp with h | h | h
    · have ih := ex_add (p := p) hA' hB
      rw [addM_lt h]
      simp only [List.map_cons, Q.ex1] at ih ⊢
      omega
    · have ih := ex_add (p := p) hA' hB'
      have hf := four_join ha.2.2.1 hb.2.2.1 h
      rw [addM_eq h]
      simp only [List.map_cons, Q.ex1] at ih ⊢
      have e1 : (toQ (joinM a b)).dim * (Q.pw p (toQ (joinM a b)).exp - 1) = (toQ a).dim * (Q.pw p (toQ a).exp - 1) + (toQ b).dim * (Q.pw p (toQ b).exp - 1) := by
        show (a.dim + b.dim) * (Q.pw p a.exp - 1) = a.dim * (Q.pw p a.exp - 1) + b.dim * (Q.pw p b.exp - 1)
        rw [← h, Int.add_mul]
      rw [e1]
      omega
    · have ih := ex_add (p := p) hA hB'
      rw [addM_gt h]
      simp only [List.map_cons, Q.ex1] at ih ⊢
      omega
termination_by A B => A.length + B.length
theorem ex_sum {p : Int} {A B : List Con} (hA : vSS p A = true) (hB : vSS p B = true) : (Q.ex1 p (A.map toQ) % 8 + Q.ex1 p (B.map toQ) % 8) % 8 = Q.ex1 p ((addM A B).map toQ) % 8 := by
  have := ex_add (p := p) (vL_parts (Q.vS_parts hA).2.2.2.2).2 (vL_parts (Q.vS_parts hB).2.2.2.2).2
  omega
end Go.Proofs.YtbjfdfjmclggkaaGreatDoor.S

/- symbol.Sum. -/
set_option linter.unusedSimpArgs false
set_option linter.unusedVariables false
namespace Go.Proofs.YtbjfdfjmclggkaaGreatDoor.S
open Go.QfSy Go.RowKit

theorem mrg_all (A B : List Con) : (mrgM A B).1 ++ (mrgM A B).2.1 ++ (mrgM A B).2.2 = addM A B := mrgM_eq A B
theorem mrg_len (A B : List Con) : (mrgM A B).1.length + (mrgM A B).2.1.length + (mrgM A B).2.2.length = (addM A B).length := by
  rw [← mrgM_eq A B]; simp [Nat.add_assoc]
theorem mrg_ro (A B : List Con) : consR ((mrgM A B).1.length + (mrgM A B).2.1.length + (mrgM A B).2.2.length) (fun i => ((addM A B).getD i Con.zero).rvs) = addM A B := consR_ro' (mrg_len A B)

set_option maxRecDepth 100000 in
theorem merge_pure (A B : List Con) (hA : ∀ c ∈ A, evenOk c) (hB : ∀ c ∈ B, evenOk c) (hne : 0 < (mrgM A B).1.length) (hnA : A.length ≤ 1000) (hnB : B.length ≤ 1000) : PureX Tryz.prog [] 28 [29, 31] [roC A, roC B] (roC (addM A B)) := by
  have c1 := addM_len A B; have c2 := mrg_len A B
  exact pureX_run evOk (callF_ok evOk (orcOf_ok entsM_ok) 8) Tryz.func28 (A := [roC A, roC B]) (gs := [29, 31]) (N := Nat.max 4 Tryz.f28.ntmps) rfl (one_ann (mrg_loop A B hA hB hne hnA hnB)) rfl rfl evNg (tp := []) (ms := [(mrgM A B).fst.length + (mrgM A B).snd.fst.length + (mrgM A B).snd.snd.length = (addM A B).length ∧ (mrgM A B).fst.length + (mrgM A B).snd.fst.length + (mrgM A B).snd.snd.length = (((mrgM A B).fst ++ consR (mrgM A B).snd.fst.length fun i => ((mrgM A B).snd.fst.getD i Con.zero).rvs) ++ consR (mrgM A B).snd.snd.length fun i => ((mrgM A B).snd.snd.getD i Con.zero).rvs).length ∧ ∀ (i : Nat), i < (mrgM A B).fst.length + (mrgM A B).snd.fst.length + (mrgM A B).snd.snd.length → (fun i => ((addM A B).getD i Con.zero).rvs) i = ((((mrgM A B).fst ++ consR (mrgM A B).snd.fst.length fun i => ((mrgM A B).snd.fst.getD i Con.zero).rvs) ++ consR (mrgM A B).snd.snd.length fun i => ((mrgM A B).snd.snd.getD i Con.zero).rvs).getD i Con.zero).rvs, (View.con ((mrgM A B).fst ++ consR (mrgM A B).snd.fst.length fun i => ((mrgM A B).snd.fst.getD i Con.zero).rvs)).num = (mrgM A B).fst.length + (mrgM A B).snd.fst.length ∧ (mrgM A B).fst.length + (mrgM A B).snd.fst.length + (mrgM A B).snd.snd.length ≤ (1000000 : Nat), ∀ (i : Nat), i < (mrgM A B).snd.snd.length → (fun i => ((mrgM A B).snd.snd.getD i Con.zero).rvs) i = (Con.ofR ((fun i => ((mrgM A B).snd.snd.getD i Con.zero).rvs) i)).rvs, (View.con (mrgM A B).fst).num = (mrgM A B).fst.length ∧ (mrgM A B).fst.length + (mrgM A B).snd.fst.length ≤ (1000000 : Nat), ∀ (i : Nat), i < (mrgM A B).snd.fst.length → (fun i => ((mrgM A B).snd.fst.getD i Con.zero).rvs) i = (Con.ofR ((fun i => ((mrgM A B).snd.fst.getD i Con.zero).rvs) i)).rvs, A.length = A.length ∧ (fun i => (A.getD i Con.zero).rvs) = fun i => (A.getD i Con.zero).rvs, B.length = B.length ∧ (fun i => (B.getD i Con.zero).rvs) = fun i => (B.getD i Con.zero).rvs]) (by kernel_rfl) (by refine ⟨?_, ?_, ?_, ?_, ?_, ?_, (?_ : B.length = B.length ∧ (fun i => (B.getD i Con.zero).rvs) = fun i => (B.getD i Con.zero).rvs)⟩ <;> (first | rfl | exact ⟨rfl, rfl⟩ | exact ⟨rfl, rfl, fun i _ => rfl⟩ | exact fun _ _ => rfl | (simp only [consR_ro, mrg_all, View.num] at *; first | rfl | omega | exact ⟨rfl, by omega⟩ | exact ⟨by simp, by omega⟩ | exact ⟨c2, c2, fun i _ => rfl⟩ | exact ⟨rfl, rfl, fun i _ => rfl⟩ | exact fun _ _ => rfl | (simp; omega))))

noncomputable def goM : List RV → Option (RV × List Prop) := fun A => match A with
  | [.sl n 5 row, .sl m 5 row'] => some (roC (addM (consR n row) (consR m row')), [(∀ i, i < n → row i = (Con.ofR (row i)).rvs) ∧ (∀ i, i < m → row' i = (Con.ofR (row' i)).rvs) ∧ (∀ c ∈ consR n row, evenOk c) ∧ (∀ c ∈ consR m row', evenOk c) ∧ 0 < (consR n row).length ∧ 0 < (consR m row').length ∧ n ≤ 1000 ∧ m ≤ 1000])
  | _ => none
theorem goM_ok : ∀ A R ms, goM A = some (R, ms) → (∀ p ∈ ms, p) → PureX Tryz.prog [] 28 [29, 31] A R := by
  intro A R ms h hm
  unfold goM at h
  split at h
  · cases h
    obtain ⟨h1, h2, h3, h4, h5, h5', h6, h7⟩ := all_one hm
    obtain ⟨hf, hp⟩ := merge_pure _ _ h3 h4 (mrgM_pos h5 h5') (by simpa [consR] using h6) (by simpa [consR] using h7)
    refine ⟨hf, fun w F Args ht hF hr => hp w F Args ht hF ?_⟩
    cases hr with | cons k0 hr => cases hr with | cons k1 hr =>
    cases hr
    exact .cons (roC_ro h1 k0) (.cons (roC_ro h2 k1) .nil)
  · cases h
noncomputable def orcS : CallF := orcX EV.ng 28 2 [29, 31] [] goM (orcOf EV.ng entsV)
theorem orcS_ok : CallOk Tryz.prog EV.ng orcS := orcX_ok goM_ok (orcOf_ok entsV_ok)

set_option maxRecDepth 100000 in
theorem sum_yes (p : Int) (A B : List Con) (hA : vSS p A = true) (hB : vSS p B = true) (hS : vSS p (addM A B) = true) : PureC Tryz.prog [offT] 13 [.agg [.int .i64 p, roC A], .agg [.int .i64 p, roC B]] (.tup [.agg [.int .i64 p, roC (addM A B)], .int .i64 0]) := by
  obtain ⟨a1, a2, a3⟩ := vSS_ok hA; obtain ⟨b1, b2, b3⟩ := vSS_ok hB; have c1 := addM_len A B
  rcases Bool.eq_false_or_eq_true (vSS p (consR A.length fun i => (A.getD i Con.zero).rvs)) with d1 | d1
  · -- true
    rcases Bool.eq_false_or_eq_true (vSS p (consR B.length fun i => (B.getD i Con.zero).rvs)) with d2 | d2
    · -- true
      rcases Bool.eq_false_or_eq_true (p == p) with d3 | d3
      · -- true
        rcases Bool.eq_false_or_eq_true (vSS p (consR (addM (consR A.length fun i => (A.getD i Con.zero).rvs) (consR B.length fun i => (B.getD i Con.zero).rvs)).length fun i => ((addM (consR A.length fun i => (A.getD i Con.zero).rvs) (consR B.length fun i => (B.getD i Con.zero).rvs)).getD i Con.zero).rvs)) with d4 | d4
        · -- true
          exact pure_run evOk (callF_ok evOk orcS_ok 8) Tryz.func13 rfl none_ann rfl rfl evNg (tp := [false, false, false, false]) (ms := [p = p, (addM (consR A.length fun i => (A.getD i Con.zero).rvs) (consR B.length fun i => (B.getD i Con.zero).rvs)).length = (addM A B).length ∧ (fun i => ((addM (consR A.length fun i => (A.getD i Con.zero).rvs) (consR B.length fun i => (B.getD i Con.zero).rvs)).getD i Con.zero).rvs) = fun i => ((addM A B).getD i Con.zero).rvs, (0 : Int) = (0 : Int), Dec (!vSS p (consR (addM (consR A.length fun i => (A.getD i Con.zero).rvs) (consR B.length fun i => (B.getD i Con.zero).rvs)).length fun i => ((addM (consR A.length fun i => (A.getD i Con.zero).rvs) (consR B.length fun i => (B.getD i Con.zero).rvs)).getD i Con.zero).rvs)) false, (∀ (i : Nat), i < (addM (consR A.length fun i => (A.getD i Con.zero).rvs) (consR B.length fun i => (B.getD i Con.zero).rvs)).length → (fun i => ((addM (consR A.length fun i => (A.getD i Con.zero).rvs) (consR B.length fun i => (B.getD i Con.zero).rvs)).getD i Con.zero).rvs) i = (Con.ofR ((fun i => ((addM (consR A.length fun i => (A.getD i Con.zero).rvs) (consR B.length fun i => (B.getD i Con.zero).rvs)).getD i Con.zero).rvs) i)).rvs) ∧ (addM (consR A.length fun i => (A.getD i Con.zero).rvs) (consR B.length fun i => (B.getD i Con.zero).rvs)).length ≤ (1000 : Nat), (∀ (i : Nat), i < A.length → (fun i => (A.getD i Con.zero).rvs) i = (Con.ofR ((fun i => (A.getD i Con.zero).rvs) i)).rvs) ∧ (∀ (i : Nat), i < B.length → (fun i => (B.getD i Con.zero).rvs) i = (Con.ofR ((fun i => (B.getD i Con.zero).rvs) i)).rvs) ∧ (∀ (c : Con), (c ∈ consR A.length fun i => (A.getD i Con.zero).rvs) → evenOk c) ∧ (∀ (c : Con), (c ∈ consR B.length fun i => (B.getD i Con.zero).rvs) → evenOk c) ∧ (0 : Nat) < (consR A.length fun i => (A.getD i Con.zero).rvs).length ∧ (0 : Nat) < (consR B.length fun i => (B.getD i Con.zero).rvs).length ∧ A.length ≤ (1000 : Nat) ∧ B.length ≤ (1000 : Nat), Dec (p != p) false, Dec (!vSS p (consR B.length fun i => (B.getD i Con.zero).rvs)) false, (∀ (i : Nat), i < B.length → (fun i => (B.getD i Con.zero).rvs) i = (Con.ofR ((fun i => (B.getD i Con.zero).rvs) i)).rvs) ∧ B.length ≤ (1000 : Nat), Dec (!vSS p (consR A.length fun i => (A.getD i Con.zero).rvs)) false, (∀ (i : Nat), i < A.length → (fun i => (A.getD i Con.zero).rvs) i = (Con.ofR ((fun i => (A.getD i Con.zero).rvs) i)).rvs) ∧ A.length ≤ (1000 : Nat)]) (by kernel_rfl) (by refine ⟨?_, ?_, ?_, (dN d4), ?_, ?_, (dN d3), (dN d2), ?_, (dN d1), (?_ : (∀ (i : Nat), i < A.length → (fun i => (A.getD i Con.zero).rvs) i = (Con.ofR ((fun i => (A.getD i Con.zero).rvs) i)).rvs) ∧ A.length ≤ (1000 : Nat))⟩ <;> (first | rfl | exact ⟨rfl, rfl⟩ | exact ⟨rfl, rfl, fun i _ => rfl⟩ | exact ⟨fun _ _ => rfl, by omega⟩ | (simp only [consR_ro] at *; first | rfl | exact ⟨rfl, rfl⟩ | exact ⟨rfl, rfl, fun i _ => rfl⟩ | exact ⟨fun _ _ => rfl, by omega⟩ | exact ⟨fun _ _ => rfl, fun _ _ => rfl, a1, b1, a2, b2, by omega, by omega⟩ | (exfalso; simp_all; done) | (simp_all; done))))
        · -- false
          exact pure_run evOk (callF_ok evOk orcS_ok 8) Tryz.func13 rfl none_ann rfl rfl evNg (tp := [false, false, false, true]) (ms := [(0 : Int) = p, (addM A B).length = (0 : Nat), (22 : Int) = (0 : Int), Dec (!vSS p (consR (addM (consR A.length fun i => (A.getD i Con.zero).rvs) (consR B.length fun i => (B.getD i Con.zero).rvs)).length fun i => ((addM (consR A.length fun i => (A.getD i Con.zero).rvs) (consR B.length fun i => (B.getD i Con.zero).rvs)).getD i Con.zero).rvs)) true, (∀ (i : Nat), i < (addM (consR A.length fun i => (A.getD i Con.zero).rvs) (consR B.length fun i => (B.getD i Con.zero).rvs)).length → (fun i => ((addM (consR A.length fun i => (A.getD i Con.zero).rvs) (consR B.length fun i => (B.getD i Con.zero).rvs)).getD i Con.zero).rvs) i = (Con.ofR ((fun i => ((addM (consR A.length fun i => (A.getD i Con.zero).rvs) (consR B.length fun i => (B.getD i Con.zero).rvs)).getD i Con.zero).rvs) i)).rvs) ∧ (addM (consR A.length fun i => (A.getD i Con.zero).rvs) (consR B.length fun i => (B.getD i Con.zero).rvs)).length ≤ (1000 : Nat), (∀ (i : Nat), i < A.length → (fun i => (A.getD i Con.zero).rvs) i = (Con.ofR ((fun i => (A.getD i Con.zero).rvs) i)).rvs) ∧ (∀ (i : Nat), i < B.length → (fun i => (B.getD i Con.zero).rvs) i = (Con.ofR ((fun i => (B.getD i Con.zero).rvs) i)).rvs) ∧ (∀ (c : Con), (c ∈ consR A.length fun i => (A.getD i Con.zero).rvs) → evenOk c) ∧ (∀ (c : Con), (c ∈ consR B.length fun i => (B.getD i Con.zero).rvs) → evenOk c) ∧ (0 : Nat) < (consR A.length fun i => (A.getD i Con.zero).rvs).length ∧ (0 : Nat) < (consR B.length fun i => (B.getD i Con.zero).rvs).length ∧ A.length ≤ (1000 : Nat) ∧ B.length ≤ (1000 : Nat), Dec (p != p) false, Dec (!vSS p (consR B.length fun i => (B.getD i Con.zero).rvs)) false, (∀ (i : Nat), i < B.length → (fun i => (B.getD i Con.zero).rvs) i = (Con.ofR ((fun i => (B.getD i Con.zero).rvs) i)).rvs) ∧ B.length ≤ (1000 : Nat), Dec (!vSS p (consR A.length fun i => (A.getD i Con.zero).rvs)) false, (∀ (i : Nat), i < A.length → (fun i => (A.getD i Con.zero).rvs) i = (Con.ofR ((fun i => (A.getD i Con.zero).rvs) i)).rvs) ∧ A.length ≤ (1000 : Nat)]) (by kernel_rfl) (by refine ⟨?_, ?_, ?_, (dN d4), ?_, ?_, (dN d3), (dN d2), ?_, (dN d1), (?_ : (∀ (i : Nat), i < A.length → (fun i => (A.getD i Con.zero).rvs) i = (Con.ofR ((fun i => (A.getD i Con.zero).rvs) i)).rvs) ∧ A.length ≤ (1000 : Nat))⟩ <;> (first | rfl | exact ⟨rfl, rfl⟩ | exact ⟨rfl, rfl, fun i _ => rfl⟩ | exact ⟨fun _ _ => rfl, by omega⟩ | (simp only [consR_ro] at *; first | rfl | exact ⟨rfl, rfl⟩ | exact ⟨rfl, rfl, fun i _ => rfl⟩ | exact ⟨fun _ _ => rfl, by omega⟩ | exact ⟨fun _ _ => rfl, fun _ _ => rfl, a1, b1, a2, b2, by omega, by omega⟩ | (exfalso; simp_all; done) | (simp_all; done))))
      · -- false
        exact pure_run evOk (callF_ok evOk orcS_ok 8) Tryz.func13 rfl none_ann rfl rfl evNg (tp := [false, false, true]) (ms := [(0 : Int) = p, (addM A B).length = (0 : Nat), (22 : Int) = (0 : Int), Dec (p != p) true, Dec (!vSS p (consR B.length fun i => (B.getD i Con.zero).rvs)) false, (∀ (i : Nat), i < B.length → (fun i => (B.getD i Con.zero).rvs) i = (Con.ofR ((fun i => (B.getD i Con.zero).rvs) i)).rvs) ∧ B.length ≤ (1000 : Nat), Dec (!vSS p (consR A.length fun i => (A.getD i Con.zero).rvs)) false, (∀ (i : Nat), i < A.length → (fun i => (A.getD i Con.zero).rvs) i = (Con.ofR ((fun i => (A.getD i Con.zero).rvs) i)).rvs) ∧ A.length ≤ (1000 : Nat)]) (by kernel_rfl) (by refine ⟨?_, ?_, ?_, (dN d3), (dN d2), ?_, (dN d1), (?_ : (∀ (i : Nat), i < A.length → (fun i => (A.getD i Con.zero).rvs) i = (Con.ofR ((fun i => (A.getD i Con.zero).rvs) i)).rvs) ∧ A.length ≤ (1000 : Nat))⟩ <;> (first | rfl | exact ⟨rfl, rfl⟩ | exact ⟨rfl, rfl, fun i _ => rfl⟩ | exact ⟨fun _ _ => rfl, by omega⟩ | (simp only [consR_ro] at *; first | rfl | exact ⟨rfl, rfl⟩ | exact ⟨rfl, rfl, fun i _ => rfl⟩ | exact ⟨fun _ _ => rfl, by omega⟩ | exact ⟨fun _ _ => rfl, fun _ _ => rfl, a1, b1, a2, b2, by omega, by omega⟩ | (exfalso; simp_all; done) | (simp_all; done))))
    · -- false
      exact pure_run evOk (callF_ok evOk orcS_ok 8) Tryz.func13 rfl none_ann rfl rfl evNg (tp := [false, true]) (ms := [(0 : Int) = p, (addM A B).length = (0 : Nat), (22 : Int) = (0 : Int), Dec (!vSS p (consR B.length fun i => (B.getD i Con.zero).rvs)) true, (∀ (i : Nat), i < B.length → (fun i => (B.getD i Con.zero).rvs) i = (Con.ofR ((fun i => (B.getD i Con.zero).rvs) i)).rvs) ∧ B.length ≤ (1000 : Nat), Dec (!vSS p (consR A.length fun i => (A.getD i Con.zero).rvs)) false, (∀ (i : Nat), i < A.length → (fun i => (A.getD i Con.zero).rvs) i = (Con.ofR ((fun i => (A.getD i Con.zero).rvs) i)).rvs) ∧ A.length ≤ (1000 : Nat)]) (by kernel_rfl) (by refine ⟨?_, ?_, ?_, (dN d2), ?_, (dN d1), (?_ : (∀ (i : Nat), i < A.length → (fun i => (A.getD i Con.zero).rvs) i = (Con.ofR ((fun i => (A.getD i Con.zero).rvs) i)).rvs) ∧ A.length ≤ (1000 : Nat))⟩ <;> (first | rfl | exact ⟨rfl, rfl⟩ | exact ⟨rfl, rfl, fun i _ => rfl⟩ | exact ⟨fun _ _ => rfl, by omega⟩ | (simp only [consR_ro] at *; first | rfl | exact ⟨rfl, rfl⟩ | exact ⟨rfl, rfl, fun i _ => rfl⟩ | exact ⟨fun _ _ => rfl, by omega⟩ | exact ⟨fun _ _ => rfl, fun _ _ => rfl, a1, b1, a2, b2, by omega, by omega⟩ | (exfalso; simp_all; done) | (simp_all; done))))
  · -- false
    exact pure_run evOk (callF_ok evOk orcS_ok 8) Tryz.func13 rfl none_ann rfl rfl evNg (tp := [true]) (ms := [(0 : Int) = p, (addM A B).length = (0 : Nat), (22 : Int) = (0 : Int), Dec (!vSS p (consR A.length fun i => (A.getD i Con.zero).rvs)) true, (∀ (i : Nat), i < A.length → (fun i => (A.getD i Con.zero).rvs) i = (Con.ofR ((fun i => (A.getD i Con.zero).rvs) i)).rvs) ∧ A.length ≤ (1000 : Nat)]) (by kernel_rfl) (by refine ⟨?_, ?_, ?_, (dN d1), (?_ : (∀ (i : Nat), i < A.length → (fun i => (A.getD i Con.zero).rvs) i = (Con.ofR ((fun i => (A.getD i Con.zero).rvs) i)).rvs) ∧ A.length ≤ (1000 : Nat))⟩ <;> (first | rfl | exact ⟨rfl, rfl⟩ | exact ⟨rfl, rfl, fun i _ => rfl⟩ | exact ⟨fun _ _ => rfl, by omega⟩ | (simp only [consR_ro] at *; first | rfl | exact ⟨rfl, rfl⟩ | exact ⟨rfl, rfl, fun i _ => rfl⟩ | exact ⟨fun _ _ => rfl, by omega⟩ | exact ⟨fun _ _ => rfl, fun _ _ => rfl, a1, b1, a2, b2, by omega, by omega⟩ | (exfalso; simp_all; done) | (simp_all; done))))
set_option maxRecDepth 100000 in
theorem sum_no (p q : Int) (A B : List Con) (hnA : A.length ≤ 500) (hnB : B.length ≤ 500) (hno : (vSS p A && vSS q B && (p == q) && vSS p (addM A B)) = false) : PureC Tryz.prog [offT] 13 [.agg [.int .i64 p, roC A], .agg [.int .i64 q, roC B]] (.tup [.agg [.int .i64 0, roC []], .int .i64 22]) := by
  have c1 := addM_len A B
  rcases Bool.eq_false_or_eq_true (vSS p (consR A.length fun i => (A.getD i Con.zero).rvs)) with d1 | d1
  · -- true
    rcases Bool.eq_false_or_eq_true (vSS q (consR B.length fun i => (B.getD i Con.zero).rvs)) with d2 | d2
    · -- true
      rcases Bool.eq_false_or_eq_true (p == q) with d3 | d3
      · -- true
        rcases Bool.eq_false_or_eq_true (vSS p (consR (addM (consR A.length fun i => (A.getD i Con.zero).rvs) (consR B.length fun i => (B.getD i Con.zero).rvs)).length fun i => ((addM (consR A.length fun i => (A.getD i Con.zero).rvs) (consR B.length fun i => (B.getD i Con.zero).rvs)).getD i Con.zero).rvs)) with d4 | d4
        · -- true
          exact pure_run evOk (callF_ok evOk orcS_ok 8) Tryz.func13 rfl none_ann rfl rfl evNg (tp := [false, false, false, false]) (ms := [p = (0 : Int), (addM (consR A.length fun i => (A.getD i Con.zero).rvs) (consR B.length fun i => (B.getD i Con.zero).rvs)).length = (0 : Nat) ∧ (fun i => ((addM (consR A.length fun i => (A.getD i Con.zero).rvs) (consR B.length fun i => (B.getD i Con.zero).rvs)).getD i Con.zero).rvs) = fun i => ([].getD i Con.zero).rvs, (0 : Int) = (22 : Int), Dec (!vSS p (consR (addM (consR A.length fun i => (A.getD i Con.zero).rvs) (consR B.length fun i => (B.getD i Con.zero).rvs)).length fun i => ((addM (consR A.length fun i => (A.getD i Con.zero).rvs) (consR B.length fun i => (B.getD i Con.zero).rvs)).getD i Con.zero).rvs)) false, (∀ (i : Nat), i < (addM (consR A.length fun i => (A.getD i Con.zero).rvs) (consR B.length fun i => (B.getD i Con.zero).rvs)).length → (fun i => ((addM (consR A.length fun i => (A.getD i Con.zero).rvs) (consR B.length fun i => (B.getD i Con.zero).rvs)).getD i Con.zero).rvs) i = (Con.ofR ((fun i => ((addM (consR A.length fun i => (A.getD i Con.zero).rvs) (consR B.length fun i => (B.getD i Con.zero).rvs)).getD i Con.zero).rvs) i)).rvs) ∧ (addM (consR A.length fun i => (A.getD i Con.zero).rvs) (consR B.length fun i => (B.getD i Con.zero).rvs)).length ≤ (1000 : Nat), (∀ (i : Nat), i < A.length → (fun i => (A.getD i Con.zero).rvs) i = (Con.ofR ((fun i => (A.getD i Con.zero).rvs) i)).rvs) ∧ (∀ (i : Nat), i < B.length → (fun i => (B.getD i Con.zero).rvs) i = (Con.ofR ((fun i => (B.getD i Con.zero).rvs) i)).rvs) ∧ (∀ (c : Con), (c ∈ consR A.length fun i => (A.getD i Con.zero).rvs) → evenOk c) ∧ (∀ (c : Con), (c ∈ consR B.length fun i => (B.getD i Con.zero).rvs) → evenOk c) ∧ (0 : Nat) < (consR A.length fun i => (A.getD i Con.zero).rvs).length ∧ (0 : Nat) < (consR B.length fun i => (B.getD i Con.zero).rvs).length ∧ A.length ≤ (1000 : Nat) ∧ B.length ≤ (1000 : Nat), Dec (p != q) false, Dec (!vSS q (consR B.length fun i => (B.getD i Con.zero).rvs)) false, (∀ (i : Nat), i < B.length → (fun i => (B.getD i Con.zero).rvs) i = (Con.ofR ((fun i => (B.getD i Con.zero).rvs) i)).rvs) ∧ B.length ≤ (1000 : Nat), Dec (!vSS p (consR A.length fun i => (A.getD i Con.zero).rvs)) false, (∀ (i : Nat), i < A.length → (fun i => (A.getD i Con.zero).rvs) i = (Con.ofR ((fun i => (A.getD i Con.zero).rvs) i)).rvs) ∧ A.length ≤ (1000 : Nat)]) (by kernel_rfl) (by refine ⟨?_, ?_, ?_, (dN d4), ?_, ?_, (dN d3), (dN d2), ?_, (dN d1), (?_ : (∀ (i : Nat), i < A.length → (fun i => (A.getD i Con.zero).rvs) i = (Con.ofR ((fun i => (A.getD i Con.zero).rvs) i)).rvs) ∧ A.length ≤ (1000 : Nat))⟩ <;> (first | rfl | exact ⟨rfl, rfl⟩ | exact ⟨rfl, rfl, fun i _ => rfl⟩ | exact ⟨fun _ _ => rfl, by omega⟩ | (simp only [consR_ro] at *; first | rfl | exact ⟨rfl, rfl⟩ | exact ⟨rfl, rfl, fun i _ => rfl⟩ | exact ⟨fun _ _ => rfl, by omega⟩ | exact ⟨rfl, fun i hi => absurd hi (Nat.not_lt_zero _)⟩ | exact ⟨fun _ _ => rfl, fun _ _ => rfl, (vSS_ok d1).1, (vSS_ok d2).1, (vSS_ok d1).2.1, (vSS_ok d2).2.1, by omega, by omega⟩ | (exfalso; simp_all; done) | (simp_all; done))))
        · -- false
          exact pure_run evOk (callF_ok evOk orcS_ok 8) Tryz.func13 rfl none_ann rfl rfl evNg (tp := [false, false, false, true]) (ms := [(0 : Int) = (0 : Int), (0 : Nat) = (0 : Nat), (22 : Int) = (22 : Int), Dec (!vSS p (consR (addM (consR A.length fun i => (A.getD i Con.zero).rvs) (consR B.length fun i => (B.getD i Con.zero).rvs)).length fun i => ((addM (consR A.length fun i => (A.getD i Con.zero).rvs) (consR B.length fun i => (B.getD i Con.zero).rvs)).getD i Con.zero).rvs)) true, (∀ (i : Nat), i < (addM (consR A.length fun i => (A.getD i Con.zero).rvs) (consR B.length fun i => (B.getD i Con.zero).rvs)).length → (fun i => ((addM (consR A.length fun i => (A.getD i Con.zero).rvs) (consR B.length fun i => (B.getD i Con.zero).rvs)).getD i Con.zero).rvs) i = (Con.ofR ((fun i => ((addM (consR A.length fun i => (A.getD i Con.zero).rvs) (consR B.length fun i => (B.getD i Con.zero).rvs)).getD i Con.zero).rvs) i)).rvs) ∧ (addM (consR A.length fun i => (A.getD i Con.zero).rvs) (consR B.length fun i => (B.getD i Con.zero).rvs)).length ≤ (1000 : Nat), (∀ (i : Nat), i < A.length → (fun i => (A.getD i Con.zero).rvs) i = (Con.ofR ((fun i => (A.getD i Con.zero).rvs) i)).rvs) ∧ (∀ (i : Nat), i < B.length → (fun i => (B.getD i Con.zero).rvs) i = (Con.ofR ((fun i => (B.getD i Con.zero).rvs) i)).rvs) ∧ (∀ (c : Con), (c ∈ consR A.length fun i => (A.getD i Con.zero).rvs) → evenOk c) ∧ (∀ (c : Con), (c ∈ consR B.length fun i => (B.getD i Con.zero).rvs) → evenOk c) ∧ (0 : Nat) < (consR A.length fun i => (A.getD i Con.zero).rvs).length ∧ (0 : Nat) < (consR B.length fun i => (B.getD i Con.zero).rvs).length ∧ A.length ≤ (1000 : Nat) ∧ B.length ≤ (1000 : Nat), Dec (p != q) false, Dec (!vSS q (consR B.length fun i => (B.getD i Con.zero).rvs)) false, (∀ (i : Nat), i < B.length → (fun i => (B.getD i Con.zero).rvs) i = (Con.ofR ((fun i => (B.getD i Con.zero).rvs) i)).rvs) ∧ B.length ≤ (1000 : Nat), Dec (!vSS p (consR A.length fun i => (A.getD i Con.zero).rvs)) false, (∀ (i : Nat), i < A.length → (fun i => (A.getD i Con.zero).rvs) i = (Con.ofR ((fun i => (A.getD i Con.zero).rvs) i)).rvs) ∧ A.length ≤ (1000 : Nat)]) (by kernel_rfl) (by refine ⟨?_, ?_, ?_, (dN d4), ?_, ?_, (dN d3), (dN d2), ?_, (dN d1), (?_ : (∀ (i : Nat), i < A.length → (fun i => (A.getD i Con.zero).rvs) i = (Con.ofR ((fun i => (A.getD i Con.zero).rvs) i)).rvs) ∧ A.length ≤ (1000 : Nat))⟩ <;> (first | rfl | exact ⟨rfl, rfl⟩ | exact ⟨rfl, rfl, fun i _ => rfl⟩ | exact ⟨fun _ _ => rfl, by omega⟩ | (simp only [consR_ro] at *; first | rfl | exact ⟨rfl, rfl⟩ | exact ⟨rfl, rfl, fun i _ => rfl⟩ | exact ⟨fun _ _ => rfl, by omega⟩ | exact ⟨rfl, fun i hi => absurd hi (Nat.not_lt_zero _)⟩ | exact ⟨fun _ _ => rfl, fun _ _ => rfl, (vSS_ok d1).1, (vSS_ok d2).1, (vSS_ok d1).2.1, (vSS_ok d2).2.1, by omega, by omega⟩ | (exfalso; simp_all; done) | (simp_all; done))))
      · -- false
        exact pure_run evOk (callF_ok evOk orcS_ok 8) Tryz.func13 rfl none_ann rfl rfl evNg (tp := [false, false, true]) (ms := [(0 : Int) = (0 : Int), (0 : Nat) = (0 : Nat), (22 : Int) = (22 : Int), Dec (p != q) true, Dec (!vSS q (consR B.length fun i => (B.getD i Con.zero).rvs)) false, (∀ (i : Nat), i < B.length → (fun i => (B.getD i Con.zero).rvs) i = (Con.ofR ((fun i => (B.getD i Con.zero).rvs) i)).rvs) ∧ B.length ≤ (1000 : Nat), Dec (!vSS p (consR A.length fun i => (A.getD i Con.zero).rvs)) false, (∀ (i : Nat), i < A.length → (fun i => (A.getD i Con.zero).rvs) i = (Con.ofR ((fun i => (A.getD i Con.zero).rvs) i)).rvs) ∧ A.length ≤ (1000 : Nat)]) (by kernel_rfl) (by refine ⟨?_, ?_, ?_, (dN d3), (dN d2), ?_, (dN d1), (?_ : (∀ (i : Nat), i < A.length → (fun i => (A.getD i Con.zero).rvs) i = (Con.ofR ((fun i => (A.getD i Con.zero).rvs) i)).rvs) ∧ A.length ≤ (1000 : Nat))⟩ <;> (first | rfl | exact ⟨rfl, rfl⟩ | exact ⟨rfl, rfl, fun i _ => rfl⟩ | exact ⟨fun _ _ => rfl, by omega⟩ | (simp only [consR_ro] at *; first | rfl | exact ⟨rfl, rfl⟩ | exact ⟨rfl, rfl, fun i _ => rfl⟩ | exact ⟨fun _ _ => rfl, by omega⟩ | exact ⟨rfl, fun i hi => absurd hi (Nat.not_lt_zero _)⟩ | exact ⟨fun _ _ => rfl, fun _ _ => rfl, (vSS_ok d1).1, (vSS_ok d2).1, (vSS_ok d1).2.1, (vSS_ok d2).2.1, by omega, by omega⟩ | (exfalso; simp_all; done) | (simp_all; done))))
    · -- false
      exact pure_run evOk (callF_ok evOk orcS_ok 8) Tryz.func13 rfl none_ann rfl rfl evNg (tp := [false, true]) (ms := [(0 : Int) = (0 : Int), (0 : Nat) = (0 : Nat), (22 : Int) = (22 : Int), Dec (!vSS q (consR B.length fun i => (B.getD i Con.zero).rvs)) true, (∀ (i : Nat), i < B.length → (fun i => (B.getD i Con.zero).rvs) i = (Con.ofR ((fun i => (B.getD i Con.zero).rvs) i)).rvs) ∧ B.length ≤ (1000 : Nat), Dec (!vSS p (consR A.length fun i => (A.getD i Con.zero).rvs)) false, (∀ (i : Nat), i < A.length → (fun i => (A.getD i Con.zero).rvs) i = (Con.ofR ((fun i => (A.getD i Con.zero).rvs) i)).rvs) ∧ A.length ≤ (1000 : Nat)]) (by kernel_rfl) (by refine ⟨?_, ?_, ?_, (dN d2), ?_, (dN d1), (?_ : (∀ (i : Nat), i < A.length → (fun i => (A.getD i Con.zero).rvs) i = (Con.ofR ((fun i => (A.getD i Con.zero).rvs) i)).rvs) ∧ A.length ≤ (1000 : Nat))⟩ <;> (first | rfl | exact ⟨rfl, rfl⟩ | exact ⟨rfl, rfl, fun i _ => rfl⟩ | exact ⟨fun _ _ => rfl, by omega⟩ | (simp only [consR_ro] at *; first | rfl | exact ⟨rfl, rfl⟩ | exact ⟨rfl, rfl, fun i _ => rfl⟩ | exact ⟨fun _ _ => rfl, by omega⟩ | exact ⟨rfl, fun i hi => absurd hi (Nat.not_lt_zero _)⟩ | exact ⟨fun _ _ => rfl, fun _ _ => rfl, (vSS_ok d1).1, (vSS_ok d2).1, (vSS_ok d1).2.1, (vSS_ok d2).2.1, by omega, by omega⟩ | (exfalso; simp_all; done) | (simp_all; done))))
  · -- false
    exact pure_run evOk (callF_ok evOk orcS_ok 8) Tryz.func13 rfl none_ann rfl rfl evNg (tp := [true]) (ms := [(0 : Int) = (0 : Int), (0 : Nat) = (0 : Nat), (22 : Int) = (22 : Int), Dec (!vSS p (consR A.length fun i => (A.getD i Con.zero).rvs)) true, (∀ (i : Nat), i < A.length → (fun i => (A.getD i Con.zero).rvs) i = (Con.ofR ((fun i => (A.getD i Con.zero).rvs) i)).rvs) ∧ A.length ≤ (1000 : Nat)]) (by kernel_rfl) (by refine ⟨?_, ?_, ?_, (dN d1), (?_ : (∀ (i : Nat), i < A.length → (fun i => (A.getD i Con.zero).rvs) i = (Con.ofR ((fun i => (A.getD i Con.zero).rvs) i)).rvs) ∧ A.length ≤ (1000 : Nat))⟩ <;> (first | rfl | exact ⟨rfl, rfl⟩ | exact ⟨rfl, rfl, fun i _ => rfl⟩ | exact ⟨fun _ _ => rfl, by omega⟩ | (simp only [consR_ro] at *; first | rfl | exact ⟨rfl, rfl⟩ | exact ⟨rfl, rfl, fun i _ => rfl⟩ | exact ⟨fun _ _ => rfl, by omega⟩ | exact ⟨rfl, fun i hi => absurd hi (Nat.not_lt_zero _)⟩ | exact ⟨fun _ _ => rfl, fun _ _ => rfl, (vSS_ok d1).1, (vSS_ok d2).1, (vSS_ok d1).2.1, (vSS_ok d2).2.1, by omega, by omega⟩ | (exfalso; simp_all; done) | (simp_all; done))))
end Go.Proofs.YtbjfdfjmclggkaaGreatDoor.S

/- symbol.Excess of a valid symbol. -/
namespace Go.Proofs.YtbjfdfjmclggkaaGreatDoor.Q
open Go.RowKit

theorem Lst.len4 {w : World} {a : Option Addr} {n c : Nat} {l : List Con} (h : Lst w (.slice a n c) l) : l.length = n := by
  rcases h with ⟨rfl, a', c', e⟩ | ⟨_, b, o, cap, e, _⟩
  · cases e; rfl
  · cases e; rfl

theorem excess_true4 (p : Int) (a : Option Addr) (n c : Nat) (l : List Con) (w : World) (hw : Offs w) (hl : Lst w (.slice a n c) l) (hn : l.length ≤ 1000) (hv : vS p l = true) :
    Calls Tryz.prog 14 #[.agg #[.int .i64 p, .slice a n c]] w fun e w' => e = .returned (.tuple #[.int .i64 (ex1 p l % 8), .int .i64 0]) ∧ Below w.heap.size w w' := by
  obtain ⟨h1, h2, h3, h4, h5⟩ := vS_parts hv
  have hlen := Lst.len4 hl
  rcases hl with ⟨e, _⟩ | ⟨_, b, o, cap, e, hb, hcp, hc⟩
  · exact absurd e h4
  · cases e
    have h0 : 0 < l.length := by cases l; exact absurd rfl h4; simp
    refine excess_cons p l l.length b o c w hw rfl h0 hn hb hcp hc h1 h2 (isP_odd h3 h1) (vL_good (by omega) (by omega) h5) (fun W hW hL => ?_)
    refine (valid_calls p l _ W hW hL hn).mono ?_
    rintro e w' ⟨rfl, hb⟩
    exact ⟨ret_bool hv, hb⟩
end Go.Proofs.YtbjfdfjmclggkaaGreatDoor.Q

/- symbol.Excess as a pure call. -/
namespace Go.Proofs.YtbjfdfjmclggkaaGreatDoor.S
open Go.QfSy Go.RowKit

theorem excess_pure (p : Int) (L : List Con) (hn : L.length ≤ 1000) (hv : Q.vS p (L.map toQ) = true) : PureC Tryz.prog [offT] 14 [.agg [.int .i64 p, roC L]] (.tup [.int .i64 (Q.ex1 p (L.map toQ) % 8), .int .i64 0]) := by
  refine flat_pure (V := .tuple #[.int .i64 (Q.ex1 p (L.map toQ) % 8), .int .i64 0]) (fun _ => .tup (Vs := [_, _]) (.cons (.int _ _) (.cons (.int _ _) .nil))) ⟨_, Tryz.func14, rfl⟩ ?_
  intro w F Args ht hF hr
  cases hr with | cons h0 hr => cases hr; cases h0 with | agg h0 => cases h0 with | cons h1 h0 => cases h1; cases h0 with | cons h2 h0 =>
  cases h0
  obtain ⟨l1, a, n, c, rfl⟩ := lst_of hF h2
  exact Q.excess_true4 p a n c _ w (offs_of ht) l1 (by simpa using hn) hv
end Go.Proofs.YtbjfdfjmclggkaaGreatDoor.S

/- Parts of a symbol that is made, out of their rows; what such a list makes. -/
set_option linter.unusedSimpArgs false
set_option linter.unusedVariables false
namespace Go.Proofs.YtbjfdfjmclggkaaGreatDoor.S
open Go.QfSy Go.RowKit

/- a list of parts out of its rows -/
def Prt.ofR : List RV → Prt
  | [.int .u8 a, .int .u8 b, .int .u8 c, .int .u8 d, .int .u8 e] => ⟨a, b, c, d, e⟩
  | _ => Prt.zero
def prtR (n : Nat) (row : Nat → List RV) : List Prt := (List.range n).map fun i => Prt.ofR (row i)
theorem prtR_ro (L : List Prt) : prtR L.length (fun i => (L.getD i Prt.zero).rvs) = L := by
  apply List.ext_getElem
  · simp [prtR]
  · intro i h1 h2
    simp [prtR, h2]; rfl
theorem roP_ro {n : Nat} {row : Nat → List RV} (h : ∀ i, i < n → row i = (Prt.ofR (row i)).rvs) {F : Fz} {V : Value} (k : RRel F (.sl n 5 row) V) : RRel F (roP (prtR n row)) V := by
  unfold roP
  have hn : (prtR n row).length = n := by simp [prtR]
  rw [hn]
  refine k.rows (fun i hi => ?_)
  rw [h i hi]
  congr 1
  simp [prtR, hi]

theorem list_rows {pr most : Int} {two : Bool} {n : Nat} {row : Nat → List RV} (h1 : ∀ i, i < n → row i = (Prt.ofR (row i)).rvs) (h2 : ∀ p ∈ prtR n row, p.ok) (h3 : 1 ≤ most) (h4 : most ≤ 100) (h5 : n ≤ 1000) : PureC Tryz.prog [] 27 [.agg [.int .u8 pr, .sl n 5 row], .int .i64 most, .bool two] (roC (listV most two (prtR n row))) := by
  refine (list_pure pr _ most two h2 h3 h4 (by simpa [prtR] using h5)).args (fun F Args hr => ?_)
  cases hr with | cons k0 hr => cases k0 with | agg k0 => cases k0 with | cons a0 k0 => cases k0 with | cons a1 k0 =>
  cases k0
  exact .cons (.agg (.cons a0 (.cons (roP_ro h1 a1) .nil))) hr

theorem RImp.prt {n : Nat} {row : Nat → List RV} (h : ∀ i, i < n → row i = (Prt.ofR (row i)).rvs) : RImp (.sl n 5 row) (roP (prtR n row)) := fun F V k => roP_ro h k
theorem prtR_len {n : Nat} {row : Nat → List RV} : (prtR n row).length = n := by simp [prtR]
theorem listV_len {most : Int} {two : Bool} {X : List Prt} : (listV most two X).length ≤ X.length + 1 := by
  have key : ∀ (X : List Prt) (e n : Int), (listM most two X e n).length ≤ X.length := by
    intro X
    induction X with
    | nil => intro e n; simp [listM]
    | cons p l ih =>
      intro e n
      simp only [listM]
      split
      · simp
      · simp; exact ih _ _
  unfold listV
  cases (listF most two X).isEmpty
  · have := key X (-1) 0
    simp only [cond_false]; unfold listF; omega
  · simp
end Go.Proofs.YtbjfdfjmclggkaaGreatDoor.S

/- awake of quadformlaw26 returns true. -/
namespace Go.Proofs.YtbjfdfjmclggkaaGreatDoor.S
open Go.QfSy Go.RowKit

set_option maxRecDepth 1000000 in
theorem awake_run : isT0 (bodyF EC (callF EC noOrc 60) noLo 7 (RV.avl []) ⟨trOf (tabList tabs), 1000, [], []⟩) = true := by kernel_rfl
theorem awake_pure : PureC Tryz.prog tabs 7 [] (.bool true) :=
  pure_true ecOk (callF_ok ecOk (noOrc_ok _ _) 60) rfl rfl ecNg awake_run
end Go.Proofs.YtbjfdfjmclggkaaGreatDoor.S

/- SymbolSums returns true. -/
set_option linter.unusedSimpArgs false
set_option linter.unusedVariables false
namespace Go.Proofs.YtbjfdfjmclggkaaGreatDoor.S
open Go.QfSy Go.RowKit

noncomputable def entsSs : List OEnt := [
  ⟨13, [offT], fun A => match A with
    | [.agg [.int .i64 p, .sl n 5 row], .agg [.int .i64 q, .sl m 5 row']] => some (.tup [.agg [.int .i64 p, roC (addM (consR n row) (consR m row'))], .int .i64 0], [(∀ i, i < n → row i = (Con.ofR (row i)).rvs) ∧ (∀ i, i < m → row' i = (Con.ofR (row' i)).rvs) ∧ p = q ∧ vSS p (consR n row) = true ∧ vSS p (consR m row') = true ∧ vSS p (addM (consR n row) (consR m row')) = true])
    | _ => none⟩,
  ⟨14, [offT], fun A => match A with
    | [.agg [.int .i64 p, .sl n 5 row]] => some (.tup [.int .i64 (Q.ex1 p ((consR n row).map toQ) % 8), .int .i64 0], [(∀ i, i < n → row i = (Con.ofR (row i)).rvs) ∧ vSS p (consR n row) = true])
    | _ => none⟩,
  ⟨15, [], fun A => match A with
    | [.agg [.int .i64 p, .sl n 5 row], .agg [.int .i64 q, .sl m 5 row']] => some (.bool true, [(∀ i, i < n → row i = (Con.ofR (row i)).rvs) ∧ (∀ i, i < m → row' i = (Con.ofR (row' i)).rvs) ∧ p = q ∧ consR n row = consR m row' ∧ n ≤ 1000])
    | _ => none⟩,
  ⟨27, [], fun A => match A with
    | [.agg [.int .u8 pr, .sl n 5 row], .int .i64 most, .bool two] => some (roC (listV most two (prtR n row)), [(∀ i, i < n → row i = (Prt.ofR (row i)).rvs) ∧ (∀ p ∈ prtR n row, p.ok) ∧ 1 ≤ most ∧ most ≤ 100 ∧ n ≤ 1000])
    | _ => none⟩,
  ⟨26, [], fun A => match A with
    | [.int .u8 k] => some (.int .i64 (Q.oddPr k), [0 ≤ k ∧ k ≤ 255])
    | _ => none⟩,
  ⟨7, tabs, fun A => match A with
    | [] => some (.bool true, [])
    | _ => none⟩]
theorem entsSs_ok : ∀ e ∈ entsSs, EntOk Tryz.prog e := by
  intro e he
  simp only [entsSs, List.mem_cons, List.not_mem_nil, or_false] at he
  rcases he with rfl | rfl | rfl | rfl | rfl | rfl
  all_goals
    intro A R ms h hm
    simp only at h
    split at h
    all_goals first | (cases h; done) | cases h
  · obtain ⟨h1, h2, h3, h4, h5, h6⟩ := all_one hm
    subst h3
    exact PureC.imp (sum_yes _ _ _ h4 h5 h6) (.cons (.agg (.cons .same (.cons (.con h1) .nil))) (.cons (.agg (.cons .same (.cons (.con h2) .nil))) .nil))
  · obtain ⟨h1, h2⟩ := all_one hm
    have := (vSS_ok h2).2.2
    exact PureC.imp (excess_pure _ _ (by omega) h2) (.cons (.agg (.cons .same (.cons (.con h1) .nil))) .nil)
  · obtain ⟨h1, h2, h3, h4, h5⟩ := all_one hm
    subst h3
    exact PureC.imp (same_pure _ _ (by rw [consR_len]; exact h5)) (.cons (.agg (.cons .same (.cons (.con h1) .nil))) (.cons (.agg (.cons .same (.cons (by rw [h4]; exact .con h2) .nil))) .nil))
  · obtain ⟨h1, h2, h3, h4, h5⟩ := all_one hm
    exact list_rows h1 h2 h3 h4 h5
  · obtain ⟨h1, h2⟩ := all_one hm
    exact oddPrime_pure _ h1 h2
  · exact awake_pure
theorem exc_eq {a b c : Int} (h : (a % 8 + b % 8) % 8 = c % 8) : ((IntKind.i64.wrap (a % 8 + b % 8)).tmod 8 == c % 8) = true := by
  rw [w64 (by omega) (by omega), Int.tmod_eq_emod_of_nonneg (by omega), beq_iff_eq]; exact h

set_option maxHeartbeats 4000000 in
set_option maxRecDepth 100000 in
theorem symbolSums_pure (kx : Int) (X : List Prt) (ky : Int) (Y : List Prt) (kw : Int) (W : List Prt) (hk : U8 kx) (hX : ∀ p ∈ X, p.ok) (hY : ∀ p ∈ Y, p.ok) (hW : ∀ p ∈ W, p.ok) : PureC Tryz.prog tabs 4 [.agg [.int .u8 kx, roP X], .agg [.int .u8 ky, roP Y], .agg [.int .u8 kw, roP W]] (.bool true) := by
  have va := local_ok (k := kx) (most := 3) hX (by decide) (by decide); have vb := local_ok (k := kx) (most := 3) hY (by decide) (by decide); have vc := local_ok (k := kx) (most := 2) hW (by decide) (by decide); have da := dim_listV (most := 3) (two := false) (by decide) hX; have db := dim_listV (most := 3) (two := false) (by decide) hY; have dc := dim_listV (most := 2) (two := false) (by decide) hW; have vab := vSS_add va vb (by omega); have vba := vSS_add vb va (by omega); have vbc := vSS_add vb vc (by omega); have vp := vSS_add vab vc (by rw [dim_add]; omega); have vq := vSS_add va vbc (by rw [dim_add]; omega); have he := ex_sum va vb; have nab := (vSS_ok vab).2.2; have np := (vSS_ok vp).2.2
  rcases Bool.eq_false_or_eq_true (decide ((↑X.length : Int) > (20 : Int))) with d1 | d1
  · -- true
    exact pure_run evOk (callF_ok evOk (orcOf_ok entsSs_ok) 8) Tryz.func4 rfl none_ann rfl rfl evNg (tp := [true]) (ms := [true = true, Dec (decide ((↑X.length : Int) > (20 : Int))) true]) (by kernel_rfl) (by refine ⟨?_, d1⟩ <;> (first | (with_reducible rfl) | (with_reducible exact ⟨rfl, rfl⟩) | exact ⟨hk.1, hk.2⟩ | (exact (by decide : (8 : Int) ≠ 0)) | (simp only [prtR_ro, consR_ro, decide_eq_false_iff_not, gt_iff_lt] at d1 d2 d3 ⊢ <;> first | trivial | exact ⟨trivial, trivial⟩ | exact ⟨fun _ _ => rfl, hX, by decide, by decide, by omega⟩ | exact ⟨fun _ _ => rfl, hY, by decide, by decide, by omega⟩ | exact ⟨fun _ _ => rfl, hW, by decide, by decide, by omega⟩ | exact ⟨fun _ _ => rfl, fun _ _ => rfl, by trivial, va, vb, vab⟩ | exact ⟨fun _ _ => rfl, fun _ _ => rfl, by trivial, vb, va, vba⟩ | exact ⟨fun _ _ => rfl, fun _ _ => rfl, by trivial, vb, vc, vbc⟩ | exact ⟨fun _ _ => rfl, fun _ _ => rfl, by trivial, vab, vc, vp⟩ | exact ⟨fun _ _ => rfl, fun _ _ => rfl, by trivial, va, vbc, vq⟩ | exact ⟨fun _ _ => rfl, va⟩ | exact ⟨fun _ _ => rfl, vb⟩ | exact ⟨fun _ _ => rfl, vab⟩ | exact ⟨fun _ _ => rfl, fun _ _ => rfl, by trivial, addM_comm _ _, by omega⟩ | exact ⟨fun _ _ => rfl, fun _ _ => rfl, by trivial, addM_assoc _ _ _, by omega⟩)))
  · -- false
    rcases Bool.eq_false_or_eq_true (decide ((↑Y.length : Int) > (20 : Int))) with d2 | d2
    · -- true
      exact pure_run evOk (callF_ok evOk (orcOf_ok entsSs_ok) 8) Tryz.func4 rfl none_ann rfl rfl evNg (tp := [false, true]) (ms := [true = true, Dec (decide ((↑Y.length : Int) > (20 : Int))) true, Dec (decide ((↑X.length : Int) > (20 : Int))) false]) (by kernel_rfl) (by refine ⟨?_, d2, d1⟩ <;> (first | (with_reducible rfl) | (with_reducible exact ⟨rfl, rfl⟩) | exact ⟨hk.1, hk.2⟩ | (exact (by decide : (8 : Int) ≠ 0)) | (simp only [prtR_ro, consR_ro, decide_eq_false_iff_not, gt_iff_lt] at d1 d2 d3 ⊢ <;> first | trivial | exact ⟨trivial, trivial⟩ | exact ⟨fun _ _ => rfl, hX, by decide, by decide, by omega⟩ | exact ⟨fun _ _ => rfl, hY, by decide, by decide, by omega⟩ | exact ⟨fun _ _ => rfl, hW, by decide, by decide, by omega⟩ | exact ⟨fun _ _ => rfl, fun _ _ => rfl, by trivial, va, vb, vab⟩ | exact ⟨fun _ _ => rfl, fun _ _ => rfl, by trivial, vb, va, vba⟩ | exact ⟨fun _ _ => rfl, fun _ _ => rfl, by trivial, vb, vc, vbc⟩ | exact ⟨fun _ _ => rfl, fun _ _ => rfl, by trivial, vab, vc, vp⟩ | exact ⟨fun _ _ => rfl, fun _ _ => rfl, by trivial, va, vbc, vq⟩ | exact ⟨fun _ _ => rfl, va⟩ | exact ⟨fun _ _ => rfl, vb⟩ | exact ⟨fun _ _ => rfl, vab⟩ | exact ⟨fun _ _ => rfl, fun _ _ => rfl, by trivial, addM_comm _ _, by omega⟩ | exact ⟨fun _ _ => rfl, fun _ _ => rfl, by trivial, addM_assoc _ _ _, by omega⟩)))
    · -- false
      rcases Bool.eq_false_or_eq_true (decide ((↑W.length : Int) > (20 : Int))) with d3 | d3
      · -- true
        exact pure_run evOk (callF_ok evOk (orcOf_ok entsSs_ok) 8) Tryz.func4 rfl none_ann rfl rfl evNg (tp := [false, false, true]) (ms := [true = true, Dec (decide ((↑W.length : Int) > (20 : Int))) true, Dec (decide ((↑Y.length : Int) > (20 : Int))) false, Dec (decide ((↑X.length : Int) > (20 : Int))) false]) (by kernel_rfl) (by refine ⟨?_, d3, d2, d1⟩ <;> (first | (with_reducible rfl) | (with_reducible exact ⟨rfl, rfl⟩) | exact ⟨hk.1, hk.2⟩ | (exact (by decide : (8 : Int) ≠ 0)) | (simp only [prtR_ro, consR_ro, decide_eq_false_iff_not, gt_iff_lt] at d1 d2 d3 ⊢ <;> first | trivial | exact ⟨trivial, trivial⟩ | exact ⟨fun _ _ => rfl, hX, by decide, by decide, by omega⟩ | exact ⟨fun _ _ => rfl, hY, by decide, by decide, by omega⟩ | exact ⟨fun _ _ => rfl, hW, by decide, by decide, by omega⟩ | exact ⟨fun _ _ => rfl, fun _ _ => rfl, by trivial, va, vb, vab⟩ | exact ⟨fun _ _ => rfl, fun _ _ => rfl, by trivial, vb, va, vba⟩ | exact ⟨fun _ _ => rfl, fun _ _ => rfl, by trivial, vb, vc, vbc⟩ | exact ⟨fun _ _ => rfl, fun _ _ => rfl, by trivial, vab, vc, vp⟩ | exact ⟨fun _ _ => rfl, fun _ _ => rfl, by trivial, va, vbc, vq⟩ | exact ⟨fun _ _ => rfl, va⟩ | exact ⟨fun _ _ => rfl, vb⟩ | exact ⟨fun _ _ => rfl, vab⟩ | exact ⟨fun _ _ => rfl, fun _ _ => rfl, by trivial, addM_comm _ _, by omega⟩ | exact ⟨fun _ _ => rfl, fun _ _ => rfl, by trivial, addM_assoc _ _ _, by omega⟩)))
      · -- false
        rcases Bool.eq_false_or_eq_true ((0 : Int) == (0 : Int)) with d4 | d4
        · -- true
          rcases Bool.eq_false_or_eq_true (true) with d5 | d5
          · -- true
            rcases Bool.eq_false_or_eq_true ((IntKind.i64.wrap (Q.ex1 (Q.oddPr kx) (List.map toQ (consR (listV (3 : Int) false (prtR X.length fun i => (X.getD i Prt.zero).rvs)).length fun i => ((listV (3 : Int) false (prtR X.length fun i => (X.getD i Prt.zero).rvs)).getD i Con.zero).rvs)) % (8 : Int) + Q.ex1 (Q.oddPr kx) (List.map toQ (consR (listV (3 : Int) false (prtR Y.length fun i => (Y.getD i Prt.zero).rvs)).length fun i => ((listV (3 : Int) false (prtR Y.length fun i => (Y.getD i Prt.zero).rvs)).getD i Con.zero).rvs)) % (8 : Int))).tmod (8 : Int) == Q.ex1 (Q.oddPr kx) (List.map toQ (consR (addM (consR (listV (3 : Int) false (prtR X.length fun i => (X.getD i Prt.zero).rvs)).length fun i => ((listV (3 : Int) false (prtR X.length fun i => (X.getD i Prt.zero).rvs)).getD i Con.zero).rvs) (consR (listV (3 : Int) false (prtR Y.length fun i => (Y.getD i Prt.zero).rvs)).length fun i => ((listV (3 : Int) false (prtR Y.length fun i => (Y.getD i Prt.zero).rvs)).getD i Con.zero).rvs)).length fun i => ((addM (consR (listV (3 : Int) false (prtR X.length fun i => (X.getD i Prt.zero).rvs)).length fun i => ((listV (3 : Int) false (prtR X.length fun i => (X.getD i Prt.zero).rvs)).getD i Con.zero).rvs) (consR (listV (3 : Int) false (prtR Y.length fun i => (Y.getD i Prt.zero).rvs)).length fun i => ((listV (3 : Int) false (prtR Y.length fun i => (Y.getD i Prt.zero).rvs)).getD i Con.zero).rvs)).getD i Con.zero).rvs)) % (8 : Int)) with d6 | d6
            · -- true
              exact pure_run evOk (callF_ok evOk (orcOf_ok entsSs_ok) 8) Tryz.func4 rfl none_ann rfl rfl evNg (tp := [false, false, false, true, true, true, true, true, true, true, true, true, true, true]) (ms := [true = true, Dec ((IntKind.i64.wrap (Q.ex1 (Q.oddPr kx) (List.map toQ (consR (listV (3 : Int) false (prtR X.length fun i => (X.getD i Prt.zero).rvs)).length fun i => ((listV (3 : Int) false (prtR X.length fun i => (X.getD i Prt.zero).rvs)).getD i Con.zero).rvs)) % (8 : Int) + Q.ex1 (Q.oddPr kx) (List.map toQ (consR (listV (3 : Int) false (prtR Y.length fun i => (Y.getD i Prt.zero).rvs)).length fun i => ((listV (3 : Int) false (prtR Y.length fun i => (Y.getD i Prt.zero).rvs)).getD i Con.zero).rvs)) % (8 : Int))).tmod (8 : Int) == Q.ex1 (Q.oddPr kx) (List.map toQ (consR (addM (consR (listV (3 : Int) false (prtR X.length fun i => (X.getD i Prt.zero).rvs)).length fun i => ((listV (3 : Int) false (prtR X.length fun i => (X.getD i Prt.zero).rvs)).getD i Con.zero).rvs) (consR (listV (3 : Int) false (prtR Y.length fun i => (Y.getD i Prt.zero).rvs)).length fun i => ((listV (3 : Int) false (prtR Y.length fun i => (Y.getD i Prt.zero).rvs)).getD i Con.zero).rvs)).length fun i => ((addM (consR (listV (3 : Int) false (prtR X.length fun i => (X.getD i Prt.zero).rvs)).length fun i => ((listV (3 : Int) false (prtR X.length fun i => (X.getD i Prt.zero).rvs)).getD i Con.zero).rvs) (consR (listV (3 : Int) false (prtR Y.length fun i => (Y.getD i Prt.zero).rvs)).length fun i => ((listV (3 : Int) false (prtR Y.length fun i => (Y.getD i Prt.zero).rvs)).getD i Con.zero).rvs)).getD i Con.zero).rvs)) % (8 : Int)) true, (8 : Int) ≠ (0 : Int), Dec true true, (∀ (i : Nat), i < (addM (consR (addM (consR (listV (3 : Int) false (prtR X.length fun i => (X.getD i Prt.zero).rvs)).length fun i => ((listV (3 : Int) false (prtR X.length fun i => (X.getD i Prt.zero).rvs)).getD i Con.zero).rvs) (consR (listV (3 : Int) false (prtR Y.length fun i => (Y.getD i Prt.zero).rvs)).length fun i => ((listV (3 : Int) false (prtR Y.length fun i => (Y.getD i Prt.zero).rvs)).getD i Con.zero).rvs)).length fun i => ((addM (consR (listV (3 : Int) false (prtR X.length fun i => (X.getD i Prt.zero).rvs)).length fun i => ((listV (3 : Int) false (prtR X.length fun i => (X.getD i Prt.zero).rvs)).getD i Con.zero).rvs) (consR (listV (3 : Int) false (prtR Y.length fun i => (Y.getD i Prt.zero).rvs)).length fun i => ((listV (3 : Int) false (prtR Y.length fun i => (Y.getD i Prt.zero).rvs)).getD i Con.zero).rvs)).getD i Con.zero).rvs) (consR (listV (2 : Int) false (prtR W.length fun i => (W.getD i Prt.zero).rvs)).length fun i => ((listV (2 : Int) false (prtR W.length fun i => (W.getD i Prt.zero).rvs)).getD i Con.zero).rvs)).length → (fun i => ((addM (consR (addM (consR (listV (3 : Int) false (prtR X.length fun i => (X.getD i Prt.zero).rvs)).length fun i => ((listV (3 : Int) false (prtR X.length fun i => (X.getD i Prt.zero).rvs)).getD i Con.zero).rvs) (consR (listV (3 : Int) false (prtR Y.length fun i => (Y.getD i Prt.zero).rvs)).length fun i => ((listV (3 : Int) false (prtR Y.length fun i => (Y.getD i Prt.zero).rvs)).getD i Con.zero).rvs)).length fun i => ((addM (consR (listV (3 : Int) false (prtR X.length fun i => (X.getD i Prt.zero).rvs)).length fun i => ((listV (3 : Int) false (prtR X.length fun i => (X.getD i Prt.zero).rvs)).getD i Con.zero).rvs) (consR (listV (3 : Int) false (prtR Y.length fun i => (Y.getD i Prt.zero).rvs)).length fun i => ((listV (3 : Int) false (prtR Y.length fun i => (Y.getD i Prt.zero).rvs)).getD i Con.zero).rvs)).getD i Con.zero).rvs) (consR (listV (2 : Int) false (prtR W.length fun i => (W.getD i Prt.zero).rvs)).length fun i => ((listV (2 : Int) false (prtR W.length fun i => (W.getD i Prt.zero).rvs)).getD i Con.zero).rvs)).getD i Con.zero).rvs) i = (Con.ofR ((fun i => ((addM (consR (addM (consR (listV (3 : Int) false (prtR X.length fun i => (X.getD i Prt.zero).rvs)).length fun i => ((listV (3 : Int) false (prtR X.length fun i => (X.getD i Prt.zero).rvs)).getD i Con.zero).rvs) (consR (listV (3 : Int) false (prtR Y.length fun i => (Y.getD i Prt.zero).rvs)).length fun i => ((listV (3 : Int) false (prtR Y.length fun i => (Y.getD i Prt.zero).rvs)).getD i Con.zero).rvs)).length fun i => ((addM (consR (listV (3 : Int) false (prtR X.length fun i => (X.getD i Prt.zero).rvs)).length fun i => ((listV (3 : Int) false (prtR X.length fun i => (X.getD i Prt.zero).rvs)).getD i Con.zero).rvs) (consR (listV (3 : Int) false (prtR Y.length fun i => (Y.getD i Prt.zero).rvs)).length fun i => ((listV (3 : Int) false (prtR Y.length fun i => (Y.getD i Prt.zero).rvs)).getD i Con.zero).rvs)).getD i Con.zero).rvs) (consR (listV (2 : Int) false (prtR W.length fun i => (W.getD i Prt.zero).rvs)).length fun i => ((listV (2 : Int) false (prtR W.length fun i => (W.getD i Prt.zero).rvs)).getD i Con.zero).rvs)).getD i Con.zero).rvs) i)).rvs) ∧ (∀ (i : Nat), i < (addM (consR (listV (3 : Int) false (prtR X.length fun i => (X.getD i Prt.zero).rvs)).length fun i => ((listV (3 : Int) false (prtR X.length fun i => (X.getD i Prt.zero).rvs)).getD i Con.zero).rvs) (consR (addM (consR (listV (3 : Int) false (prtR Y.length fun i => (Y.getD i Prt.zero).rvs)).length fun i => ((listV (3 : Int) false (prtR Y.length fun i => (Y.getD i Prt.zero).rvs)).getD i Con.zero).rvs) (consR (listV (2 : Int) false (prtR W.length fun i => (W.getD i Prt.zero).rvs)).length fun i => ((listV (2 : Int) false (prtR W.length fun i => (W.getD i Prt.zero).rvs)).getD i Con.zero).rvs)).length fun i => ((addM (consR (listV (3 : Int) false (prtR Y.length fun i => (Y.getD i Prt.zero).rvs)).length fun i => ((listV (3 : Int) false (prtR Y.length fun i => (Y.getD i Prt.zero).rvs)).getD i Con.zero).rvs) (consR (listV (2 : Int) false (prtR W.length fun i => (W.getD i Prt.zero).rvs)).length fun i => ((listV (2 : Int) false (prtR W.length fun i => (W.getD i Prt.zero).rvs)).getD i Con.zero).rvs)).getD i Con.zero).rvs)).length → (fun i => ((addM (consR (listV (3 : Int) false (prtR X.length fun i => (X.getD i Prt.zero).rvs)).length fun i => ((listV (3 : Int) false (prtR X.length fun i => (X.getD i Prt.zero).rvs)).getD i Con.zero).rvs) (consR (addM (consR (listV (3 : Int) false (prtR Y.length fun i => (Y.getD i Prt.zero).rvs)).length fun i => ((listV (3 : Int) false (prtR Y.length fun i => (Y.getD i Prt.zero).rvs)).getD i Con.zero).rvs) (consR (listV (2 : Int) false (prtR W.length fun i => (W.getD i Prt.zero).rvs)).length fun i => ((listV (2 : Int) false (prtR W.length fun i => (W.getD i Prt.zero).rvs)).getD i Con.zero).rvs)).length fun i => ((addM (consR (listV (3 : Int) false (prtR Y.length fun i => (Y.getD i Prt.zero).rvs)).length fun i => ((listV (3 : Int) false (prtR Y.length fun i => (Y.getD i Prt.zero).rvs)).getD i Con.zero).rvs) (consR (listV (2 : Int) false (prtR W.length fun i => (W.getD i Prt.zero).rvs)).length fun i => ((listV (2 : Int) false (prtR W.length fun i => (W.getD i Prt.zero).rvs)).getD i Con.zero).rvs)).getD i Con.zero).rvs)).getD i Con.zero).rvs) i = (Con.ofR ((fun i => ((addM (consR (listV (3 : Int) false (prtR X.length fun i => (X.getD i Prt.zero).rvs)).length fun i => ((listV (3 : Int) false (prtR X.length fun i => (X.getD i Prt.zero).rvs)).getD i Con.zero).rvs) (consR (addM (consR (listV (3 : Int) false (prtR Y.length fun i => (Y.getD i Prt.zero).rvs)).length fun i => ((listV (3 : Int) false (prtR Y.length fun i => (Y.getD i Prt.zero).rvs)).getD i Con.zero).rvs) (consR (listV (2 : Int) false (prtR W.length fun i => (W.getD i Prt.zero).rvs)).length fun i => ((listV (2 : Int) false (prtR W.length fun i => (W.getD i Prt.zero).rvs)).getD i Con.zero).rvs)).length fun i => ((addM (consR (listV (3 : Int) false (prtR Y.length fun i => (Y.getD i Prt.zero).rvs)).length fun i => ((listV (3 : Int) false (prtR Y.length fun i => (Y.getD i Prt.zero).rvs)).getD i Con.zero).rvs) (consR (listV (2 : Int) false (prtR W.length fun i => (W.getD i Prt.zero).rvs)).length fun i => ((listV (2 : Int) false (prtR W.length fun i => (W.getD i Prt.zero).rvs)).getD i Con.zero).rvs)).getD i Con.zero).rvs)).getD i Con.zero).rvs) i)).rvs) ∧ Q.oddPr kx = Q.oddPr kx ∧ ((consR (addM (consR (addM (consR (listV (3 : Int) false (prtR X.length fun i => (X.getD i Prt.zero).rvs)).length fun i => ((listV (3 : Int) false (prtR X.length fun i => (X.getD i Prt.zero).rvs)).getD i Con.zero).rvs) (consR (listV (3 : Int) false (prtR Y.length fun i => (Y.getD i Prt.zero).rvs)).length fun i => ((listV (3 : Int) false (prtR Y.length fun i => (Y.getD i Prt.zero).rvs)).getD i Con.zero).rvs)).length fun i => ((addM (consR (listV (3 : Int) false (prtR X.length fun i => (X.getD i Prt.zero).rvs)).length fun i => ((listV (3 : Int) false (prtR X.length fun i => (X.getD i Prt.zero).rvs)).getD i Con.zero).rvs) (consR (listV (3 : Int) false (prtR Y.length fun i => (Y.getD i Prt.zero).rvs)).length fun i => ((listV (3 : Int) false (prtR Y.length fun i => (Y.getD i Prt.zero).rvs)).getD i Con.zero).rvs)).getD i Con.zero).rvs) (consR (listV (2 : Int) false (prtR W.length fun i => (W.getD i Prt.zero).rvs)).length fun i => ((listV (2 : Int) false (prtR W.length fun i => (W.getD i Prt.zero).rvs)).getD i Con.zero).rvs)).length fun i => ((addM (consR (addM (consR (listV (3 : Int) false (prtR X.length fun i => (X.getD i Prt.zero).rvs)).length fun i => ((listV (3 : Int) false (prtR X.length fun i => (X.getD i Prt.zero).rvs)).getD i Con.zero).rvs) (consR (listV (3 : Int) false (prtR Y.length fun i => (Y.getD i Prt.zero).rvs)).length fun i => ((listV (3 : Int) false (prtR Y.length fun i => (Y.getD i Prt.zero).rvs)).getD i Con.zero).rvs)).length fun i => ((addM (consR (listV (3 : Int) false (prtR X.length fun i => (X.getD i Prt.zero).rvs)).length fun i => ((listV (3 : Int) false (prtR X.length fun i => (X.getD i Prt.zero).rvs)).getD i Con.zero).rvs) (consR (listV (3 : Int) false (prtR Y.length fun i => (Y.getD i Prt.zero).rvs)).length fun i => ((listV (3 : Int) false (prtR Y.length fun i => (Y.getD i Prt.zero).rvs)).getD i Con.zero).rvs)).getD i Con.zero).rvs) (consR (listV (2 : Int) false (prtR W.length fun i => (W.getD i Prt.zero).rvs)).length fun i => ((listV (2 : Int) false (prtR W.length fun i => (W.getD i Prt.zero).rvs)).getD i Con.zero).rvs)).getD i Con.zero).rvs) = consR (addM (consR (listV (3 : Int) false (prtR X.length fun i => (X.getD i Prt.zero).rvs)).length fun i => ((listV (3 : Int) false (prtR X.length fun i => (X.getD i Prt.zero).rvs)).getD i Con.zero).rvs) (consR (addM (consR (listV (3 : Int) false (prtR Y.length fun i => (Y.getD i Prt.zero).rvs)).length fun i => ((listV (3 : Int) false (prtR Y.length fun i => (Y.getD i Prt.zero).rvs)).getD i Con.zero).rvs) (consR (listV (2 : Int) false (prtR W.length fun i => (W.getD i Prt.zero).rvs)).length fun i => ((listV (2 : Int) false (prtR W.length fun i => (W.getD i Prt.zero).rvs)).getD i Con.zero).rvs)).length fun i => ((addM (consR (listV (3 : Int) false (prtR Y.length fun i => (Y.getD i Prt.zero).rvs)).length fun i => ((listV (3 : Int) false (prtR Y.length fun i => (Y.getD i Prt.zero).rvs)).getD i Con.zero).rvs) (consR (listV (2 : Int) false (prtR W.length fun i => (W.getD i Prt.zero).rvs)).length fun i => ((listV (2 : Int) false (prtR W.length fun i => (W.getD i Prt.zero).rvs)).getD i Con.zero).rvs)).getD i Con.zero).rvs)).length fun i => ((addM (consR (listV (3 : Int) false (prtR X.length fun i => (X.getD i Prt.zero).rvs)).length fun i => ((listV (3 : Int) false (prtR X.length fun i => (X.getD i Prt.zero).rvs)).getD i Con.zero).rvs) (consR (addM (consR (listV (3 : Int) false (prtR Y.length fun i => (Y.getD i Prt.zero).rvs)).length fun i => ((listV (3 : Int) false (prtR Y.length fun i => (Y.getD i Prt.zero).rvs)).getD i Con.zero).rvs) (consR (listV (2 : Int) false (prtR W.length fun i => (W.getD i Prt.zero).rvs)).length fun i => ((listV (2 : Int) false (prtR W.length fun i => (W.getD i Prt.zero).rvs)).getD i Con.zero).rvs)).length fun i => ((addM (consR (listV (3 : Int) false (prtR Y.length fun i => (Y.getD i Prt.zero).rvs)).length fun i => ((listV (3 : Int) false (prtR Y.length fun i => (Y.getD i Prt.zero).rvs)).getD i Con.zero).rvs) (consR (listV (2 : Int) false (prtR W.length fun i => (W.getD i Prt.zero).rvs)).length fun i => ((listV (2 : Int) false (prtR W.length fun i => (W.getD i Prt.zero).rvs)).getD i Con.zero).rvs)).getD i Con.zero).rvs)).getD i Con.zero).rvs) ∧ (addM (consR (addM (consR (listV (3 : Int) false (prtR X.length fun i => (X.getD i Prt.zero).rvs)).length fun i => ((listV (3 : Int) false (prtR X.length fun i => (X.getD i Prt.zero).rvs)).getD i Con.zero).rvs) (consR (listV (3 : Int) false (prtR Y.length fun i => (Y.getD i Prt.zero).rvs)).length fun i => ((listV (3 : Int) false (prtR Y.length fun i => (Y.getD i Prt.zero).rvs)).getD i Con.zero).rvs)).length fun i => ((addM (consR (listV (3 : Int) false (prtR X.length fun i => (X.getD i Prt.zero).rvs)).length fun i => ((listV (3 : Int) false (prtR X.length fun i => (X.getD i Prt.zero).rvs)).getD i Con.zero).rvs) (consR (listV (3 : Int) false (prtR Y.length fun i => (Y.getD i Prt.zero).rvs)).length fun i => ((listV (3 : Int) false (prtR Y.length fun i => (Y.getD i Prt.zero).rvs)).getD i Con.zero).rvs)).getD i Con.zero).rvs) (consR (listV (2 : Int) false (prtR W.length fun i => (W.getD i Prt.zero).rvs)).length fun i => ((listV (2 : Int) false (prtR W.length fun i => (W.getD i Prt.zero).rvs)).getD i Con.zero).rvs)).length ≤ (1000 : Nat), Dec true true, (∀ (i : Nat), i < (addM (consR (listV (3 : Int) false (prtR X.length fun i => (X.getD i Prt.zero).rvs)).length fun i => ((listV (3 : Int) false (prtR X.length fun i => (X.getD i Prt.zero).rvs)).getD i Con.zero).rvs) (consR (listV (3 : Int) false (prtR Y.length fun i => (Y.getD i Prt.zero).rvs)).length fun i => ((listV (3 : Int) false (prtR Y.length fun i => (Y.getD i Prt.zero).rvs)).getD i Con.zero).rvs)).length → (fun i => ((addM (consR (listV (3 : Int) false (prtR X.length fun i => (X.getD i Prt.zero).rvs)).length fun i => ((listV (3 : Int) false (prtR X.length fun i => (X.getD i Prt.zero).rvs)).getD i Con.zero).rvs) (consR (listV (3 : Int) false (prtR Y.length fun i => (Y.getD i Prt.zero).rvs)).length fun i => ((listV (3 : Int) false (prtR Y.length fun i => (Y.getD i Prt.zero).rvs)).getD i Con.zero).rvs)).getD i Con.zero).rvs) i = (Con.ofR ((fun i => ((addM (consR (listV (3 : Int) false (prtR X.length fun i => (X.getD i Prt.zero).rvs)).length fun i => ((listV (3 : Int) false (prtR X.length fun i => (X.getD i Prt.zero).rvs)).getD i Con.zero).rvs) (consR (listV (3 : Int) false (prtR Y.length fun i => (Y.getD i Prt.zero).rvs)).length fun i => ((listV (3 : Int) false (prtR Y.length fun i => (Y.getD i Prt.zero).rvs)).getD i Con.zero).rvs)).getD i Con.zero).rvs) i)).rvs) ∧ (∀ (i : Nat), i < (addM (consR (listV (3 : Int) false (prtR Y.length fun i => (Y.getD i Prt.zero).rvs)).length fun i => ((listV (3 : Int) false (prtR Y.length fun i => (Y.getD i Prt.zero).rvs)).getD i Con.zero).rvs) (consR (listV (3 : Int) false (prtR X.length fun i => (X.getD i Prt.zero).rvs)).length fun i => ((listV (3 : Int) false (prtR X.length fun i => (X.getD i Prt.zero).rvs)).getD i Con.zero).rvs)).length → (fun i => ((addM (consR (listV (3 : Int) false (prtR Y.length fun i => (Y.getD i Prt.zero).rvs)).length fun i => ((listV (3 : Int) false (prtR Y.length fun i => (Y.getD i Prt.zero).rvs)).getD i Con.zero).rvs) (consR (listV (3 : Int) false (prtR X.length fun i => (X.getD i Prt.zero).rvs)).length fun i => ((listV (3 : Int) false (prtR X.length fun i => (X.getD i Prt.zero).rvs)).getD i Con.zero).rvs)).getD i Con.zero).rvs) i = (Con.ofR ((fun i => ((addM (consR (listV (3 : Int) false (prtR Y.length fun i => (Y.getD i Prt.zero).rvs)).length fun i => ((listV (3 : Int) false (prtR Y.length fun i => (Y.getD i Prt.zero).rvs)).getD i Con.zero).rvs) (consR (listV (3 : Int) false (prtR X.length fun i => (X.getD i Prt.zero).rvs)).length fun i => ((listV (3 : Int) false (prtR X.length fun i => (X.getD i Prt.zero).rvs)).getD i Con.zero).rvs)).getD i Con.zero).rvs) i)).rvs) ∧ Q.oddPr kx = Q.oddPr kx ∧ ((consR (addM (consR (listV (3 : Int) false (prtR X.length fun i => (X.getD i Prt.zero).rvs)).length fun i => ((listV (3 : Int) false (prtR X.length fun i => (X.getD i Prt.zero).rvs)).getD i Con.zero).rvs) (consR (listV (3 : Int) false (prtR Y.length fun i => (Y.getD i Prt.zero).rvs)).length fun i => ((listV (3 : Int) false (prtR Y.length fun i => (Y.getD i Prt.zero).rvs)).getD i Con.zero).rvs)).length fun i => ((addM (consR (listV (3 : Int) false (prtR X.length fun i => (X.getD i Prt.zero).rvs)).length fun i => ((listV (3 : Int) false (prtR X.length fun i => (X.getD i Prt.zero).rvs)).getD i Con.zero).rvs) (consR (listV (3 : Int) false (prtR Y.length fun i => (Y.getD i Prt.zero).rvs)).length fun i => ((listV (3 : Int) false (prtR Y.length fun i => (Y.getD i Prt.zero).rvs)).getD i Con.zero).rvs)).getD i Con.zero).rvs) = consR (addM (consR (listV (3 : Int) false (prtR Y.length fun i => (Y.getD i Prt.zero).rvs)).length fun i => ((listV (3 : Int) false (prtR Y.length fun i => (Y.getD i Prt.zero).rvs)).getD i Con.zero).rvs) (consR (listV (3 : Int) false (prtR X.length fun i => (X.getD i Prt.zero).rvs)).length fun i => ((listV (3 : Int) false (prtR X.length fun i => (X.getD i Prt.zero).rvs)).getD i Con.zero).rvs)).length fun i => ((addM (consR (listV (3 : Int) false (prtR Y.length fun i => (Y.getD i Prt.zero).rvs)).length fun i => ((listV (3 : Int) false (prtR Y.length fun i => (Y.getD i Prt.zero).rvs)).getD i Con.zero).rvs) (consR (listV (3 : Int) false (prtR X.length fun i => (X.getD i Prt.zero).rvs)).length fun i => ((listV (3 : Int) false (prtR X.length fun i => (X.getD i Prt.zero).rvs)).getD i Con.zero).rvs)).getD i Con.zero).rvs) ∧ (addM (consR (listV (3 : Int) false (prtR X.length fun i => (X.getD i Prt.zero).rvs)).length fun i => ((listV (3 : Int) false (prtR X.length fun i => (X.getD i Prt.zero).rvs)).getD i Con.zero).rvs) (consR (listV (3 : Int) false (prtR Y.length fun i => (Y.getD i Prt.zero).rvs)).length fun i => ((listV (3 : Int) false (prtR Y.length fun i => (Y.getD i Prt.zero).rvs)).getD i Con.zero).rvs)).length ≤ (1000 : Nat), Dec ((0 : Int) == (0 : Int)) true, Dec ((0 : Int) == (0 : Int)) true, Dec ((0 : Int) == (0 : Int)) true, Dec ((0 : Int) == (0 : Int)) true, Dec ((0 : Int) == (0 : Int)) true, Dec ((0 : Int) == (0 : Int)) true, Dec ((0 : Int) == (0 : Int)) true, Dec ((0 : Int) == (0 : Int)) true, (∀ (i : Nat), i < (addM (consR (listV (3 : Int) false (prtR X.length fun i => (X.getD i Prt.zero).rvs)).length fun i => ((listV (3 : Int) false (prtR X.length fun i => (X.getD i Prt.zero).rvs)).getD i Con.zero).rvs) (consR (listV (3 : Int) false (prtR Y.length fun i => (Y.getD i Prt.zero).rvs)).length fun i => ((listV (3 : Int) false (prtR Y.length fun i => (Y.getD i Prt.zero).rvs)).getD i Con.zero).rvs)).length → (fun i => ((addM (consR (listV (3 : Int) false (prtR X.length fun i => (X.getD i Prt.zero).rvs)).length fun i => ((listV (3 : Int) false (prtR X.length fun i => (X.getD i Prt.zero).rvs)).getD i Con.zero).rvs) (consR (listV (3 : Int) false (prtR Y.length fun i => (Y.getD i Prt.zero).rvs)).length fun i => ((listV (3 : Int) false (prtR Y.length fun i => (Y.getD i Prt.zero).rvs)).getD i Con.zero).rvs)).getD i Con.zero).rvs) i = (Con.ofR ((fun i => ((addM (consR (listV (3 : Int) false (prtR X.length fun i => (X.getD i Prt.zero).rvs)).length fun i => ((listV (3 : Int) false (prtR X.length fun i => (X.getD i Prt.zero).rvs)).getD i Con.zero).rvs) (consR (listV (3 : Int) false (prtR Y.length fun i => (Y.getD i Prt.zero).rvs)).length fun i => ((listV (3 : Int) false (prtR Y.length fun i => (Y.getD i Prt.zero).rvs)).getD i Con.zero).rvs)).getD i Con.zero).rvs) i)).rvs) ∧ vSS (Q.oddPr kx) (consR (addM (consR (listV (3 : Int) false (prtR X.length fun i => (X.getD i Prt.zero).rvs)).length fun i => ((listV (3 : Int) false (prtR X.length fun i => (X.getD i Prt.zero).rvs)).getD i Con.zero).rvs) (consR (listV (3 : Int) false (prtR Y.length fun i => (Y.getD i Prt.zero).rvs)).length fun i => ((listV (3 : Int) false (prtR Y.length fun i => (Y.getD i Prt.zero).rvs)).getD i Con.zero).rvs)).length fun i => ((addM (consR (listV (3 : Int) false (prtR X.length fun i => (X.getD i Prt.zero).rvs)).length fun i => ((listV (3 : Int) false (prtR X.length fun i => (X.getD i Prt.zero).rvs)).getD i Con.zero).rvs) (consR (listV (3 : Int) false (prtR Y.length fun i => (Y.getD i Prt.zero).rvs)).length fun i => ((listV (3 : Int) false (prtR Y.length fun i => (Y.getD i Prt.zero).rvs)).getD i Con.zero).rvs)).getD i Con.zero).rvs) = true, (∀ (i : Nat), i < (listV (3 : Int) false (prtR Y.length fun i => (Y.getD i Prt.zero).rvs)).length → (fun i => ((listV (3 : Int) false (prtR Y.length fun i => (Y.getD i Prt.zero).rvs)).getD i Con.zero).rvs) i = (Con.ofR ((fun i => ((listV (3 : Int) false (prtR Y.length fun i => (Y.getD i Prt.zero).rvs)).getD i Con.zero).rvs) i)).rvs) ∧ vSS (Q.oddPr kx) (consR (listV (3 : Int) false (prtR Y.length fun i => (Y.getD i Prt.zero).rvs)).length fun i => ((listV (3 : Int) false (prtR Y.length fun i => (Y.getD i Prt.zero).rvs)).getD i Con.zero).rvs) = true, (∀ (i : Nat), i < (listV (3 : Int) false (prtR X.length fun i => (X.getD i Prt.zero).rvs)).length → (fun i => ((listV (3 : Int) false (prtR X.length fun i => (X.getD i Prt.zero).rvs)).getD i Con.zero).rvs) i = (Con.ofR ((fun i => ((listV (3 : Int) false (prtR X.length fun i => (X.getD i Prt.zero).rvs)).getD i Con.zero).rvs) i)).rvs) ∧ vSS (Q.oddPr kx) (consR (listV (3 : Int) false (prtR X.length fun i => (X.getD i Prt.zero).rvs)).length fun i => ((listV (3 : Int) false (prtR X.length fun i => (X.getD i Prt.zero).rvs)).getD i Con.zero).rvs) = true, (∀ (i : Nat), i < (listV (3 : Int) false (prtR X.length fun i => (X.getD i Prt.zero).rvs)).length → (fun i => ((listV (3 : Int) false (prtR X.length fun i => (X.getD i Prt.zero).rvs)).getD i Con.zero).rvs) i = (Con.ofR ((fun i => ((listV (3 : Int) false (prtR X.length fun i => (X.getD i Prt.zero).rvs)).getD i Con.zero).rvs) i)).rvs) ∧ (∀ (i : Nat), i < (addM (consR (listV (3 : Int) false (prtR Y.length fun i => (Y.getD i Prt.zero).rvs)).length fun i => ((listV (3 : Int) false (prtR Y.length fun i => (Y.getD i Prt.zero).rvs)).getD i Con.zero).rvs) (consR (listV (2 : Int) false (prtR W.length fun i => (W.getD i Prt.zero).rvs)).length fun i => ((listV (2 : Int) false (prtR W.length fun i => (W.getD i Prt.zero).rvs)).getD i Con.zero).rvs)).length → (fun i => ((addM (consR (listV (3 : Int) false (prtR Y.length fun i => (Y.getD i Prt.zero).rvs)).length fun i => ((listV (3 : Int) false (prtR Y.length fun i => (Y.getD i Prt.zero).rvs)).getD i Con.zero).rvs) (consR (listV (2 : Int) false (prtR W.length fun i => (W.getD i Prt.zero).rvs)).length fun i => ((listV (2 : Int) false (prtR W.length fun i => (W.getD i Prt.zero).rvs)).getD i Con.zero).rvs)).getD i Con.zero).rvs) i = (Con.ofR ((fun i => ((addM (consR (listV (3 : Int) false (prtR Y.length fun i => (Y.getD i Prt.zero).rvs)).length fun i => ((listV (3 : Int) false (prtR Y.length fun i => (Y.getD i Prt.zero).rvs)).getD i Con.zero).rvs) (consR (listV (2 : Int) false (prtR W.length fun i => (W.getD i Prt.zero).rvs)).length fun i => ((listV (2 : Int) false (prtR W.length fun i => (W.getD i Prt.zero).rvs)).getD i Con.zero).rvs)).getD i Con.zero).rvs) i)).rvs) ∧ Q.oddPr kx = Q.oddPr kx ∧ vSS (Q.oddPr kx) (consR (listV (3 : Int) false (prtR X.length fun i => (X.getD i Prt.zero).rvs)).length fun i => ((listV (3 : Int) false (prtR X.length fun i => (X.getD i Prt.zero).rvs)).getD i Con.zero).rvs) = true ∧ vSS (Q.oddPr kx) (consR (addM (consR (listV (3 : Int) false (prtR Y.length fun i => (Y.getD i Prt.zero).rvs)).length fun i => ((listV (3 : Int) false (prtR Y.length fun i => (Y.getD i Prt.zero).rvs)).getD i Con.zero).rvs) (consR (listV (2 : Int) false (prtR W.length fun i => (W.getD i Prt.zero).rvs)).length fun i => ((listV (2 : Int) false (prtR W.length fun i => (W.getD i Prt.zero).rvs)).getD i Con.zero).rvs)).length fun i => ((addM (consR (listV (3 : Int) false (prtR Y.length fun i => (Y.getD i Prt.zero).rvs)).length fun i => ((listV (3 : Int) false (prtR Y.length fun i => (Y.getD i Prt.zero).rvs)).getD i Con.zero).rvs) (consR (listV (2 : Int) false (prtR W.length fun i => (W.getD i Prt.zero).rvs)).length fun i => ((listV (2 : Int) false (prtR W.length fun i => (W.getD i Prt.zero).rvs)).getD i Con.zero).rvs)).getD i Con.zero).rvs) = true ∧ vSS (Q.oddPr kx) (addM (consR (listV (3 : Int) false (prtR X.length fun i => (X.getD i Prt.zero).rvs)).length fun i => ((listV (3 : Int) false (prtR X.length fun i => (X.getD i Prt.zero).rvs)).getD i Con.zero).rvs) (consR (addM (consR (listV (3 : Int) false (prtR Y.length fun i => (Y.getD i Prt.zero).rvs)).length fun i => ((listV (3 : Int) false (prtR Y.length fun i => (Y.getD i Prt.zero).rvs)).getD i Con.zero).rvs) (consR (listV (2 : Int) false (prtR W.length fun i => (W.getD i Prt.zero).rvs)).length fun i => ((listV (2 : Int) false (prtR W.length fun i => (W.getD i Prt.zero).rvs)).getD i Con.zero).rvs)).length fun i => ((addM (consR (listV (3 : Int) false (prtR Y.length fun i => (Y.getD i Prt.zero).rvs)).length fun i => ((listV (3 : Int) false (prtR Y.length fun i => (Y.getD i Prt.zero).rvs)).getD i Con.zero).rvs) (consR (listV (2 : Int) false (prtR W.length fun i => (W.getD i Prt.zero).rvs)).length fun i => ((listV (2 : Int) false (prtR W.length fun i => (W.getD i Prt.zero).rvs)).getD i Con.zero).rvs)).getD i Con.zero).rvs)) = true, (∀ (i : Nat), i < (addM (consR (listV (3 : Int) false (prtR X.length fun i => (X.getD i Prt.zero).rvs)).length fun i => ((listV (3 : Int) false (prtR X.length fun i => (X.getD i Prt.zero).rvs)).getD i Con.zero).rvs) (consR (listV (3 : Int) false (prtR Y.length fun i => (Y.getD i Prt.zero).rvs)).length fun i => ((listV (3 : Int) false (prtR Y.length fun i => (Y.getD i Prt.zero).rvs)).getD i Con.zero).rvs)).length → (fun i => ((addM (consR (listV (3 : Int) false (prtR X.length fun i => (X.getD i Prt.zero).rvs)).length fun i => ((listV (3 : Int) false (prtR X.length fun i => (X.getD i Prt.zero).rvs)).getD i Con.zero).rvs) (consR (listV (3 : Int) false (prtR Y.length fun i => (Y.getD i Prt.zero).rvs)).length fun i => ((listV (3 : Int) false (prtR Y.length fun i => (Y.getD i Prt.zero).rvs)).getD i Con.zero).rvs)).getD i Con.zero).rvs) i = (Con.ofR ((fun i => ((addM (consR (listV (3 : Int) false (prtR X.length fun i => (X.getD i Prt.zero).rvs)).length fun i => ((listV (3 : Int) false (prtR X.length fun i => (X.getD i Prt.zero).rvs)).getD i Con.zero).rvs) (consR (listV (3 : Int) false (prtR Y.length fun i => (Y.getD i Prt.zero).rvs)).length fun i => ((listV (3 : Int) false (prtR Y.length fun i => (Y.getD i Prt.zero).rvs)).getD i Con.zero).rvs)).getD i Con.zero).rvs) i)).rvs) ∧ (∀ (i : Nat), i < (listV (2 : Int) false (prtR W.length fun i => (W.getD i Prt.zero).rvs)).length → (fun i => ((listV (2 : Int) false (prtR W.length fun i => (W.getD i Prt.zero).rvs)).getD i Con.zero).rvs) i = (Con.ofR ((fun i => ((listV (2 : Int) false (prtR W.length fun i => (W.getD i Prt.zero).rvs)).getD i Con.zero).rvs) i)).rvs) ∧ Q.oddPr kx = Q.oddPr kx ∧ vSS (Q.oddPr kx) (consR (addM (consR (listV (3 : Int) false (prtR X.length fun i => (X.getD i Prt.zero).rvs)).length fun i => ((listV (3 : Int) false (prtR X.length fun i => (X.getD i Prt.zero).rvs)).getD i Con.zero).rvs) (consR (listV (3 : Int) false (prtR Y.length fun i => (Y.getD i Prt.zero).rvs)).length fun i => ((listV (3 : Int) false (prtR Y.length fun i => (Y.getD i Prt.zero).rvs)).getD i Con.zero).rvs)).length fun i => ((addM (consR (listV (3 : Int) false (prtR X.length fun i => (X.getD i Prt.zero).rvs)).length fun i => ((listV (3 : Int) false (prtR X.length fun i => (X.getD i Prt.zero).rvs)).getD i Con.zero).rvs) (consR (listV (3 : Int) false (prtR Y.length fun i => (Y.getD i Prt.zero).rvs)).length fun i => ((listV (3 : Int) false (prtR Y.length fun i => (Y.getD i Prt.zero).rvs)).getD i Con.zero).rvs)).getD i Con.zero).rvs) = true ∧ vSS (Q.oddPr kx) (consR (listV (2 : Int) false (prtR W.length fun i => (W.getD i Prt.zero).rvs)).length fun i => ((listV (2 : Int) false (prtR W.length fun i => (W.getD i Prt.zero).rvs)).getD i Con.zero).rvs) = true ∧ vSS (Q.oddPr kx) (addM (consR (addM (consR (listV (3 : Int) false (prtR X.length fun i => (X.getD i Prt.zero).rvs)).length fun i => ((listV (3 : Int) false (prtR X.length fun i => (X.getD i Prt.zero).rvs)).getD i Con.zero).rvs) (consR (listV (3 : Int) false (prtR Y.length fun i => (Y.getD i Prt.zero).rvs)).length fun i => ((listV (3 : Int) false (prtR Y.length fun i => (Y.getD i Prt.zero).rvs)).getD i Con.zero).rvs)).length fun i => ((addM (consR (listV (3 : Int) false (prtR X.length fun i => (X.getD i Prt.zero).rvs)).length fun i => ((listV (3 : Int) false (prtR X.length fun i => (X.getD i Prt.zero).rvs)).getD i Con.zero).rvs) (consR (listV (3 : Int) false (prtR Y.length fun i => (Y.getD i Prt.zero).rvs)).length fun i => ((listV (3 : Int) false (prtR Y.length fun i => (Y.getD i Prt.zero).rvs)).getD i Con.zero).rvs)).getD i Con.zero).rvs) (consR (listV (2 : Int) false (prtR W.length fun i => (W.getD i Prt.zero).rvs)).length fun i => ((listV (2 : Int) false (prtR W.length fun i => (W.getD i Prt.zero).rvs)).getD i Con.zero).rvs)) = true, (∀ (i : Nat), i < (listV (3 : Int) false (prtR Y.length fun i => (Y.getD i Prt.zero).rvs)).length → (fun i => ((listV (3 : Int) false (prtR Y.length fun i => (Y.getD i Prt.zero).rvs)).getD i Con.zero).rvs) i = (Con.ofR ((fun i => ((listV (3 : Int) false (prtR Y.length fun i => (Y.getD i Prt.zero).rvs)).getD i Con.zero).rvs) i)).rvs) ∧ (∀ (i : Nat), i < (listV (2 : Int) false (prtR W.length fun i => (W.getD i Prt.zero).rvs)).length → (fun i => ((listV (2 : Int) false (prtR W.length fun i => (W.getD i Prt.zero).rvs)).getD i Con.zero).rvs) i = (Con.ofR ((fun i => ((listV (2 : Int) false (prtR W.length fun i => (W.getD i Prt.zero).rvs)).getD i Con.zero).rvs) i)).rvs) ∧ Q.oddPr kx = Q.oddPr kx ∧ vSS (Q.oddPr kx) (consR (listV (3 : Int) false (prtR Y.length fun i => (Y.getD i Prt.zero).rvs)).length fun i => ((listV (3 : Int) false (prtR Y.length fun i => (Y.getD i Prt.zero).rvs)).getD i Con.zero).rvs) = true ∧ vSS (Q.oddPr kx) (consR (listV (2 : Int) false (prtR W.length fun i => (W.getD i Prt.zero).rvs)).length fun i => ((listV (2 : Int) false (prtR W.length fun i => (W.getD i Prt.zero).rvs)).getD i Con.zero).rvs) = true ∧ vSS (Q.oddPr kx) (addM (consR (listV (3 : Int) false (prtR Y.length fun i => (Y.getD i Prt.zero).rvs)).length fun i => ((listV (3 : Int) false (prtR Y.length fun i => (Y.getD i Prt.zero).rvs)).getD i Con.zero).rvs) (consR (listV (2 : Int) false (prtR W.length fun i => (W.getD i Prt.zero).rvs)).length fun i => ((listV (2 : Int) false (prtR W.length fun i => (W.getD i Prt.zero).rvs)).getD i Con.zero).rvs)) = true, (∀ (i : Nat), i < (listV (3 : Int) false (prtR Y.length fun i => (Y.getD i Prt.zero).rvs)).length → (fun i => ((listV (3 : Int) false (prtR Y.length fun i => (Y.getD i Prt.zero).rvs)).getD i Con.zero).rvs) i = (Con.ofR ((fun i => ((listV (3 : Int) false (prtR Y.length fun i => (Y.getD i Prt.zero).rvs)).getD i Con.zero).rvs) i)).rvs) ∧ (∀ (i : Nat), i < (listV (3 : Int) false (prtR X.length fun i => (X.getD i Prt.zero).rvs)).length → (fun i => ((listV (3 : Int) false (prtR X.length fun i => (X.getD i Prt.zero).rvs)).getD i Con.zero).rvs) i = (Con.ofR ((fun i => ((listV (3 : Int) false (prtR X.length fun i => (X.getD i Prt.zero).rvs)).getD i Con.zero).rvs) i)).rvs) ∧ Q.oddPr kx = Q.oddPr kx ∧ vSS (Q.oddPr kx) (consR (listV (3 : Int) false (prtR Y.length fun i => (Y.getD i Prt.zero).rvs)).length fun i => ((listV (3 : Int) false (prtR Y.length fun i => (Y.getD i Prt.zero).rvs)).getD i Con.zero).rvs) = true ∧ vSS (Q.oddPr kx) (consR (listV (3 : Int) false (prtR X.length fun i => (X.getD i Prt.zero).rvs)).length fun i => ((listV (3 : Int) false (prtR X.length fun i => (X.getD i Prt.zero).rvs)).getD i Con.zero).rvs) = true ∧ vSS (Q.oddPr kx) (addM (consR (listV (3 : Int) false (prtR Y.length fun i => (Y.getD i Prt.zero).rvs)).length fun i => ((listV (3 : Int) false (prtR Y.length fun i => (Y.getD i Prt.zero).rvs)).getD i Con.zero).rvs) (consR (listV (3 : Int) false (prtR X.length fun i => (X.getD i Prt.zero).rvs)).length fun i => ((listV (3 : Int) false (prtR X.length fun i => (X.getD i Prt.zero).rvs)).getD i Con.zero).rvs)) = true, (∀ (i : Nat), i < (listV (3 : Int) false (prtR X.length fun i => (X.getD i Prt.zero).rvs)).length → (fun i => ((listV (3 : Int) false (prtR X.length fun i => (X.getD i Prt.zero).rvs)).getD i Con.zero).rvs) i = (Con.ofR ((fun i => ((listV (3 : Int) false (prtR X.length fun i => (X.getD i Prt.zero).rvs)).getD i Con.zero).rvs) i)).rvs) ∧ (∀ (i : Nat), i < (listV (3 : Int) false (prtR Y.length fun i => (Y.getD i Prt.zero).rvs)).length → (fun i => ((listV (3 : Int) false (prtR Y.length fun i => (Y.getD i Prt.zero).rvs)).getD i Con.zero).rvs) i = (Con.ofR ((fun i => ((listV (3 : Int) false (prtR Y.length fun i => (Y.getD i Prt.zero).rvs)).getD i Con.zero).rvs) i)).rvs) ∧ Q.oddPr kx = Q.oddPr kx ∧ vSS (Q.oddPr kx) (consR (listV (3 : Int) false (prtR X.length fun i => (X.getD i Prt.zero).rvs)).length fun i => ((listV (3 : Int) false (prtR X.length fun i => (X.getD i Prt.zero).rvs)).getD i Con.zero).rvs) = true ∧ vSS (Q.oddPr kx) (consR (listV (3 : Int) false (prtR Y.length fun i => (Y.getD i Prt.zero).rvs)).length fun i => ((listV (3 : Int) false (prtR Y.length fun i => (Y.getD i Prt.zero).rvs)).getD i Con.zero).rvs) = true ∧ vSS (Q.oddPr kx) (addM (consR (listV (3 : Int) false (prtR X.length fun i => (X.getD i Prt.zero).rvs)).length fun i => ((listV (3 : Int) false (prtR X.length fun i => (X.getD i Prt.zero).rvs)).getD i Con.zero).rvs) (consR (listV (3 : Int) false (prtR Y.length fun i => (Y.getD i Prt.zero).rvs)).length fun i => ((listV (3 : Int) false (prtR Y.length fun i => (Y.getD i Prt.zero).rvs)).getD i Con.zero).rvs)) = true, (∀ (i : Nat), i < W.length → (fun i => (W.getD i Prt.zero).rvs) i = (Prt.ofR ((fun i => (W.getD i Prt.zero).rvs) i)).rvs) ∧ (∀ (p : Prt), (p ∈ prtR W.length fun i => (W.getD i Prt.zero).rvs) → p.ok) ∧ (1 : Int) ≤ (2 : Int) ∧ (2 : Int) ≤ (100 : Int) ∧ W.length ≤ (1000 : Nat), kx = kx, W.length = W.length ∧ (fun i => (W.getD i Prt.zero).rvs) = fun i => (W.getD i Prt.zero).rvs, (0 : Int) ≤ kx ∧ kx ≤ (255 : Int), kx = kx, W.length = W.length ∧ (fun i => (W.getD i Prt.zero).rvs) = fun i => (W.getD i Prt.zero).rvs, kx = kx, W.length = W.length ∧ (fun i => (W.getD i Prt.zero).rvs) = fun i => (W.getD i Prt.zero).rvs, (∀ (i : Nat), i < Y.length → (fun i => (Y.getD i Prt.zero).rvs) i = (Prt.ofR ((fun i => (Y.getD i Prt.zero).rvs) i)).rvs) ∧ (∀ (p : Prt), (p ∈ prtR Y.length fun i => (Y.getD i Prt.zero).rvs) → p.ok) ∧ (1 : Int) ≤ (3 : Int) ∧ (3 : Int) ≤ (100 : Int) ∧ Y.length ≤ (1000 : Nat), kx = kx, Y.length = Y.length ∧ (fun i => (Y.getD i Prt.zero).rvs) = fun i => (Y.getD i Prt.zero).rvs, (0 : Int) ≤ kx ∧ kx ≤ (255 : Int), kx = kx, Y.length = Y.length ∧ (fun i => (Y.getD i Prt.zero).rvs) = fun i => (Y.getD i Prt.zero).rvs, (∀ (i : Nat), i < X.length → (fun i => (X.getD i Prt.zero).rvs) i = (Prt.ofR ((fun i => (X.getD i Prt.zero).rvs) i)).rvs) ∧ (∀ (p : Prt), (p ∈ prtR X.length fun i => (X.getD i Prt.zero).rvs) → p.ok) ∧ (1 : Int) ≤ (3 : Int) ∧ (3 : Int) ≤ (100 : Int) ∧ X.length ≤ (1000 : Nat), kx = kx, X.length = X.length ∧ (fun i => (X.getD i Prt.zero).rvs) = fun i => (X.getD i Prt.zero).rvs, (0 : Int) ≤ kx ∧ kx ≤ (255 : Int), kx = kx, Dec (decide ((↑W.length : Int) > (20 : Int))) false, Dec (decide ((↑Y.length : Int) > (20 : Int))) false, Dec (decide ((↑X.length : Int) > (20 : Int))) false]) (by kernel_rfl) (by refine ⟨?_, d6, ?_, d5, ?_, d5, ?_, d4, d4, d4, d4, d4, d4, d4, d4, ?_, ?_, ?_, ?_, ?_, ?_, ?_, ?_, ?_, ?_, ?_, ?_, ?_, ?_, ?_, ?_, ?_, ?_, ?_, ?_, ?_, ?_, ?_, ?_, ?_, ?_, ?_, d3, d2, d1⟩ <;> (first | (with_reducible rfl) | (with_reducible exact ⟨rfl, rfl⟩) | exact ⟨hk.1, hk.2⟩ | (exact (by decide : (8 : Int) ≠ 0)) | (simp only [prtR_ro, consR_ro, decide_eq_false_iff_not, gt_iff_lt] at d1 d2 d3 ⊢ <;> first | trivial | exact ⟨trivial, trivial⟩ | exact ⟨fun _ _ => rfl, hX, by decide, by decide, by omega⟩ | exact ⟨fun _ _ => rfl, hY, by decide, by decide, by omega⟩ | exact ⟨fun _ _ => rfl, hW, by decide, by decide, by omega⟩ | exact ⟨fun _ _ => rfl, fun _ _ => rfl, by trivial, va, vb, vab⟩ | exact ⟨fun _ _ => rfl, fun _ _ => rfl, by trivial, vb, va, vba⟩ | exact ⟨fun _ _ => rfl, fun _ _ => rfl, by trivial, vb, vc, vbc⟩ | exact ⟨fun _ _ => rfl, fun _ _ => rfl, by trivial, vab, vc, vp⟩ | exact ⟨fun _ _ => rfl, fun _ _ => rfl, by trivial, va, vbc, vq⟩ | exact ⟨fun _ _ => rfl, va⟩ | exact ⟨fun _ _ => rfl, vb⟩ | exact ⟨fun _ _ => rfl, vab⟩ | exact ⟨fun _ _ => rfl, fun _ _ => rfl, by trivial, addM_comm _ _, by omega⟩ | exact ⟨fun _ _ => rfl, fun _ _ => rfl, by trivial, addM_assoc _ _ _, by omega⟩)))
            · -- false
              exfalso
              first | (exact absurd d4 (by decide)) | (exact absurd d5 (by decide)) | (simp only [prtR_ro, consR_ro] at d6; rw [exc_eq he] at d6; cases d6; done) | (simp only [prtR_ro, consR_ro] at d5; rw [exc_eq he] at d5; cases d5; done)
          · -- false
            exfalso
            first | (exact absurd d4 (by decide)) | (exact absurd d5 (by decide)) | (simp only [prtR_ro, consR_ro] at d6; rw [exc_eq he] at d6; cases d6; done) | (simp only [prtR_ro, consR_ro] at d5; rw [exc_eq he] at d5; cases d5; done)
        · -- false
          exfalso
          first | (exact absurd d4 (by decide)) | (exact absurd d5 (by decide)) | (simp only [prtR_ro, consR_ro] at d6; rw [exc_eq he] at d6; cases d6; done) | (simp only [prtR_ro, consR_ro] at d5; rw [exc_eq he] at d5; cases d5; done)
end Go.Proofs.YtbjfdfjmclggkaaGreatDoor.S

/- SymbolSums returns true whatever the input, and its arguments read as before: the row's statement. -/
namespace Go.Proofs.YtbjfdfjmclggkaaGreatDoor.symbolSums
open Go.ChangeShapes Go.WideShapes Go.ChangeAt Go.RowKit Go.Joins Go.Deep
open Go.QfSy (Con RV RRel RsRel FzAt roC Fz Tb TabW PureC)
open S

theorem readable : ∀ t ∈ Tryz.f4.params.toList, Tryz.prog.readableRec t = true ∧ t < Tryz.prog.types.size := by
  have h : (Tryz.f4.params.toList.all fun t => Tryz.prog.readableRec t && Nat.blt t Tryz.prog.types.size) = true := by kernel_rfl
  intro t ht
  have := List.all_eq_true.1 h t ht
  simp only [Bool.and_eq_true] at this
  exact ⟨this.1, Nat.le_of_ble_eq_true this.2⟩

set_option maxRecDepth 100000 in
theorem contract (H : Type) (enc : TypeId × Value → H) (W : World) (base : Nat) (args : Array Value) (ds gs : List (DataW H)) (before : List MemPlace)
    (hval : ∀ (j : Nat) t v, Tryz.f4.params[j]? = some t → args[j]? = some v → Value.okWide Tryz.prog W .any base t v)
    (hW : DataW.Whole enc Tryz.prog Tryz.f4.params.toList Rows.symbolSumsSpec.vars false W args.toList ds gs before) (hO : TabW tabs W) :
    Calls Tryz.prog 4 args W fun e W' => ∃ v, e = .returned v ∧ Rows.symbolSumsSpec.post enc Tryz.prog Tryz.f4 false true false false W args v W' := by
  have hW' := hW
  obtain ⟨p, q, hA0, hV, rfl, hfz, hnd⟩ := hW
  have hA : DataW.TrodAll enc Tryz.prog W 0 (fun _ => true) true Tryz.f4.params.toList args.toList ds p := hA0
  rw [Tryz.params4] at hA hval
  obtain ⟨v0, vs0, d0, ds0, p0, q0, hargs0, rfl, rfl, h0, r0⟩ := trodAll_cons hA
  obtain ⟨v1, vs1, d1, ds1, p1, q1, hargs1, rfl, rfl, h1, r1⟩ := trodAll_cons r0
  obtain ⟨v2, vs2, d2, ds2, p2, q2, hargs2, rfl, rfl, h2, r2⟩ := trodAll_cons r1
  obtain ⟨rfl, rfl, rfl⟩ := trodAll_nil r2
  obtain rfl : args = #[v0, v1, v2] := by cases args; simp_all
  obtain ⟨P0, X0, hr0, hP0, hn0, ho0⟩ := open_symbol symbolTys (hval 0 27 v0 rfl rfl) h0
  obtain ⟨P1, X1, hr1, hP1, hn1, ho1⟩ := open_symbol symbolTys (hval 1 27 v1 rfl rfl) h1
  obtain ⟨P2, X2, hr2, hP2, hn2, ho2⟩ := open_symbol symbolTys (hval 2 27 v2 rfl rfl) h2
  refine (pure_calls (symbolSums_pure P0 X0 P1 X1 P2 X2 hP0 ho0 ho1 ho2) hO (.cons hr0 (.cons hr1 (.cons hr2 .nil)))).mono fun e W' ⟨he, hb⟩ => ?_
  exact ⟨_, he, law_post laidOut readable rfl Tryz.underlying4 rfl hW' rfl hb⟩

def wArgs : Array Value := #[.agg #[.int .u8 0, .slice none 0 0], .agg #[.int .u8 0, .slice none 0 0], .agg #[.int .u8 0, .slice none 0 0]]
theorem laid_met (os : Os) : laidMet Tryz.prog Rows.symbolSumsRow.laid ((laidWorld os).forCall (fun _ _ => 0) ⟨#[], wArgs, []⟩).memory :=
  laidMet_of_run' 8 (by kernel_rfl) (by kernel_rfl)
theorem reads (os : Os) {H : Type} (enc : TypeId × Value → H) : ∃ ds places, DataW.whole enc Tryz.prog ((laidWorld os).forCall (fun _ _ => 0) ⟨#[], wArgs, []⟩).memory Tryz.f4.params.toList Rows.symbolSumsSpec.vars false wArgs.toList 8 = some (ds, [], places) :=
  ⟨[.agg [.lit (.int .u8 0), .nil], .agg [.lit (.int .u8 0), .nil], .agg [.lit (.int .u8 0), .nil]], [], by kernel_rfl⟩

set_option maxRecDepth 100000 in
theorem lifted (os : Os) (started : os.Started) (H : Type) (enc : TypeId × Value → H) (F : Stop.Interp) :
    ReturnsInHanded {} Tryz.checked os 4 .any ((OpenSpec.ofChange Rows.symbolSumsSpec).preRow enc Tryz.prog Tryz.f4 Rows.symbolSumsRow.domain false Rows.symbolSumsRow.laid) (((OpenSpec.ofChange Rows.symbolSumsSpec).at F).post enc Tryz.prog Tryz.f4 false true false false) := by
  refine returnsInHanded_of_row (C := Tryz.checked) (s := OpenSpec.ofChange Rows.symbolSumsSpec) own started (by kernel_rfl) Tryz.func4
    (witness_row_at (enc := enc) (C := Tryz.checked) false (laidWorld os) wArgs rfl (by kernel_rfl) (by kernel_rfl) (by kernel_rfl)
      (OpenSpec.preRow_of_cond 8 (reads os enc).choose_spec.choose_spec (by kernel_rfl) (fun k hk => by cases hk) (by kernel_rfl) (laid_met os))) ?_
  intro W base args ds gs before hval hW _ _ _ hL hS _
  exact contract H enc W base args ds gs before hval hW (tabs_of hL hS)

theorem named : Tryz.prog.funcNamed Rows.symbolSumsRow.func = some 4 := by kernel_rfl
theorem facts : joinedFacts Tryz.prog 4 Tryz.f4 (OpenSpec.ofChange Rows.symbolSumsSpec).bare Rows.symbolSumsRow = true := by kernel_rfl
theorem inst : Tryz.f4.isInstance Tryz.prog Rows.symbolSumsRow.origin Rows.symbolSumsRow.targs := of_decide_eq_true (by kernel_rfl)
theorem wrap : Tryz.f4.isWrapper Tryz.prog Rows.symbolSumsRow.wrapper Rows.symbolSumsRow.mainSum := by
  unfold Func.isWrapper; first | (rw [if_pos (by decide +kernel)]; kernel_rfl) | (rw [if_neg (by decide +kernel)]; exact ⟨rfl, rfl⟩)
theorem said : Rows.SymbolSumsSaid :=
  OpenClaim.holds_of_cond 4 Tryz.f4 rfl rfl rfl rfl rfl rfl rfl ⟨rfl, rfl, rfl, rfl, rfl⟩ rfl rfl rfl rfl rfl named Tryz.func4 facts inst wrap
    (fun os started H enc _ F => by rw [OpenClaim.pre_eq_preRow]; exact lifted os started H enc F)
end Go.Proofs.YtbjfdfjmclggkaaGreatDoor.symbolSums

/- SymbolSums returns true whatever the input, and its arguments read as before: the tied card. -/
namespace Go.Proofs.YtbjfdfjmclggkaaGreatDoor.symbolSums
open Go.ChangeShapes Go.WideShapes Go.ChangeAt Go.RowKit Go.Joins Go.Deep

theorem stands : (Tryz.f4.params.toList.all fun t => !Tryz.prog.wantsStandIn t) = true := by kernel_rfl
theorem looks : false = Tryz.prog.looks [] := by kernel_rfl
theorem plain (f : FuncId) (fn : Func) (hf : Tryz.pinned.checked.prog.funcNamed "quadform/quadformlaw26.SymbolSums" = some f) (hfn : Tryz.pinned.checked.prog.funcs[f]? = some fn) :
    false = Tryz.pinned.checked.prog.looks [] ∧ ∀ (j : Nat) t, fn.params[j]? = some t → Tryz.pinned.checked.prog.wantsStandIn t = false := by
  obtain rfl : f = 4 := Option.some.inj (named.symm.trans hf) |>.symm
  obtain rfl : fn = Tryz.f4 := (Option.some.inj (Tryz.func4.symm.trans hfn)).symm
  refine ⟨looks, fun j t ht => ?_⟩
  have := List.all_eq_true.1 stands t (by simpa using Array.mem_of_getElem? ht)
  exact (by simpa using this : Tryz.prog.wantsStandIn t = false)
theorem holds : Rows.SymbolSumsCardSaid :=
  Claim7.holds_tied_plain_at .later [] _ _ _ _ said (fun _ h => by cases h) (by kernel_rfl) (fun _ h => by cases h) symbolSums_row_tie rfl ⟨rfl, rfl⟩ (by kernel_rfl) rfl plain (by kernel_rfl)
end Go.Proofs.YtbjfdfjmclggkaaGreatDoor.symbolSums

