/- A part of the proof of the laws: YD, Y1, YA, YR, YK, TE, TM, VC, VG, VP. -/
import Derived.Test.YtcfdaddablojlaaGreatDoorPkSB1
set_option linter.unusedSimpArgs false
set_option linter.unusedVariables false
namespace Go.Proofs.YtcfdaddablojlaaGreatDoor.S
open Go.QfSy Go.RowKit
abbrev atP (X : List Prt) (i : Nat) : Prt := X.getD i Prt.zero
theorem dropP {X : List Prt} {k : Nat} (h : k < X.length) : X.drop k = atP X k :: X.drop (k + 1) := by
  rw [List.drop_eq_getElem_cons h]
  simp [atP, h]
theorem okP {X : List Prt} (hX : ∀ p ∈ X, p.ok) (k : Nat) : (atP X k).ok := by
  unfold atP
  rcases Nat.lt_or_ge k X.length with h | h
  · have : X.getD k Prt.zero = X[k] := by simp [h]
    rw [this]
    exact hX _ (List.getElem_mem h)
  · have : X.getD k Prt.zero = Prt.zero := by simp [h]
    rw [this]
    refine ⟨?_, ?_, ?_, ?_, ?_⟩ <;> (unfold U8 Prt.zero; decide)
def expM (p : Prt) (e : Int) : Int := e + (1 + p.x0 % 4 % 3)
theorem expM_b {p : Prt} (e : Int) : e + 1 ≤ expM p e ∧ expM p e ≤ e + 3 := by unfold expM; omega
theorem raw_exp {p : Prt} (hp : p.ok) {e : Int} (h1 : -1 ≤ e) (h2 : e ≤ 1000000000) : IntKind.i64.wrap (e + IntKind.i64.wrap ((1 : Int) + ((IntKind.i64.wrap p.x0).tmod (4 : Int)).tmod (3 : Int))) = expM p e := by
  obtain ⟨⟨a, b⟩, _⟩ := hp
  rw [w64 (n := p.x0) (by omega) (by omega), Int.tmod_eq_emod_of_nonneg a, Int.tmod_eq_emod_of_nonneg (by omega)]
  unfold expM
  rw [w64 (n := 1 + p.x0 % 4 % 3) (by omega) (by omega), w64 (by omega) (by omega)]
noncomputable def listM (most : Int) (two : Bool) : List Prt → Int → Int → List Con
  | [], _, _ => []
  | p :: X, e, n => if n ≥ most then [] else conM p (expM p e) (most - n) two :: listM most two X (expM p e) (n + dimM p (most - n))
noncomputable def listF (most : Int) (two : Bool) (X : List Prt) : List Con := listM most two X (-1) 0
noncomputable def listV (most : Int) (two : Bool) (X : List Prt) : List Con := bif (listF most two X).isEmpty then [conM Prt.zero 0 1 two] else listF most two X
noncomputable def entsC : List OEnt := [
  ⟨80, [], fun A => match A with
    | [.agg [.int .u8 x0, .int .u8 x1, .int .u8 x2, .int .u8 x3, .int .u8 x4], .int .i64 e, .int .i64 r, .bool two] => some (.agg (conM ⟨x0, x1, x2, x3, x4⟩ e r two).rvs, [(⟨x0, x1, x2, x3, x4⟩ : Prt).ok ∧ 1 ≤ r ∧ r ≤ 100])
    | _ => none⟩]
theorem entsC_ok : ∀ e ∈ entsC, EntOk Tryz.prog e := by
  intro e he
  simp only [entsC, List.mem_cons, List.not_mem_nil, or_false] at he
  subst he
  intro A R ms h hm
  simp only at h
  split at h
  · cases h
    obtain ⟨h1, h2, h3⟩ := all_one hm
    exact constituentF _ _ _ _ h1 h2 h3
  · cases h
noncomputable def listA (most : Int) (two : Bool) (X : List Prt) : Ann := ⟨⟨[(1, .vint .i64 most), (2, .vbool two), (7, .nils), (8, .int .i64 (-1)), (9, .int .i64 0), (14, (roP X).av), (15, .vint .i64 X.length), (16, .int .i64 0)], [], 1001⟩, some (listF most two X).isEmpty, fun d => match d with
  | true => (.exit 0, ⟨[(2, .vbool two), (7, .nils), (9, .int .i64 0)], [], 1001⟩)
  | false => (.exit 0, ⟨[(2, .vbool two), (7, .lo 1001 (listF most two X).length), (9, .vint .i64 (dimS (listF most two X)))], [(1001, ⟨.con (listF most two X), 49, 5, true, true⟩)], 1002⟩)⟩
noncomputable def listS (most : Int) (two : Bool) (X : List Prt) : Nat × Int × Int × List Con → St
  | (k, e, n, []) => ⟨[(1, .vint .i64 most), (2, .vbool two), (7, .nils), (8, .vint .i64 e), (9, .vint .i64 n), (14, (roP X).av), (15, .vint .i64 X.length), (16, .vint .i64 (k : Int))], [], 1002⟩
  | (k, e, n, c :: l) => ⟨[(1, .vint .i64 most), (2, .vbool two), (7, .lo 1001 (l.length + 1)), (8, .vint .i64 e), (9, .vint .i64 n), (14, (roP X).av), (15, .vint .i64 X.length), (16, .vint .i64 (k : Int))], [(1001, ⟨.con (c :: l), 49, 5, true, true⟩)], 1002⟩
theorem dimS_nonneg {L : List Con} (h : ∀ c ∈ L, 1 ≤ c.dim) : 0 ≤ dimS L ∧ (L ≠ [] → 1 ≤ dimS L) := by
  induction L with
  | nil => simp [dimS]
  | cons c l ih =>
    have h1 := h c (by simp)
    have h2 := (ih (fun x hx => h x (by simp [hx]))).1
    simp only [dimS]
    exact ⟨by omega, fun _ => by omega⟩
def listI (most : Int) (two : Bool) (X : List Prt) (i : Nat × Int × Int × List Con) : Prop :=
  i.1 ≤ X.length ∧ -1 ≤ i.2.1 ∧ i.2.1 ≤ 3 * (i.1 : Int) ∧ 0 ≤ i.2.2.1 ∧ i.2.2.1 ≤ most ∧ i.2.2.1 = dimS i.2.2.2 ∧ i.2.2.2.length ≤ i.1 ∧ (∀ c ∈ i.2.2.2, 1 ≤ c.dim) ∧ i.2.2.2 ++ listM most two (X.drop i.1) i.2.1 i.2.2.1 = listF most two X
theorem listI_next {most : Int} {two : Bool} {X : List Prt} (hX : ∀ p ∈ X, p.ok) {k : Nat} {e n : Int} {acc : List Con} (h : listI most two X (k, e, n, acc)) (hk : k < X.length) (hn : n < most) :
    listI most two X (k + 1, expM (atP X k) e, n + dimM (atP X k) (most - n), acc ++ [conM (atP X k) (expM (atP X k) e) (most - n) two]) := by
  obtain ⟨a1, a2, a3, a4, a5, a6, a7, a8, a9⟩ := h
  simp only at a1 a2 a3 a4 a5 a6 a7 a8 a9
  have hb := expM_b (p := atP X k) e
  have hd := dimM_b (okP hX k) (r := most - n) (by omega)
  refine ⟨hk, ?_, ?_, ?_, ?_, ?_, ?_, ?_, ?_⟩
  · show -1 ≤ expM (atP X k) e
    omega
  · show expM (atP X k) e ≤ 3 * ((k + 1 : Nat) : Int)
    omega
  · show 0 ≤ n + dimM (atP X k) (most - n)
    omega
  · show n + dimM (atP X k) (most - n) ≤ most
    omega
  · show n + dimM (atP X k) (most - n) = dimS (acc ++ [_])
    rw [dimS_append, ← a6]
    simp [dimS, conM]
  · show (acc ++ [_]).length ≤ k + 1
    simp; omega
  · intro c hc
    rcases List.mem_append.1 hc with hc | hc
    · exact a8 c hc
    · rw [List.mem_singleton.1 hc]; exact hd.1
  · show (acc ++ [_]) ++ listM most two (X.drop (k + 1)) (expM (atP X k) e) (n + dimM (atP X k) (most - n)) = _
    rw [← a9, dropP hk]
    simp only [listM]
    rw [if_neg (by omega)]
    simp
theorem listI_end {most : Int} {two : Bool} {X : List Prt} {k : Nat} {e n : Int} {acc : List Con} (h : listI most two X (k, e, n, acc)) (hk : X.length ≤ k ∨ most ≤ n) : acc = listF most two X := by
  obtain ⟨a1, a2, a3, a4, a5, a6, a7, a8, a9⟩ := h
  simp only at a9
  rw [← a9]
  have : listM most two (X.drop k) e n = [] := by
    rcases hk with hk | hk
    · rw [List.drop_eq_nil_of_le hk]; rfl
    · cases hd : X.drop k with
      | nil => rfl
      | cons p l => simp only [listM]; rw [if_pos (by omega)]
  rw [this]; simp
set_option maxRecDepth 100000 in
theorem list_loop (most : Int) (two : Bool) (X : List Prt) (hX : ∀ p ∈ X, p.ok) (hm1 : 1 ≤ most) (hm2 : most ≤ 100) (hn : X.length ≤ 1000) : AnnOk Tryz.prog EV.ng (Nat.max 3 Tryz.f59.ntmps) (bodyAt Tryz.f59 [0, 1, 0, 1, 1, 1]) (listA most two X) := by
  refine ann_of evOk (callF_ok evOk (orcOf_ok entsC_ok) 8) none_ann (by kernel_rfl) (by kernel_rfl) (listS most two X) (fun i => X.length - i.1) (fun d i => listI most two X i ∧ d = (listF most two X).isEmpty) ?_ ?_
  · intro d hd
    exact ⟨(0, -1, 0, []), [most = most, two = two, (-1 : Int) = (-1 : Int), (0 : Int) = (0 : Int), X.length = X.length ∧ (fun i => (X.getD i Prt.zero).rvs) = fun i => (X.getD i Prt.zero).rvs, (↑X.length : Int) = (↑X.length : Int), (0 : Int) = (↑(0 : Nat) : Int)], by kernel_rfl, (by refine ⟨?_, ?_, ?_, ?_, ?_, ?_, (?_ : (0 : Int) = (↑(0 : Nat) : Int))⟩ <;> (first | rfl | assumption | omega | simp_all)), (by exact ⟨⟨Nat.zero_le _, by decide, by decide, by decide, by show (0 : Int) ≤ most; omega, rfl, Nat.le_refl _, by simp, rfl⟩, hd.symm⟩)⟩
  · rintro d hd ⟨k, e, n, acc⟩ hI
    cases d
    · -- d = false
      obtain ⟨hI, hD⟩ := hI
      have hI' := hI
      obtain ⟨a1, a2, a3, a4, a5, a6, a7, a8, a9⟩ := hI'
      simp only at a1 a2 a3 a4 a5 a6 a7 a8 a9
      have er := raw_exp (okP hX k) (e := e) (by omega) (by omega)
      have ek : IntKind.i64.wrap ((k : Int) + 1) = ((k + 1 : Nat) : Int) := by rw [w64 (by omega) (by omega)]; omega
      have em : IntKind.i64.wrap (most - n) = most - n := w64 (by omega) (by omega)
      have hempty : ∀ a, a = listF most two X → a.isEmpty = (listF most two X).isEmpty := fun a h => by rw [h]
      rcases acc with _ | ⟨c, l⟩
      · -- 1
        refine Or.elim (Bool.eq_false_or_eq_true (decide ((↑k : Int) < (↑X.length : Int)))) (fun d1 => Or.elim (Bool.eq_false_or_eq_true (decide (n ≥ most))) (fun d2 => CtG.no ?_)
           (fun d2 => ⟨[true, false], .inl ⟨(k + 1, expM (atP X k) e, n + dimM (atP X k) (most - n), [conM (atP X k) (expM (atP X k) e) (most - n) two]), [most = most, two = two, (1 : Nat) = (0 : Nat) + (1 : Nat), IntKind.i64.wrap (e + IntKind.i64.wrap ((1 : Int) + ((IntKind.i64.wrap (X.getD k Prt.zero).x0).tmod (4 : Int)).tmod (3 : Int))) = expM (atP X k) e, IntKind.i64.wrap (n + (conM (X.getD k Prt.zero) (IntKind.i64.wrap (e + IntKind.i64.wrap ((1 : Int) + ((IntKind.i64.wrap (X.getD k Prt.zero).x0).tmod (4 : Int)).tmod (3 : Int)))) (IntKind.i64.wrap (most - n)) two).dim) = n + dimM (atP X k) (most - n), X.length = X.length ∧ (fun i => (X.getD i Prt.zero).rvs) = fun i => (X.getD i Prt.zero).rvs, (↑X.length : Int) = (↑X.length : Int), IntKind.i64.wrap ((↑k : Int) + (1 : Int)) = (↑(k + (1 : Nat)) : Int), [conM (X.getD k Prt.zero) (IntKind.i64.wrap (e + IntKind.i64.wrap ((1 : Int) + ((IntKind.i64.wrap (X.getD k Prt.zero).x0).tmod (4 : Int)).tmod (3 : Int)))) (IntKind.i64.wrap (most - n)) two] = [conM (atP X k) (expM (atP X k) e) (most - n) two], (0 : Nat) < (1 : Nat) ∧ (1 : Nat) ≤ (1000000 : Nat), (X.getD k Prt.zero).ok ∧ (1 : Int) ≤ IntKind.i64.wrap (most - n) ∧ IntKind.i64.wrap (most - n) ≤ (100 : Int), (3 : Int) ≠ (0 : Int), (4 : Int) ≠ (0 : Int), Dec (decide (n ≥ most)) false, (0 : Int) ≤ (↑k : Int) ∧ (↑k : Int) < (↑X.length : Int), Dec (decide ((↑k : Int) < (↑X.length : Int))) true], by kernel_rfl, ⟨?_, ?_, ?_, ?_, ?_, ?_, ?_, ?_, ?_, ?_, ?_, ?_, ?_, d2, ?_, d1⟩, MuG.out ?_, InG.out ?_⟩⟩))
           (fun d1 => CtG.no ?_)
        all_goals first | (refine MuG.mk ?_; (simp only [decide_eq_true_eq, decide_eq_false_iff_not] at *; show X.length - (k + 1) < X.length - k; omega)) | (refine InG.mk ?_; (simp only [decide_eq_true_eq, decide_eq_false_iff_not] at *; exact ⟨listI_next hX hI (by omega) (by omega), hD⟩)) | (refine CtG.mk ?_; (simp only [decide_eq_true_eq, decide_eq_false_iff_not] at *; have := hempty _ (listI_end hI (by omega)); rw [← hD] at this; cases this)) | (first | rfl | exact ⟨rfl, rfl⟩ | ((try simp only [Int.toNat_natCast, er, em, ek, decide_eq_true_eq, decide_eq_false_iff_not, View.num] at *) <;> first | omega | exact a6 | exact ⟨okP hX k, by omega, by omega⟩ | (have hdm := dimM_b (okP hX k) (r := most - n) (by omega); show IntKind.i64.wrap (n + dimM (atP X k) (most - n)) = _; rw [w64 (by omega) (by omega)]) | (rw [← listI_end hI (by omega)]; rfl) | (have := listI_end hI (by omega); simp_all; done) | (rw [a6]; rw [listI_end hI (by omega)]; done) | (simp at a7 ⊢; omega) | rfl | simp))
      · -- 2
        refine Or.elim (Bool.eq_false_or_eq_true (decide ((↑k : Int) < (↑X.length : Int)))) (fun d1 => Or.elim (Bool.eq_false_or_eq_true (decide (n ≥ most))) (fun d2 => ⟨[true, true], .inr ⟨[two = two, l.length + (1 : Nat) = (listF most two X).length, n = dimS (listF most two X), c :: l = listF most two X, Dec (decide (n ≥ most)) true, (0 : Int) ≤ (↑k : Int) ∧ (↑k : Int) < (↑X.length : Int), Dec (decide ((↑k : Int) < (↑X.length : Int))) true], by kernel_rfl, ⟨?_, ?_, ?_, ?_, d2, ?_, d1⟩, rfl⟩⟩)
           (fun d2 => ⟨[true, false], .inl ⟨(k + 1, expM (atP X k) e, n + dimM (atP X k) (most - n), c :: (l ++ [conM (atP X k) (expM (atP X k) e) (most - n) two])), [most = most, two = two, l.length + (1 : Nat) + (1 : Nat) = (l ++ [conM (atP X k) (expM (atP X k) e) (most - n) two]).length + (1 : Nat), IntKind.i64.wrap (e + IntKind.i64.wrap ((1 : Int) + ((IntKind.i64.wrap (X.getD k Prt.zero).x0).tmod (4 : Int)).tmod (3 : Int))) = expM (atP X k) e, IntKind.i64.wrap (n + (conM (X.getD k Prt.zero) (IntKind.i64.wrap (e + IntKind.i64.wrap ((1 : Int) + ((IntKind.i64.wrap (X.getD k Prt.zero).x0).tmod (4 : Int)).tmod (3 : Int)))) (IntKind.i64.wrap (most - n)) two).dim) = n + dimM (atP X k) (most - n), X.length = X.length ∧ (fun i => (X.getD i Prt.zero).rvs) = fun i => (X.getD i Prt.zero).rvs, (↑X.length : Int) = (↑X.length : Int), IntKind.i64.wrap ((↑k : Int) + (1 : Int)) = (↑(k + (1 : Nat)) : Int), c :: l ++ [conM (X.getD k Prt.zero) (IntKind.i64.wrap (e + IntKind.i64.wrap ((1 : Int) + ((IntKind.i64.wrap (X.getD k Prt.zero).x0).tmod (4 : Int)).tmod (3 : Int)))) (IntKind.i64.wrap (most - n)) two] = c :: (l ++ [conM (atP X k) (expM (atP X k) e) (most - n) two]), (View.con (c :: l)).num = l.length + (1 : Nat) ∧ l.length + (1 : Nat) + (1 : Nat) ≤ (1000000 : Nat), (X.getD k Prt.zero).ok ∧ (1 : Int) ≤ IntKind.i64.wrap (most - n) ∧ IntKind.i64.wrap (most - n) ≤ (100 : Int), (3 : Int) ≠ (0 : Int), (4 : Int) ≠ (0 : Int), Dec (decide (n ≥ most)) false, (0 : Int) ≤ (↑k : Int) ∧ (↑k : Int) < (↑X.length : Int), Dec (decide ((↑k : Int) < (↑X.length : Int))) true], by kernel_rfl, ⟨?_, ?_, ?_, ?_, ?_, ?_, ?_, ?_, ?_, ?_, ?_, ?_, ?_, d2, ?_, d1⟩, MuG.out ?_, InG.out ?_⟩⟩))
           (fun d1 => ⟨[false], .inr ⟨[two = two, l.length + (1 : Nat) = (listF most two X).length, n = dimS (listF most two X), c :: l = listF most two X, Dec (decide ((↑k : Int) < (↑X.length : Int))) false], by kernel_rfl, ⟨?_, ?_, ?_, ?_, d1⟩, rfl⟩⟩)
        all_goals first | (refine MuG.mk ?_; (simp only [decide_eq_true_eq, decide_eq_false_iff_not] at *; show X.length - (k + 1) < X.length - k; omega)) | (refine InG.mk ?_; (simp only [decide_eq_true_eq, decide_eq_false_iff_not] at *; exact ⟨listI_next hX hI (by omega) (by omega), hD⟩)) | (refine CtG.mk ?_; (simp only [decide_eq_true_eq, decide_eq_false_iff_not] at *; have := hempty _ (listI_end hI (by omega)); rw [← hD] at this; cases this)) | (first | rfl | exact ⟨rfl, rfl⟩ | ((try simp only [Int.toNat_natCast, er, em, ek, decide_eq_true_eq, decide_eq_false_iff_not, View.num] at *) <;> first | omega | exact a6 | exact ⟨okP hX k, by omega, by omega⟩ | (have hdm := dimM_b (okP hX k) (r := most - n) (by omega); show IntKind.i64.wrap (n + dimM (atP X k) (most - n)) = _; rw [w64 (by omega) (by omega)]) | (rw [← listI_end hI (by omega)]; rfl) | (have := listI_end hI (by omega); simp_all; done) | (rw [a6]; rw [listI_end hI (by omega)]; done) | (simp at a7 ⊢; omega) | rfl | simp))
    · -- d = true
      obtain ⟨hI, hD⟩ := hI
      have hI' := hI
      obtain ⟨a1, a2, a3, a4, a5, a6, a7, a8, a9⟩ := hI'
      simp only at a1 a2 a3 a4 a5 a6 a7 a8 a9
      have er := raw_exp (okP hX k) (e := e) (by omega) (by omega)
      have ek : IntKind.i64.wrap ((k : Int) + 1) = ((k + 1 : Nat) : Int) := by rw [w64 (by omega) (by omega)]; omega
      have em : IntKind.i64.wrap (most - n) = most - n := w64 (by omega) (by omega)
      have hempty : ∀ a, a = listF most two X → a.isEmpty = (listF most two X).isEmpty := fun a h => by rw [h]
      rcases acc with _ | ⟨c, l⟩
      · -- 1
        refine Or.elim (Bool.eq_false_or_eq_true (decide ((↑k : Int) < (↑X.length : Int)))) (fun d1 => Or.elim (Bool.eq_false_or_eq_true (decide (n ≥ most))) (fun d2 => ⟨[true, true], .inr ⟨[two = two, n = (0 : Int), Dec (decide (n ≥ most)) true, (0 : Int) ≤ (↑k : Int) ∧ (↑k : Int) < (↑X.length : Int), Dec (decide ((↑k : Int) < (↑X.length : Int))) true], by kernel_rfl, ⟨?_, ?_, d2, ?_, d1⟩, rfl⟩⟩)
           (fun d2 => ⟨[true, false], .inl ⟨(k + 1, expM (atP X k) e, n + dimM (atP X k) (most - n), [conM (atP X k) (expM (atP X k) e) (most - n) two]), [most = most, two = two, (1 : Nat) = (0 : Nat) + (1 : Nat), IntKind.i64.wrap (e + IntKind.i64.wrap ((1 : Int) + ((IntKind.i64.wrap (X.getD k Prt.zero).x0).tmod (4 : Int)).tmod (3 : Int))) = expM (atP X k) e, IntKind.i64.wrap (n + (conM (X.getD k Prt.zero) (IntKind.i64.wrap (e + IntKind.i64.wrap ((1 : Int) + ((IntKind.i64.wrap (X.getD k Prt.zero).x0).tmod (4 : Int)).tmod (3 : Int)))) (IntKind.i64.wrap (most - n)) two).dim) = n + dimM (atP X k) (most - n), X.length = X.length ∧ (fun i => (X.getD i Prt.zero).rvs) = fun i => (X.getD i Prt.zero).rvs, (↑X.length : Int) = (↑X.length : Int), IntKind.i64.wrap ((↑k : Int) + (1 : Int)) = (↑(k + (1 : Nat)) : Int), [conM (X.getD k Prt.zero) (IntKind.i64.wrap (e + IntKind.i64.wrap ((1 : Int) + ((IntKind.i64.wrap (X.getD k Prt.zero).x0).tmod (4 : Int)).tmod (3 : Int)))) (IntKind.i64.wrap (most - n)) two] = [conM (atP X k) (expM (atP X k) e) (most - n) two], (0 : Nat) < (1 : Nat) ∧ (1 : Nat) ≤ (1000000 : Nat), (X.getD k Prt.zero).ok ∧ (1 : Int) ≤ IntKind.i64.wrap (most - n) ∧ IntKind.i64.wrap (most - n) ≤ (100 : Int), (3 : Int) ≠ (0 : Int), (4 : Int) ≠ (0 : Int), Dec (decide (n ≥ most)) false, (0 : Int) ≤ (↑k : Int) ∧ (↑k : Int) < (↑X.length : Int), Dec (decide ((↑k : Int) < (↑X.length : Int))) true], by kernel_rfl, ⟨?_, ?_, ?_, ?_, ?_, ?_, ?_, ?_, ?_, ?_, ?_, ?_, ?_, d2, ?_, d1⟩, MuG.out ?_, InG.out ?_⟩⟩))
           (fun d1 => ⟨[false], .inr ⟨[two = two, n = (0 : Int), Dec (decide ((↑k : Int) < (↑X.length : Int))) false], by kernel_rfl, ⟨?_, ?_, d1⟩, rfl⟩⟩)
        all_goals first | (refine MuG.mk ?_; (simp only [decide_eq_true_eq, decide_eq_false_iff_not] at *; show X.length - (k + 1) < X.length - k; omega)) | (refine InG.mk ?_; (simp only [decide_eq_true_eq, decide_eq_false_iff_not] at *; exact ⟨listI_next hX hI (by omega) (by omega), hD⟩)) | (refine CtG.mk ?_; (simp only [decide_eq_true_eq, decide_eq_false_iff_not] at *; have := hempty _ (listI_end hI (by omega)); rw [← hD] at this; cases this)) | (first | rfl | exact ⟨rfl, rfl⟩ | ((try simp only [Int.toNat_natCast, er, em, ek, decide_eq_true_eq, decide_eq_false_iff_not, View.num] at *) <;> first | omega | exact a6 | exact ⟨okP hX k, by omega, by omega⟩ | (have hdm := dimM_b (okP hX k) (r := most - n) (by omega); show IntKind.i64.wrap (n + dimM (atP X k) (most - n)) = _; rw [w64 (by omega) (by omega)]) | (rw [← listI_end hI (by omega)]; rfl) | (have := listI_end hI (by omega); simp_all; done) | (rw [a6]; rw [listI_end hI (by omega)]; done) | (simp at a7 ⊢; omega) | rfl | simp))
      · -- 2
        refine Or.elim (Bool.eq_false_or_eq_true (decide ((↑k : Int) < (↑X.length : Int)))) (fun d1 => Or.elim (Bool.eq_false_or_eq_true (decide (n ≥ most))) (fun d2 => CtG.no ?_)
           (fun d2 => ⟨[true, false], .inl ⟨(k + 1, expM (atP X k) e, n + dimM (atP X k) (most - n), c :: (l ++ [conM (atP X k) (expM (atP X k) e) (most - n) two])), [most = most, two = two, l.length + (1 : Nat) + (1 : Nat) = (l ++ [conM (atP X k) (expM (atP X k) e) (most - n) two]).length + (1 : Nat), IntKind.i64.wrap (e + IntKind.i64.wrap ((1 : Int) + ((IntKind.i64.wrap (X.getD k Prt.zero).x0).tmod (4 : Int)).tmod (3 : Int))) = expM (atP X k) e, IntKind.i64.wrap (n + (conM (X.getD k Prt.zero) (IntKind.i64.wrap (e + IntKind.i64.wrap ((1 : Int) + ((IntKind.i64.wrap (X.getD k Prt.zero).x0).tmod (4 : Int)).tmod (3 : Int)))) (IntKind.i64.wrap (most - n)) two).dim) = n + dimM (atP X k) (most - n), X.length = X.length ∧ (fun i => (X.getD i Prt.zero).rvs) = fun i => (X.getD i Prt.zero).rvs, (↑X.length : Int) = (↑X.length : Int), IntKind.i64.wrap ((↑k : Int) + (1 : Int)) = (↑(k + (1 : Nat)) : Int), c :: l ++ [conM (X.getD k Prt.zero) (IntKind.i64.wrap (e + IntKind.i64.wrap ((1 : Int) + ((IntKind.i64.wrap (X.getD k Prt.zero).x0).tmod (4 : Int)).tmod (3 : Int)))) (IntKind.i64.wrap (most - n)) two] = c :: (l ++ [conM (atP X k) (expM (atP X k) e) (most - n) two]), (View.con (c :: l)).num = l.length + (1 : Nat) ∧ l.length + (1 : Nat) + (1 : Nat) ≤ (1000000 : Nat), (X.getD k Prt.zero).ok ∧ (1 : Int) ≤ IntKind.i64.wrap (most - n) ∧ IntKind.i64.wrap (most - n) ≤ (100 : Int), (3 : Int) ≠ (0 : Int), (4 : Int) ≠ (0 : Int), Dec (decide (n ≥ most)) false, (0 : Int) ≤ (↑k : Int) ∧ (↑k : Int) < (↑X.length : Int), Dec (decide ((↑k : Int) < (↑X.length : Int))) true], by kernel_rfl, ⟨?_, ?_, ?_, ?_, ?_, ?_, ?_, ?_, ?_, ?_, ?_, ?_, ?_, d2, ?_, d1⟩, MuG.out ?_, InG.out ?_⟩⟩))
           (fun d1 => CtG.no ?_)
        all_goals first | (refine MuG.mk ?_; (simp only [decide_eq_true_eq, decide_eq_false_iff_not] at *; show X.length - (k + 1) < X.length - k; omega)) | (refine InG.mk ?_; (simp only [decide_eq_true_eq, decide_eq_false_iff_not] at *; exact ⟨listI_next hX hI (by omega) (by omega), hD⟩)) | (refine CtG.mk ?_; (simp only [decide_eq_true_eq, decide_eq_false_iff_not] at *; have := hempty _ (listI_end hI (by omega)); rw [← hD] at this; cases this)) | (first | rfl | exact ⟨rfl, rfl⟩ | ((try simp only [Int.toNat_natCast, er, em, ek, decide_eq_true_eq, decide_eq_false_iff_not, View.num] at *) <;> first | omega | exact a6 | exact ⟨okP hX k, by omega, by omega⟩ | (have hdm := dimM_b (okP hX k) (r := most - n) (by omega); show IntKind.i64.wrap (n + dimM (atP X k) (most - n)) = _; rw [w64 (by omega) (by omega)]) | (rw [← listI_end hI (by omega)]; rfl) | (have := listI_end hI (by omega); simp_all; done) | (rw [a6]; rw [listI_end hI (by omega)]; done) | (simp at a7 ⊢; omega) | rfl | simp))
theorem listM_dims {most : Int} {two : Bool} {X : List Prt} (hX : ∀ p ∈ X, p.ok) : ∀ {e n : Int}, ∀ c ∈ listM most two X e n, 1 ≤ c.dim := by
  induction X with
  | nil => intro e n c hc; simp [listM] at hc
  | cons p l ih =>
    intro e n c hc
    simp only [listM] at hc
    split at hc
    · simp at hc
    · rcases List.mem_cons.1 hc with hc | hc
      · rw [hc]; exact (dimM_b (hX p (by simp)) (r := most - n) (by omega)).1
      · exact ih (fun x hx => hX x (by simp [hx])) c hc
theorem listF_pos {most : Int} {two : Bool} {X : List Prt} (hX : ∀ p ∈ X, p.ok) (h : (listF most two X).isEmpty = false) : 1 ≤ dimS (listF most two X) := by
  refine (dimS_nonneg (listM_dims hX)).2 ?_
  intro h0
  unfold listF at h
  rw [h0] at h
  cases h
set_option maxRecDepth 100000 in
theorem list_pure (pr : Int) (X : List Prt) (most : Int) (two : Bool) (hX : ∀ p ∈ X, p.ok) (hm1 : 1 ≤ most) (hm2 : most ≤ 100) (hn : X.length ≤ 1000) : PureC Tryz.prog [] 59 [.agg [.int .u8 pr, roP X], .int .i64 most, .bool two] (roC (listV most two X)) := by
  have rr := fun (tp : List Bool) (ms : List Prop) h hm => pure_run evOk (callF_ok evOk (orcOf_ok entsC_ok) 8) Tryz.func59 (A := [.agg [.int .u8 pr, roP X], .int .i64 most, .bool two]) (N := Nat.max 1 Tryz.f59.ntmps) rfl (one_ann (list_loop most two X hX hm1 hm2 hn)) rfl rfl evNg (tabs := []) (R := roC (listV most two X)) (tp := tp) (ms := ms) h hm
  refine Or.elim (Bool.eq_false_or_eq_true ((listF most two X).isEmpty)) (fun d1 => rr [true] [(1 : Nat) = (listV most two X).length ∧ (1 : Nat) = [conM (Prt.mk (0 : Int) (0 : Int) (0 : Int) (0 : Int) (0 : Int)) (0 : Int) (1 : Int) two].length ∧ ∀ (i : Nat), i < (1 : Nat) → (fun i => ((listV most two X).getD i Con.zero).rvs) i = ([conM (Prt.mk (0 : Int) (0 : Int) (0 : Int) (0 : Int) (0 : Int)) (0 : Int) (1 : Int) two].getD i Con.zero).rvs, (0 : Nat) < (1 : Nat) ∧ (1 : Nat) ≤ (1000000 : Nat), (Prt.mk (0 : Int) (0 : Int) (0 : Int) (0 : Int) (0 : Int)).ok ∧ (1 : Int) ≤ (1 : Int) ∧ (1 : Int) ≤ (100 : Int), most = most, two = two, X.length = X.length ∧ (fun i => (X.getD i Prt.zero).rvs) = fun i => (X.getD i Prt.zero).rvs, (↑X.length : Int) = (↑X.length : Int), Dec (listF most two X).isEmpty true] (by kernel_rfl) ⟨?_, ?_, ?_, ?_, ?_, ?_, ?_, d1⟩)
           (fun d1 => Or.elim (Bool.eq_false_or_eq_true (dimS (listF most two X) == (0 : Int))) (fun d2 => rr [false, true] [(listF most two X).length + (1 : Nat) = (listV most two X).length ∧ (listF most two X).length + (1 : Nat) = (listF most two X ++ [conM (Prt.mk (0 : Int) (0 : Int) (0 : Int) (0 : Int) (0 : Int)) (0 : Int) (1 : Int) two]).length ∧ ∀ (i : Nat), i < (listF most two X).length + (1 : Nat) → (fun i => ((listV most two X).getD i Con.zero).rvs) i = ((listF most two X ++ [conM (Prt.mk (0 : Int) (0 : Int) (0 : Int) (0 : Int) (0 : Int)) (0 : Int) (1 : Int) two]).getD i Con.zero).rvs, (View.con (listF most two X)).num = (listF most two X).length ∧ (listF most two X).length + (1 : Nat) ≤ (1000000 : Nat), (Prt.mk (0 : Int) (0 : Int) (0 : Int) (0 : Int) (0 : Int)).ok ∧ (1 : Int) ≤ (1 : Int) ∧ (1 : Int) ≤ (100 : Int), Dec (dimS (listF most two X) == (0 : Int)) true, most = most, two = two, X.length = X.length ∧ (fun i => (X.getD i Prt.zero).rvs) = fun i => (X.getD i Prt.zero).rvs, (↑X.length : Int) = (↑X.length : Int), Dec (listF most two X).isEmpty false] (by kernel_rfl) ⟨?_, ?_, ?_, d2, ?_, ?_, ?_, ?_, d1⟩)
           (fun d2 => rr [false, false] [(listF most two X).length = (listV most two X).length ∧ (listF most two X).length = (listF most two X).length ∧ ∀ (i : Nat), i < (listF most two X).length → (fun i => ((listV most two X).getD i Con.zero).rvs) i = ((listF most two X).getD i Con.zero).rvs, Dec (dimS (listF most two X) == (0 : Int)) false, most = most, two = two, X.length = X.length ∧ (fun i => (X.getD i Prt.zero).rvs) = fun i => (X.getD i Prt.zero).rvs, (↑X.length : Int) = (↑X.length : Int), Dec (listF most two X).isEmpty false] (by kernel_rfl) ⟨?_, d2, ?_, ?_, ?_, ?_, d1⟩))
  all_goals first | (first | rfl | exact ⟨rfl, rfl⟩ | decide | (exfalso; have h0 := listF_pos hX d1; simp at d2; omega) | (simp only [listV, d1, cond_true, cond_false]; exact ⟨rfl, rfl, fun i _ => rfl⟩) | (rw [show listV most two X = listF most two X from by simp only [listV, d1, cond_false]]; exact ⟨rfl, rfl, fun i _ => rfl⟩) | (simp [Prt.ok, U8]; done))
end Go.Proofs.YtcfdaddablojlaaGreatDoor.S

namespace Go.Proofs.YtcfdaddablojlaaGreatDoor.S
open Go.QfSy Go.RowKit
noncomputable def legalT_v (e d s : Int) (o : Bool) (t : Int) : Bool := (bif decide (e < (0 : Int)) then false else (bif decide (e > (60 : Int)) then false else (bif decide (d < (1 : Int)) then false else (bif decide (d > (8 : Int)) then false else (bif s == (1 : Int) then (bif decide (t < (0 : Int)) then false else (bif decide (t > (7 : Int)) then false else (bif o then (bif (IntKind.i64.wrap (t - d)).tmod (2 : Int) == (0 : Int) then (bif d == (1 : Int) then (bif t == (1 : Int) then true else (t == (7 : Int))) else (bif d == (2 : Int) then (t != (4 : Int)) else true)) else false) else (bif d.tmod (2 : Int) == (0 : Int) then (t == (0 : Int)) else false)))) else (bif s == (-1 : Int) then (bif decide (t < (0 : Int)) then false else (bif decide (t > (7 : Int)) then false else (bif o then (bif (IntKind.i64.wrap (t - d)).tmod (2 : Int) == (0 : Int) then (bif d == (1 : Int) then (bif t == (3 : Int) then true else (t == (5 : Int))) else (bif d == (2 : Int) then (t != (0 : Int)) else true)) else false) else (bif d.tmod (2 : Int) == (0 : Int) then (t == (0 : Int)) else false)))) else false))))))
set_option maxRecDepth 100000 in
theorem legalT (e d s : Int) (o : Bool) (t : Int) : PureC Tryz.prog [] 63 [.agg (Con.mk e d s o t).rvs] (.bool (legalT_v e d s o t)) := by
  have rr := fun (tp : List Bool) (ms : List Prop) h hm => pure_run evOk (callF_ok evOk (noOrc_ok _ _) 8) Tryz.func63 (A := [.agg (Con.mk e d s o t).rvs]) rfl none_ann rfl rfl evNg (tabs := []) (R := .bool (legalT_v e d s o t)) (tp := tp) (ms := ms) h hm
  refine Or.elim (Bool.eq_false_or_eq_true (decide (e < (0 : Int)))) (fun d1 => rr [true] [false = legalT_v e d s o t, Dec (decide (e < (0 : Int))) true] (by kernel_rfl) ⟨(((ct d1).trans rfl) : legalT_v e d s o t = _).symm, d1⟩)
    (fun d1 => Or.elim (Bool.eq_false_or_eq_true (decide (e > (60 : Int)))) (fun d2 => rr [false, true] [false = legalT_v e d s o t, Dec (decide (e > (60 : Int))) true, Dec (decide (e < (0 : Int))) false] (by kernel_rfl) ⟨(((cf d1).trans ((ct d2).trans rfl)) : legalT_v e d s o t = _).symm, d2, d1⟩)
    (fun d2 => Or.elim (Bool.eq_false_or_eq_true (decide (d < (1 : Int)))) (fun d3 => rr [false, false, true] [false = legalT_v e d s o t, Dec (decide (d < (1 : Int))) true, Dec (decide (e > (60 : Int))) false, Dec (decide (e < (0 : Int))) false] (by kernel_rfl) ⟨(((cf d1).trans ((cf d2).trans ((ct d3).trans rfl))) : legalT_v e d s o t = _).symm, d3, d2, d1⟩)
    (fun d3 => Or.elim (Bool.eq_false_or_eq_true (decide (d > (8 : Int)))) (fun d4 => rr [false, false, false, true] [false = legalT_v e d s o t, Dec (decide (d > (8 : Int))) true, Dec (decide (d < (1 : Int))) false, Dec (decide (e > (60 : Int))) false, Dec (decide (e < (0 : Int))) false] (by kernel_rfl) ⟨(((cf d1).trans ((cf d2).trans ((cf d3).trans ((ct d4).trans rfl)))) : legalT_v e d s o t = _).symm, d4, d3, d2, d1⟩)
    (fun d4 => Or.elim (Bool.eq_false_or_eq_true (s == (1 : Int))) (fun d5 => Or.elim (Bool.eq_false_or_eq_true (decide (t < (0 : Int)))) (fun d6 => rr [false, false, false, false, false, true] [false = legalT_v e d s o t, Dec (decide (t < (0 : Int))) true, Dec (s != (1 : Int)) false, Dec (decide (d > (8 : Int))) false, Dec (decide (d < (1 : Int))) false, Dec (decide (e > (60 : Int))) false, Dec (decide (e < (0 : Int))) false] (by kernel_rfl) ⟨(((cf d1).trans ((cf d2).trans ((cf d3).trans ((cf d4).trans ((ct d5).trans ((ct d6).trans rfl)))))) : legalT_v e d s o t = _).symm, d6, (dN d5), d4, d3, d2, d1⟩)
    (fun d6 => Or.elim (Bool.eq_false_or_eq_true (decide (t > (7 : Int)))) (fun d7 => rr [false, false, false, false, false, false, true] [false = legalT_v e d s o t, Dec (decide (t > (7 : Int))) true, Dec (decide (t < (0 : Int))) false, Dec (s != (1 : Int)) false, Dec (decide (d > (8 : Int))) false, Dec (decide (d < (1 : Int))) false, Dec (decide (e > (60 : Int))) false, Dec (decide (e < (0 : Int))) false] (by kernel_rfl) ⟨(((cf d1).trans ((cf d2).trans ((cf d3).trans ((cf d4).trans ((ct d5).trans ((cf d6).trans ((ct d7).trans rfl))))))) : legalT_v e d s o t = _).symm, d7, d6, (dN d5), d4, d3, d2, d1⟩)
    (fun d7 => Or.elim (Bool.eq_false_or_eq_true (o)) (fun d8 => Or.elim (Bool.eq_false_or_eq_true ((IntKind.i64.wrap (t - d)).tmod (2 : Int) == (0 : Int))) (fun d9 => Or.elim (Bool.eq_false_or_eq_true (d == (1 : Int))) (fun d10 => Or.elim (Bool.eq_false_or_eq_true (t == (1 : Int))) (fun d11 => rr [false, false, false, false, false, false, false, false, false, true, true, true] [true = legalT_v e d s o t, Dec (t == (1 : Int)) true, Dec (s == (1 : Int)) true, Dec (d == (1 : Int)) true, Dec ((IntKind.i64.wrap (t - d)).tmod (2 : Int) != (0 : Int)) false, (2 : Int) ≠ (0 : Int), Dec (!o) false, Dec (decide (t > (7 : Int))) false, Dec (decide (t < (0 : Int))) false, Dec (s != (1 : Int)) false, Dec (decide (d > (8 : Int))) false, Dec (decide (d < (1 : Int))) false, Dec (decide (e > (60 : Int))) false, Dec (decide (e < (0 : Int))) false] (by kernel_rfl) ⟨(((cf d1).trans ((cf d2).trans ((cf d3).trans ((cf d4).trans ((ct d5).trans ((cf d6).trans ((cf d7).trans ((ct d8).trans ((ct d9).trans ((ct d10).trans ((ct d11).trans rfl))))))))))) : legalT_v e d s o t = _).symm, d11, d5, d10, (dN d9), ?_, (dN d8), d7, d6, (dN d5), d4, d3, d2, d1⟩)
    (fun d11 => rr [false, false, false, false, false, false, false, false, false, true, true, false] [(t == (7 : Int)) = legalT_v e d s o t, Dec (t == (1 : Int)) false, Dec (s == (1 : Int)) true, Dec (d == (1 : Int)) true, Dec ((IntKind.i64.wrap (t - d)).tmod (2 : Int) != (0 : Int)) false, (2 : Int) ≠ (0 : Int), Dec (!o) false, Dec (decide (t > (7 : Int))) false, Dec (decide (t < (0 : Int))) false, Dec (s != (1 : Int)) false, Dec (decide (d > (8 : Int))) false, Dec (decide (d < (1 : Int))) false, Dec (decide (e > (60 : Int))) false, Dec (decide (e < (0 : Int))) false] (by kernel_rfl) ⟨(((cf d1).trans ((cf d2).trans ((cf d3).trans ((cf d4).trans ((ct d5).trans ((cf d6).trans ((cf d7).trans ((ct d8).trans ((ct d9).trans ((ct d10).trans ((cf d11).trans rfl))))))))))) : legalT_v e d s o t = _).symm, d11, d5, d10, (dN d9), ?_, (dN d8), d7, d6, (dN d5), d4, d3, d2, d1⟩))
    (fun d10 => Or.elim (Bool.eq_false_or_eq_true (d == (2 : Int))) (fun d11 => rr [false, false, false, false, false, false, false, false, false, false, false, true, true] [(t != (4 : Int)) = legalT_v e d s o t, Dec (s == (1 : Int)) true, Dec (d == (2 : Int)) true, Dec (d == (1 : Int)) false, Dec (d == (1 : Int)) false, Dec ((IntKind.i64.wrap (t - d)).tmod (2 : Int) != (0 : Int)) false, (2 : Int) ≠ (0 : Int), Dec (!o) false, Dec (decide (t > (7 : Int))) false, Dec (decide (t < (0 : Int))) false, Dec (s != (1 : Int)) false, Dec (decide (d > (8 : Int))) false, Dec (decide (d < (1 : Int))) false, Dec (decide (e > (60 : Int))) false, Dec (decide (e < (0 : Int))) false] (by kernel_rfl) ⟨(((cf d1).trans ((cf d2).trans ((cf d3).trans ((cf d4).trans ((ct d5).trans ((cf d6).trans ((cf d7).trans ((ct d8).trans ((ct d9).trans ((cf d10).trans ((ct d11).trans rfl))))))))))) : legalT_v e d s o t = _).symm, d5, d11, d10, d10, (dN d9), ?_, (dN d8), d7, d6, (dN d5), d4, d3, d2, d1⟩)
    (fun d11 => rr [false, false, false, false, false, false, false, false, false, false, false, false, false] [true = legalT_v e d s o t, Dec (d == (2 : Int)) false, Dec (d == (2 : Int)) false, Dec (d == (1 : Int)) false, Dec (d == (1 : Int)) false, Dec ((IntKind.i64.wrap (t - d)).tmod (2 : Int) != (0 : Int)) false, (2 : Int) ≠ (0 : Int), Dec (!o) false, Dec (decide (t > (7 : Int))) false, Dec (decide (t < (0 : Int))) false, Dec (s != (1 : Int)) false, Dec (decide (d > (8 : Int))) false, Dec (decide (d < (1 : Int))) false, Dec (decide (e > (60 : Int))) false, Dec (decide (e < (0 : Int))) false] (by kernel_rfl) ⟨(((cf d1).trans ((cf d2).trans ((cf d3).trans ((cf d4).trans ((ct d5).trans ((cf d6).trans ((cf d7).trans ((ct d8).trans ((ct d9).trans ((cf d10).trans ((cf d11).trans rfl))))))))))) : legalT_v e d s o t = _).symm, d11, d11, d10, d10, (dN d9), ?_, (dN d8), d7, d6, (dN d5), d4, d3, d2, d1⟩)))
    (fun d9 => rr [false, false, false, false, false, false, false, false, true] [false = legalT_v e d s o t, Dec ((IntKind.i64.wrap (t - d)).tmod (2 : Int) != (0 : Int)) true, (2 : Int) ≠ (0 : Int), Dec (!o) false, Dec (decide (t > (7 : Int))) false, Dec (decide (t < (0 : Int))) false, Dec (s != (1 : Int)) false, Dec (decide (d > (8 : Int))) false, Dec (decide (d < (1 : Int))) false, Dec (decide (e > (60 : Int))) false, Dec (decide (e < (0 : Int))) false] (by kernel_rfl) ⟨(((cf d1).trans ((cf d2).trans ((cf d3).trans ((cf d4).trans ((ct d5).trans ((cf d6).trans ((cf d7).trans ((ct d8).trans ((cf d9).trans rfl))))))))) : legalT_v e d s o t = _).symm, (dN d9), ?_, (dN d8), d7, d6, (dN d5), d4, d3, d2, d1⟩))
    (fun d8 => Or.elim (Bool.eq_false_or_eq_true (d.tmod (2 : Int) == (0 : Int))) (fun d9 => rr [false, false, false, false, false, false, false, true, true] [(t == (0 : Int)) = legalT_v e d s o t, Dec (d.tmod (2 : Int) == (0 : Int)) true, (2 : Int) ≠ (0 : Int), Dec (!o) true, Dec (decide (t > (7 : Int))) false, Dec (decide (t < (0 : Int))) false, Dec (s != (1 : Int)) false, Dec (decide (d > (8 : Int))) false, Dec (decide (d < (1 : Int))) false, Dec (decide (e > (60 : Int))) false, Dec (decide (e < (0 : Int))) false] (by kernel_rfl) ⟨(((cf d1).trans ((cf d2).trans ((cf d3).trans ((cf d4).trans ((ct d5).trans ((cf d6).trans ((cf d7).trans ((cf d8).trans ((ct d9).trans rfl))))))))) : legalT_v e d s o t = _).symm, d9, ?_, (dN d8), d7, d6, (dN d5), d4, d3, d2, d1⟩)
    (fun d9 => rr [false, false, false, false, false, false, false, true, false] [false = legalT_v e d s o t, Dec (d.tmod (2 : Int) == (0 : Int)) false, (2 : Int) ≠ (0 : Int), Dec (!o) true, Dec (decide (t > (7 : Int))) false, Dec (decide (t < (0 : Int))) false, Dec (s != (1 : Int)) false, Dec (decide (d > (8 : Int))) false, Dec (decide (d < (1 : Int))) false, Dec (decide (e > (60 : Int))) false, Dec (decide (e < (0 : Int))) false] (by kernel_rfl) ⟨(((cf d1).trans ((cf d2).trans ((cf d3).trans ((cf d4).trans ((ct d5).trans ((cf d6).trans ((cf d7).trans ((cf d8).trans ((cf d9).trans rfl))))))))) : legalT_v e d s o t = _).symm, d9, ?_, (dN d8), d7, d6, (dN d5), d4, d3, d2, d1⟩)))))
    (fun d5 => Or.elim (Bool.eq_false_or_eq_true (s == (-1 : Int))) (fun d6 => Or.elim (Bool.eq_false_or_eq_true (decide (t < (0 : Int)))) (fun d7 => rr [false, false, false, false, true, false, true] [false = legalT_v e d s o t, Dec (decide (t < (0 : Int))) true, Dec (s != (-1 : Int)) false, Dec (s != (1 : Int)) true, Dec (decide (d > (8 : Int))) false, Dec (decide (d < (1 : Int))) false, Dec (decide (e > (60 : Int))) false, Dec (decide (e < (0 : Int))) false] (by kernel_rfl) ⟨(((cf d1).trans ((cf d2).trans ((cf d3).trans ((cf d4).trans ((cf d5).trans ((ct d6).trans ((ct d7).trans rfl))))))) : legalT_v e d s o t = _).symm, d7, (dN d6), (dN d5), d4, d3, d2, d1⟩)
    (fun d7 => Or.elim (Bool.eq_false_or_eq_true (decide (t > (7 : Int)))) (fun d8 => rr [false, false, false, false, true, false, false, true] [false = legalT_v e d s o t, Dec (decide (t > (7 : Int))) true, Dec (decide (t < (0 : Int))) false, Dec (s != (-1 : Int)) false, Dec (s != (1 : Int)) true, Dec (decide (d > (8 : Int))) false, Dec (decide (d < (1 : Int))) false, Dec (decide (e > (60 : Int))) false, Dec (decide (e < (0 : Int))) false] (by kernel_rfl) ⟨(((cf d1).trans ((cf d2).trans ((cf d3).trans ((cf d4).trans ((cf d5).trans ((ct d6).trans ((cf d7).trans ((ct d8).trans rfl)))))))) : legalT_v e d s o t = _).symm, d8, d7, (dN d6), (dN d5), d4, d3, d2, d1⟩)
    (fun d8 => Or.elim (Bool.eq_false_or_eq_true (o)) (fun d9 => Or.elim (Bool.eq_false_or_eq_true ((IntKind.i64.wrap (t - d)).tmod (2 : Int) == (0 : Int))) (fun d10 => Or.elim (Bool.eq_false_or_eq_true (d == (1 : Int))) (fun d11 => Or.elim (Bool.eq_false_or_eq_true (t == (3 : Int))) (fun d12 => rr [false, false, false, false, true, false, false, false, false, false, true, false, true, true] [true = legalT_v e d s o t, Dec (t == (3 : Int)) true, Dec (d == (1 : Int)) true, Dec (s == (1 : Int)) false, Dec (d == (1 : Int)) true, Dec ((IntKind.i64.wrap (t - d)).tmod (2 : Int) != (0 : Int)) false, (2 : Int) ≠ (0 : Int), Dec (!o) false, Dec (decide (t > (7 : Int))) false, Dec (decide (t < (0 : Int))) false, Dec (s != (-1 : Int)) false, Dec (s != (1 : Int)) true, Dec (decide (d > (8 : Int))) false, Dec (decide (d < (1 : Int))) false, Dec (decide (e > (60 : Int))) false, Dec (decide (e < (0 : Int))) false] (by kernel_rfl) ⟨(((cf d1).trans ((cf d2).trans ((cf d3).trans ((cf d4).trans ((cf d5).trans ((ct d6).trans ((cf d7).trans ((cf d8).trans ((ct d9).trans ((ct d10).trans ((ct d11).trans ((ct d12).trans rfl)))))))))))) : legalT_v e d s o t = _).symm, d12, d11, d5, d11, (dN d10), ?_, (dN d9), d8, d7, (dN d6), (dN d5), d4, d3, d2, d1⟩)
    (fun d12 => rr [false, false, false, false, true, false, false, false, false, false, true, false, true, false] [(t == (5 : Int)) = legalT_v e d s o t, Dec (t == (3 : Int)) false, Dec (d == (1 : Int)) true, Dec (s == (1 : Int)) false, Dec (d == (1 : Int)) true, Dec ((IntKind.i64.wrap (t - d)).tmod (2 : Int) != (0 : Int)) false, (2 : Int) ≠ (0 : Int), Dec (!o) false, Dec (decide (t > (7 : Int))) false, Dec (decide (t < (0 : Int))) false, Dec (s != (-1 : Int)) false, Dec (s != (1 : Int)) true, Dec (decide (d > (8 : Int))) false, Dec (decide (d < (1 : Int))) false, Dec (decide (e > (60 : Int))) false, Dec (decide (e < (0 : Int))) false] (by kernel_rfl) ⟨(((cf d1).trans ((cf d2).trans ((cf d3).trans ((cf d4).trans ((cf d5).trans ((ct d6).trans ((cf d7).trans ((cf d8).trans ((ct d9).trans ((ct d10).trans ((ct d11).trans ((cf d12).trans rfl)))))))))))) : legalT_v e d s o t = _).symm, d12, d11, d5, d11, (dN d10), ?_, (dN d9), d8, d7, (dN d6), (dN d5), d4, d3, d2, d1⟩))
    (fun d11 => Or.elim (Bool.eq_false_or_eq_true (d == (2 : Int))) (fun d12 => rr [false, false, false, false, true, false, false, false, false, false, false, false, true, false, true] [(t != (0 : Int)) = legalT_v e d s o t, Dec (d == (2 : Int)) true, Dec (s == (1 : Int)) false, Dec (d == (2 : Int)) true, Dec (d == (1 : Int)) false, Dec (d == (1 : Int)) false, Dec ((IntKind.i64.wrap (t - d)).tmod (2 : Int) != (0 : Int)) false, (2 : Int) ≠ (0 : Int), Dec (!o) false, Dec (decide (t > (7 : Int))) false, Dec (decide (t < (0 : Int))) false, Dec (s != (-1 : Int)) false, Dec (s != (1 : Int)) true, Dec (decide (d > (8 : Int))) false, Dec (decide (d < (1 : Int))) false, Dec (decide (e > (60 : Int))) false, Dec (decide (e < (0 : Int))) false] (by kernel_rfl) ⟨(((cf d1).trans ((cf d2).trans ((cf d3).trans ((cf d4).trans ((cf d5).trans ((ct d6).trans ((cf d7).trans ((cf d8).trans ((ct d9).trans ((ct d10).trans ((cf d11).trans ((ct d12).trans rfl)))))))))))) : legalT_v e d s o t = _).symm, d12, d5, d12, d11, d11, (dN d10), ?_, (dN d9), d8, d7, (dN d6), (dN d5), d4, d3, d2, d1⟩)
    (fun d12 => rr [false, false, false, false, true, false, false, false, false, false, false, false, false, false] [true = legalT_v e d s o t, Dec (d == (2 : Int)) false, Dec (d == (2 : Int)) false, Dec (d == (1 : Int)) false, Dec (d == (1 : Int)) false, Dec ((IntKind.i64.wrap (t - d)).tmod (2 : Int) != (0 : Int)) false, (2 : Int) ≠ (0 : Int), Dec (!o) false, Dec (decide (t > (7 : Int))) false, Dec (decide (t < (0 : Int))) false, Dec (s != (-1 : Int)) false, Dec (s != (1 : Int)) true, Dec (decide (d > (8 : Int))) false, Dec (decide (d < (1 : Int))) false, Dec (decide (e > (60 : Int))) false, Dec (decide (e < (0 : Int))) false] (by kernel_rfl) ⟨(((cf d1).trans ((cf d2).trans ((cf d3).trans ((cf d4).trans ((cf d5).trans ((ct d6).trans ((cf d7).trans ((cf d8).trans ((ct d9).trans ((ct d10).trans ((cf d11).trans ((cf d12).trans rfl)))))))))))) : legalT_v e d s o t = _).symm, d12, d12, d11, d11, (dN d10), ?_, (dN d9), d8, d7, (dN d6), (dN d5), d4, d3, d2, d1⟩)))
    (fun d10 => rr [false, false, false, false, true, false, false, false, false, true] [false = legalT_v e d s o t, Dec ((IntKind.i64.wrap (t - d)).tmod (2 : Int) != (0 : Int)) true, (2 : Int) ≠ (0 : Int), Dec (!o) false, Dec (decide (t > (7 : Int))) false, Dec (decide (t < (0 : Int))) false, Dec (s != (-1 : Int)) false, Dec (s != (1 : Int)) true, Dec (decide (d > (8 : Int))) false, Dec (decide (d < (1 : Int))) false, Dec (decide (e > (60 : Int))) false, Dec (decide (e < (0 : Int))) false] (by kernel_rfl) ⟨(((cf d1).trans ((cf d2).trans ((cf d3).trans ((cf d4).trans ((cf d5).trans ((ct d6).trans ((cf d7).trans ((cf d8).trans ((ct d9).trans ((cf d10).trans rfl)))))))))) : legalT_v e d s o t = _).symm, (dN d10), ?_, (dN d9), d8, d7, (dN d6), (dN d5), d4, d3, d2, d1⟩))
    (fun d9 => Or.elim (Bool.eq_false_or_eq_true (d.tmod (2 : Int) == (0 : Int))) (fun d10 => rr [false, false, false, false, true, false, false, false, true, true] [(t == (0 : Int)) = legalT_v e d s o t, Dec (d.tmod (2 : Int) == (0 : Int)) true, (2 : Int) ≠ (0 : Int), Dec (!o) true, Dec (decide (t > (7 : Int))) false, Dec (decide (t < (0 : Int))) false, Dec (s != (-1 : Int)) false, Dec (s != (1 : Int)) true, Dec (decide (d > (8 : Int))) false, Dec (decide (d < (1 : Int))) false, Dec (decide (e > (60 : Int))) false, Dec (decide (e < (0 : Int))) false] (by kernel_rfl) ⟨(((cf d1).trans ((cf d2).trans ((cf d3).trans ((cf d4).trans ((cf d5).trans ((ct d6).trans ((cf d7).trans ((cf d8).trans ((cf d9).trans ((ct d10).trans rfl)))))))))) : legalT_v e d s o t = _).symm, d10, ?_, (dN d9), d8, d7, (dN d6), (dN d5), d4, d3, d2, d1⟩)
    (fun d10 => rr [false, false, false, false, true, false, false, false, true, false] [false = legalT_v e d s o t, Dec (d.tmod (2 : Int) == (0 : Int)) false, (2 : Int) ≠ (0 : Int), Dec (!o) true, Dec (decide (t > (7 : Int))) false, Dec (decide (t < (0 : Int))) false, Dec (s != (-1 : Int)) false, Dec (s != (1 : Int)) true, Dec (decide (d > (8 : Int))) false, Dec (decide (d < (1 : Int))) false, Dec (decide (e > (60 : Int))) false, Dec (decide (e < (0 : Int))) false] (by kernel_rfl) ⟨(((cf d1).trans ((cf d2).trans ((cf d3).trans ((cf d4).trans ((cf d5).trans ((ct d6).trans ((cf d7).trans ((cf d8).trans ((cf d9).trans ((cf d10).trans rfl)))))))))) : legalT_v e d s o t = _).symm, d10, ?_, (dN d9), d8, d7, (dN d6), (dN d5), d4, d3, d2, d1⟩)))))
    (fun d6 => rr [false, false, false, false, true, true] [false = legalT_v e d s o t, Dec (s != (-1 : Int)) true, Dec (s != (1 : Int)) true, Dec (decide (d > (8 : Int))) false, Dec (decide (d < (1 : Int))) false, Dec (decide (e > (60 : Int))) false, Dec (decide (e < (0 : Int))) false] (by kernel_rfl) ⟨(((cf d1).trans ((cf d2).trans ((cf d3).trans ((cf d4).trans ((cf d5).trans ((cf d6).trans rfl)))))) : legalT_v e d s o t = _).symm, (dN d6), (dN d5), d4, d3, d2, d1⟩))))))
  all_goals first | (decide)
noncomputable def legalR_v (e d s : Int) (o : Bool) (t : Int) : Bool := (bif decide (e < (0 : Int)) then false else (bif decide (e > (60 : Int)) then false else (bif decide (d < (1 : Int)) then false else (bif decide (d > (8 : Int)) then false else (bif s == (1 : Int) then (bif decide (t < (0 : Int)) then false else (bif decide (t > (7 : Int)) then false else (bif o then (bif (IntKind.i64.wrap (t - d)).tmod (2 : Int) == (0 : Int) then (bif d == (1 : Int) then (bif t == (1 : Int) then true else (t == (7 : Int))) else (bif d == (2 : Int) then (t != (4 : Int)) else true)) else false) else (bif d.tmod (2 : Int) == (0 : Int) then (t == (0 : Int)) else false)))) else (bif s == (-1 : Int) then (bif decide (t < (0 : Int)) then false else (bif decide (t > (7 : Int)) then false else (bif o then (bif (IntKind.i64.wrap (t - d)).tmod (2 : Int) == (0 : Int) then (bif d == (1 : Int) then (bif t == (3 : Int) then true else (t == (5 : Int))) else (bif d == (2 : Int) then (t != (0 : Int)) else true)) else false) else (bif d.tmod (2 : Int) == (0 : Int) then (t == (0 : Int)) else false)))) else false))))))
set_option maxRecDepth 100000 in
theorem legalR (e d s : Int) (o : Bool) (t : Int) : PureC Tryz.prog [] 65 [.agg (Con.mk e d s o t).rvs] (.bool (legalR_v e d s o t)) := by
  have rr := fun (tp : List Bool) (ms : List Prop) h hm => pure_run evOk (callF_ok evOk (noOrc_ok _ _) 8) Tryz.func65 (A := [.agg (Con.mk e d s o t).rvs]) rfl none_ann rfl rfl evNg (tabs := []) (R := .bool (legalR_v e d s o t)) (tp := tp) (ms := ms) h hm
  refine Or.elim (Bool.eq_false_or_eq_true (decide (e < (0 : Int)))) (fun d1 => rr [true] [false = legalR_v e d s o t, Dec (decide (e < (0 : Int))) true] (by kernel_rfl) ⟨(((ct d1).trans rfl) : legalR_v e d s o t = _).symm, d1⟩)
    (fun d1 => Or.elim (Bool.eq_false_or_eq_true (decide (e > (60 : Int)))) (fun d2 => rr [false, true] [false = legalR_v e d s o t, Dec (decide (e > (60 : Int))) true, Dec (decide (e < (0 : Int))) false] (by kernel_rfl) ⟨(((cf d1).trans ((ct d2).trans rfl)) : legalR_v e d s o t = _).symm, d2, d1⟩)
    (fun d2 => Or.elim (Bool.eq_false_or_eq_true (decide (d < (1 : Int)))) (fun d3 => rr [false, false, true] [false = legalR_v e d s o t, Dec (decide (d < (1 : Int))) true, Dec (decide (e > (60 : Int))) false, Dec (decide (e < (0 : Int))) false] (by kernel_rfl) ⟨(((cf d1).trans ((cf d2).trans ((ct d3).trans rfl))) : legalR_v e d s o t = _).symm, d3, d2, d1⟩)
    (fun d3 => Or.elim (Bool.eq_false_or_eq_true (decide (d > (8 : Int)))) (fun d4 => rr [false, false, false, true] [false = legalR_v e d s o t, Dec (decide (d > (8 : Int))) true, Dec (decide (d < (1 : Int))) false, Dec (decide (e > (60 : Int))) false, Dec (decide (e < (0 : Int))) false] (by kernel_rfl) ⟨(((cf d1).trans ((cf d2).trans ((cf d3).trans ((ct d4).trans rfl)))) : legalR_v e d s o t = _).symm, d4, d3, d2, d1⟩)
    (fun d4 => Or.elim (Bool.eq_false_or_eq_true (s == (1 : Int))) (fun d5 => Or.elim (Bool.eq_false_or_eq_true (decide (t < (0 : Int)))) (fun d6 => rr [false, false, false, false, false, true] [false = legalR_v e d s o t, Dec (decide (t < (0 : Int))) true, Dec (s != (1 : Int)) false, Dec (decide (d > (8 : Int))) false, Dec (decide (d < (1 : Int))) false, Dec (decide (e > (60 : Int))) false, Dec (decide (e < (0 : Int))) false] (by kernel_rfl) ⟨(((cf d1).trans ((cf d2).trans ((cf d3).trans ((cf d4).trans ((ct d5).trans ((ct d6).trans rfl)))))) : legalR_v e d s o t = _).symm, d6, (dN d5), d4, d3, d2, d1⟩)
    (fun d6 => Or.elim (Bool.eq_false_or_eq_true (decide (t > (7 : Int)))) (fun d7 => rr [false, false, false, false, false, false, true] [false = legalR_v e d s o t, Dec (decide (t > (7 : Int))) true, Dec (decide (t < (0 : Int))) false, Dec (s != (1 : Int)) false, Dec (decide (d > (8 : Int))) false, Dec (decide (d < (1 : Int))) false, Dec (decide (e > (60 : Int))) false, Dec (decide (e < (0 : Int))) false] (by kernel_rfl) ⟨(((cf d1).trans ((cf d2).trans ((cf d3).trans ((cf d4).trans ((ct d5).trans ((cf d6).trans ((ct d7).trans rfl))))))) : legalR_v e d s o t = _).symm, d7, d6, (dN d5), d4, d3, d2, d1⟩)
    (fun d7 => Or.elim (Bool.eq_false_or_eq_true (o)) (fun d8 => Or.elim (Bool.eq_false_or_eq_true ((IntKind.i64.wrap (t - d)).tmod (2 : Int) == (0 : Int))) (fun d9 => Or.elim (Bool.eq_false_or_eq_true (d == (1 : Int))) (fun d10 => Or.elim (Bool.eq_false_or_eq_true (t == (1 : Int))) (fun d11 => rr [false, false, false, false, false, false, false, false, false, true, true, true] [true = legalR_v e d s o t, Dec (t == (1 : Int)) true, Dec (s == (1 : Int)) true, Dec (d == (1 : Int)) true, Dec ((IntKind.i64.wrap (t - d)).tmod (2 : Int) != (0 : Int)) false, (2 : Int) ≠ (0 : Int), Dec (!o) false, Dec (decide (t > (7 : Int))) false, Dec (decide (t < (0 : Int))) false, Dec (s != (1 : Int)) false, Dec (decide (d > (8 : Int))) false, Dec (decide (d < (1 : Int))) false, Dec (decide (e > (60 : Int))) false, Dec (decide (e < (0 : Int))) false] (by kernel_rfl) ⟨(((cf d1).trans ((cf d2).trans ((cf d3).trans ((cf d4).trans ((ct d5).trans ((cf d6).trans ((cf d7).trans ((ct d8).trans ((ct d9).trans ((ct d10).trans ((ct d11).trans rfl))))))))))) : legalR_v e d s o t = _).symm, d11, d5, d10, (dN d9), ?_, (dN d8), d7, d6, (dN d5), d4, d3, d2, d1⟩)
    (fun d11 => rr [false, false, false, false, false, false, false, false, false, true, true, false] [(t == (7 : Int)) = legalR_v e d s o t, Dec (t == (1 : Int)) false, Dec (s == (1 : Int)) true, Dec (d == (1 : Int)) true, Dec ((IntKind.i64.wrap (t - d)).tmod (2 : Int) != (0 : Int)) false, (2 : Int) ≠ (0 : Int), Dec (!o) false, Dec (decide (t > (7 : Int))) false, Dec (decide (t < (0 : Int))) false, Dec (s != (1 : Int)) false, Dec (decide (d > (8 : Int))) false, Dec (decide (d < (1 : Int))) false, Dec (decide (e > (60 : Int))) false, Dec (decide (e < (0 : Int))) false] (by kernel_rfl) ⟨(((cf d1).trans ((cf d2).trans ((cf d3).trans ((cf d4).trans ((ct d5).trans ((cf d6).trans ((cf d7).trans ((ct d8).trans ((ct d9).trans ((ct d10).trans ((cf d11).trans rfl))))))))))) : legalR_v e d s o t = _).symm, d11, d5, d10, (dN d9), ?_, (dN d8), d7, d6, (dN d5), d4, d3, d2, d1⟩))
    (fun d10 => Or.elim (Bool.eq_false_or_eq_true (d == (2 : Int))) (fun d11 => rr [false, false, false, false, false, false, false, false, false, false, false, true, true] [(t != (4 : Int)) = legalR_v e d s o t, Dec (s == (1 : Int)) true, Dec (d == (2 : Int)) true, Dec (d == (1 : Int)) false, Dec (d == (1 : Int)) false, Dec ((IntKind.i64.wrap (t - d)).tmod (2 : Int) != (0 : Int)) false, (2 : Int) ≠ (0 : Int), Dec (!o) false, Dec (decide (t > (7 : Int))) false, Dec (decide (t < (0 : Int))) false, Dec (s != (1 : Int)) false, Dec (decide (d > (8 : Int))) false, Dec (decide (d < (1 : Int))) false, Dec (decide (e > (60 : Int))) false, Dec (decide (e < (0 : Int))) false] (by kernel_rfl) ⟨(((cf d1).trans ((cf d2).trans ((cf d3).trans ((cf d4).trans ((ct d5).trans ((cf d6).trans ((cf d7).trans ((ct d8).trans ((ct d9).trans ((cf d10).trans ((ct d11).trans rfl))))))))))) : legalR_v e d s o t = _).symm, d5, d11, d10, d10, (dN d9), ?_, (dN d8), d7, d6, (dN d5), d4, d3, d2, d1⟩)
    (fun d11 => rr [false, false, false, false, false, false, false, false, false, false, false, false, false] [true = legalR_v e d s o t, Dec (d == (2 : Int)) false, Dec (d == (2 : Int)) false, Dec (d == (1 : Int)) false, Dec (d == (1 : Int)) false, Dec ((IntKind.i64.wrap (t - d)).tmod (2 : Int) != (0 : Int)) false, (2 : Int) ≠ (0 : Int), Dec (!o) false, Dec (decide (t > (7 : Int))) false, Dec (decide (t < (0 : Int))) false, Dec (s != (1 : Int)) false, Dec (decide (d > (8 : Int))) false, Dec (decide (d < (1 : Int))) false, Dec (decide (e > (60 : Int))) false, Dec (decide (e < (0 : Int))) false] (by kernel_rfl) ⟨(((cf d1).trans ((cf d2).trans ((cf d3).trans ((cf d4).trans ((ct d5).trans ((cf d6).trans ((cf d7).trans ((ct d8).trans ((ct d9).trans ((cf d10).trans ((cf d11).trans rfl))))))))))) : legalR_v e d s o t = _).symm, d11, d11, d10, d10, (dN d9), ?_, (dN d8), d7, d6, (dN d5), d4, d3, d2, d1⟩)))
    (fun d9 => rr [false, false, false, false, false, false, false, false, true] [false = legalR_v e d s o t, Dec ((IntKind.i64.wrap (t - d)).tmod (2 : Int) != (0 : Int)) true, (2 : Int) ≠ (0 : Int), Dec (!o) false, Dec (decide (t > (7 : Int))) false, Dec (decide (t < (0 : Int))) false, Dec (s != (1 : Int)) false, Dec (decide (d > (8 : Int))) false, Dec (decide (d < (1 : Int))) false, Dec (decide (e > (60 : Int))) false, Dec (decide (e < (0 : Int))) false] (by kernel_rfl) ⟨(((cf d1).trans ((cf d2).trans ((cf d3).trans ((cf d4).trans ((ct d5).trans ((cf d6).trans ((cf d7).trans ((ct d8).trans ((cf d9).trans rfl))))))))) : legalR_v e d s o t = _).symm, (dN d9), ?_, (dN d8), d7, d6, (dN d5), d4, d3, d2, d1⟩))
    (fun d8 => Or.elim (Bool.eq_false_or_eq_true (d.tmod (2 : Int) == (0 : Int))) (fun d9 => rr [false, false, false, false, false, false, false, true, true] [(t == (0 : Int)) = legalR_v e d s o t, Dec (d.tmod (2 : Int) == (0 : Int)) true, (2 : Int) ≠ (0 : Int), Dec (!o) true, Dec (decide (t > (7 : Int))) false, Dec (decide (t < (0 : Int))) false, Dec (s != (1 : Int)) false, Dec (decide (d > (8 : Int))) false, Dec (decide (d < (1 : Int))) false, Dec (decide (e > (60 : Int))) false, Dec (decide (e < (0 : Int))) false] (by kernel_rfl) ⟨(((cf d1).trans ((cf d2).trans ((cf d3).trans ((cf d4).trans ((ct d5).trans ((cf d6).trans ((cf d7).trans ((cf d8).trans ((ct d9).trans rfl))))))))) : legalR_v e d s o t = _).symm, d9, ?_, (dN d8), d7, d6, (dN d5), d4, d3, d2, d1⟩)
    (fun d9 => rr [false, false, false, false, false, false, false, true, false] [false = legalR_v e d s o t, Dec (d.tmod (2 : Int) == (0 : Int)) false, (2 : Int) ≠ (0 : Int), Dec (!o) true, Dec (decide (t > (7 : Int))) false, Dec (decide (t < (0 : Int))) false, Dec (s != (1 : Int)) false, Dec (decide (d > (8 : Int))) false, Dec (decide (d < (1 : Int))) false, Dec (decide (e > (60 : Int))) false, Dec (decide (e < (0 : Int))) false] (by kernel_rfl) ⟨(((cf d1).trans ((cf d2).trans ((cf d3).trans ((cf d4).trans ((ct d5).trans ((cf d6).trans ((cf d7).trans ((cf d8).trans ((cf d9).trans rfl))))))))) : legalR_v e d s o t = _).symm, d9, ?_, (dN d8), d7, d6, (dN d5), d4, d3, d2, d1⟩)))))
    (fun d5 => Or.elim (Bool.eq_false_or_eq_true (s == (-1 : Int))) (fun d6 => Or.elim (Bool.eq_false_or_eq_true (decide (t < (0 : Int)))) (fun d7 => rr [false, false, false, false, true, false, true] [false = legalR_v e d s o t, Dec (decide (t < (0 : Int))) true, Dec (s != (-1 : Int)) false, Dec (s != (1 : Int)) true, Dec (decide (d > (8 : Int))) false, Dec (decide (d < (1 : Int))) false, Dec (decide (e > (60 : Int))) false, Dec (decide (e < (0 : Int))) false] (by kernel_rfl) ⟨(((cf d1).trans ((cf d2).trans ((cf d3).trans ((cf d4).trans ((cf d5).trans ((ct d6).trans ((ct d7).trans rfl))))))) : legalR_v e d s o t = _).symm, d7, (dN d6), (dN d5), d4, d3, d2, d1⟩)
    (fun d7 => Or.elim (Bool.eq_false_or_eq_true (decide (t > (7 : Int)))) (fun d8 => rr [false, false, false, false, true, false, false, true] [false = legalR_v e d s o t, Dec (decide (t > (7 : Int))) true, Dec (decide (t < (0 : Int))) false, Dec (s != (-1 : Int)) false, Dec (s != (1 : Int)) true, Dec (decide (d > (8 : Int))) false, Dec (decide (d < (1 : Int))) false, Dec (decide (e > (60 : Int))) false, Dec (decide (e < (0 : Int))) false] (by kernel_rfl) ⟨(((cf d1).trans ((cf d2).trans ((cf d3).trans ((cf d4).trans ((cf d5).trans ((ct d6).trans ((cf d7).trans ((ct d8).trans rfl)))))))) : legalR_v e d s o t = _).symm, d8, d7, (dN d6), (dN d5), d4, d3, d2, d1⟩)
    (fun d8 => Or.elim (Bool.eq_false_or_eq_true (o)) (fun d9 => Or.elim (Bool.eq_false_or_eq_true ((IntKind.i64.wrap (t - d)).tmod (2 : Int) == (0 : Int))) (fun d10 => Or.elim (Bool.eq_false_or_eq_true (d == (1 : Int))) (fun d11 => Or.elim (Bool.eq_false_or_eq_true (t == (3 : Int))) (fun d12 => rr [false, false, false, false, true, false, false, false, false, false, true, false, true, true] [true = legalR_v e d s o t, Dec (t == (3 : Int)) true, Dec (d == (1 : Int)) true, Dec (s == (1 : Int)) false, Dec (d == (1 : Int)) true, Dec ((IntKind.i64.wrap (t - d)).tmod (2 : Int) != (0 : Int)) false, (2 : Int) ≠ (0 : Int), Dec (!o) false, Dec (decide (t > (7 : Int))) false, Dec (decide (t < (0 : Int))) false, Dec (s != (-1 : Int)) false, Dec (s != (1 : Int)) true, Dec (decide (d > (8 : Int))) false, Dec (decide (d < (1 : Int))) false, Dec (decide (e > (60 : Int))) false, Dec (decide (e < (0 : Int))) false] (by kernel_rfl) ⟨(((cf d1).trans ((cf d2).trans ((cf d3).trans ((cf d4).trans ((cf d5).trans ((ct d6).trans ((cf d7).trans ((cf d8).trans ((ct d9).trans ((ct d10).trans ((ct d11).trans ((ct d12).trans rfl)))))))))))) : legalR_v e d s o t = _).symm, d12, d11, d5, d11, (dN d10), ?_, (dN d9), d8, d7, (dN d6), (dN d5), d4, d3, d2, d1⟩)
    (fun d12 => rr [false, false, false, false, true, false, false, false, false, false, true, false, true, false] [(t == (5 : Int)) = legalR_v e d s o t, Dec (t == (3 : Int)) false, Dec (d == (1 : Int)) true, Dec (s == (1 : Int)) false, Dec (d == (1 : Int)) true, Dec ((IntKind.i64.wrap (t - d)).tmod (2 : Int) != (0 : Int)) false, (2 : Int) ≠ (0 : Int), Dec (!o) false, Dec (decide (t > (7 : Int))) false, Dec (decide (t < (0 : Int))) false, Dec (s != (-1 : Int)) false, Dec (s != (1 : Int)) true, Dec (decide (d > (8 : Int))) false, Dec (decide (d < (1 : Int))) false, Dec (decide (e > (60 : Int))) false, Dec (decide (e < (0 : Int))) false] (by kernel_rfl) ⟨(((cf d1).trans ((cf d2).trans ((cf d3).trans ((cf d4).trans ((cf d5).trans ((ct d6).trans ((cf d7).trans ((cf d8).trans ((ct d9).trans ((ct d10).trans ((ct d11).trans ((cf d12).trans rfl)))))))))))) : legalR_v e d s o t = _).symm, d12, d11, d5, d11, (dN d10), ?_, (dN d9), d8, d7, (dN d6), (dN d5), d4, d3, d2, d1⟩))
    (fun d11 => Or.elim (Bool.eq_false_or_eq_true (d == (2 : Int))) (fun d12 => rr [false, false, false, false, true, false, false, false, false, false, false, false, true, false, true] [(t != (0 : Int)) = legalR_v e d s o t, Dec (d == (2 : Int)) true, Dec (s == (1 : Int)) false, Dec (d == (2 : Int)) true, Dec (d == (1 : Int)) false, Dec (d == (1 : Int)) false, Dec ((IntKind.i64.wrap (t - d)).tmod (2 : Int) != (0 : Int)) false, (2 : Int) ≠ (0 : Int), Dec (!o) false, Dec (decide (t > (7 : Int))) false, Dec (decide (t < (0 : Int))) false, Dec (s != (-1 : Int)) false, Dec (s != (1 : Int)) true, Dec (decide (d > (8 : Int))) false, Dec (decide (d < (1 : Int))) false, Dec (decide (e > (60 : Int))) false, Dec (decide (e < (0 : Int))) false] (by kernel_rfl) ⟨(((cf d1).trans ((cf d2).trans ((cf d3).trans ((cf d4).trans ((cf d5).trans ((ct d6).trans ((cf d7).trans ((cf d8).trans ((ct d9).trans ((ct d10).trans ((cf d11).trans ((ct d12).trans rfl)))))))))))) : legalR_v e d s o t = _).symm, d12, d5, d12, d11, d11, (dN d10), ?_, (dN d9), d8, d7, (dN d6), (dN d5), d4, d3, d2, d1⟩)
    (fun d12 => rr [false, false, false, false, true, false, false, false, false, false, false, false, false, false] [true = legalR_v e d s o t, Dec (d == (2 : Int)) false, Dec (d == (2 : Int)) false, Dec (d == (1 : Int)) false, Dec (d == (1 : Int)) false, Dec ((IntKind.i64.wrap (t - d)).tmod (2 : Int) != (0 : Int)) false, (2 : Int) ≠ (0 : Int), Dec (!o) false, Dec (decide (t > (7 : Int))) false, Dec (decide (t < (0 : Int))) false, Dec (s != (-1 : Int)) false, Dec (s != (1 : Int)) true, Dec (decide (d > (8 : Int))) false, Dec (decide (d < (1 : Int))) false, Dec (decide (e > (60 : Int))) false, Dec (decide (e < (0 : Int))) false] (by kernel_rfl) ⟨(((cf d1).trans ((cf d2).trans ((cf d3).trans ((cf d4).trans ((cf d5).trans ((ct d6).trans ((cf d7).trans ((cf d8).trans ((ct d9).trans ((ct d10).trans ((cf d11).trans ((cf d12).trans rfl)))))))))))) : legalR_v e d s o t = _).symm, d12, d12, d11, d11, (dN d10), ?_, (dN d9), d8, d7, (dN d6), (dN d5), d4, d3, d2, d1⟩)))
    (fun d10 => rr [false, false, false, false, true, false, false, false, false, true] [false = legalR_v e d s o t, Dec ((IntKind.i64.wrap (t - d)).tmod (2 : Int) != (0 : Int)) true, (2 : Int) ≠ (0 : Int), Dec (!o) false, Dec (decide (t > (7 : Int))) false, Dec (decide (t < (0 : Int))) false, Dec (s != (-1 : Int)) false, Dec (s != (1 : Int)) true, Dec (decide (d > (8 : Int))) false, Dec (decide (d < (1 : Int))) false, Dec (decide (e > (60 : Int))) false, Dec (decide (e < (0 : Int))) false] (by kernel_rfl) ⟨(((cf d1).trans ((cf d2).trans ((cf d3).trans ((cf d4).trans ((cf d5).trans ((ct d6).trans ((cf d7).trans ((cf d8).trans ((ct d9).trans ((cf d10).trans rfl)))))))))) : legalR_v e d s o t = _).symm, (dN d10), ?_, (dN d9), d8, d7, (dN d6), (dN d5), d4, d3, d2, d1⟩))
    (fun d9 => Or.elim (Bool.eq_false_or_eq_true (d.tmod (2 : Int) == (0 : Int))) (fun d10 => rr [false, false, false, false, true, false, false, false, true, true] [(t == (0 : Int)) = legalR_v e d s o t, Dec (d.tmod (2 : Int) == (0 : Int)) true, (2 : Int) ≠ (0 : Int), Dec (!o) true, Dec (decide (t > (7 : Int))) false, Dec (decide (t < (0 : Int))) false, Dec (s != (-1 : Int)) false, Dec (s != (1 : Int)) true, Dec (decide (d > (8 : Int))) false, Dec (decide (d < (1 : Int))) false, Dec (decide (e > (60 : Int))) false, Dec (decide (e < (0 : Int))) false] (by kernel_rfl) ⟨(((cf d1).trans ((cf d2).trans ((cf d3).trans ((cf d4).trans ((cf d5).trans ((ct d6).trans ((cf d7).trans ((cf d8).trans ((cf d9).trans ((ct d10).trans rfl)))))))))) : legalR_v e d s o t = _).symm, d10, ?_, (dN d9), d8, d7, (dN d6), (dN d5), d4, d3, d2, d1⟩)
    (fun d10 => rr [false, false, false, false, true, false, false, false, true, false] [false = legalR_v e d s o t, Dec (d.tmod (2 : Int) == (0 : Int)) false, (2 : Int) ≠ (0 : Int), Dec (!o) true, Dec (decide (t > (7 : Int))) false, Dec (decide (t < (0 : Int))) false, Dec (s != (-1 : Int)) false, Dec (s != (1 : Int)) true, Dec (decide (d > (8 : Int))) false, Dec (decide (d < (1 : Int))) false, Dec (decide (e > (60 : Int))) false, Dec (decide (e < (0 : Int))) false] (by kernel_rfl) ⟨(((cf d1).trans ((cf d2).trans ((cf d3).trans ((cf d4).trans ((cf d5).trans ((ct d6).trans ((cf d7).trans ((cf d8).trans ((cf d9).trans ((cf d10).trans rfl)))))))))) : legalR_v e d s o t = _).symm, d10, ?_, (dN d9), d8, d7, (dN d6), (dN d5), d4, d3, d2, d1⟩)))))
    (fun d6 => rr [false, false, false, false, true, true] [false = legalR_v e d s o t, Dec (s != (-1 : Int)) true, Dec (s != (1 : Int)) true, Dec (decide (d > (8 : Int))) false, Dec (decide (d < (1 : Int))) false, Dec (decide (e > (60 : Int))) false, Dec (decide (e < (0 : Int))) false] (by kernel_rfl) ⟨(((cf d1).trans ((cf d2).trans ((cf d3).trans ((cf d4).trans ((cf d5).trans ((cf d6).trans rfl)))))) : legalR_v e d s o t = _).symm, (dN d6), (dN d5), d4, d3, d2, d1⟩))))))
  all_goals first | (decide)
end Go.Proofs.YtcfdaddablojlaaGreatDoor.S

namespace Go.Proofs.YtcfdaddablojlaaGreatDoor.S
open Go.QfSy Go.RowKit
def orderA (L : List Con) : Ann := ⟨⟨[(0, (roC L).av), (3, .int .i64 0), (6, (roC L).av), (7, .vint .i64 L.length), (8, .int .i64 0)], [], 1000⟩, some (ordL L (-1) 0), fun d => match d with
  | true => (.exit 0, ⟨[(3, .vint .i64 (dimS L))], [], 1000⟩)
  | false => (.ret, ⟨[(2, .bool false)], [], 1000⟩)⟩
set_option maxRecDepth 100000 in
theorem order_loop (L : List Con) (hn : L.length ≤ 1000000) : AnnOk Tryz.prog EV.ng (Nat.max 1 Tryz.f64.ntmps) (bodyAt Tryz.f64 [0, 1, 0, 1, 1]) (orderA L) := by
  refine ann_of evOk (callF_ok evOk (noOrc_ok _ _) 8) none_ann (by kernel_rfl) (by kernel_rfl) (fun i : Nat × Int => (fun (k : Nat) (s : Int) => (⟨[(0, (roC L).av), (3, .vint .i64 s), (6, (roC L).av), (7, .vint .i64 L.length), (8, .vint .i64 (k : Int))], [], 1000⟩ : St)) i.1 i.2) (fun i : Nat × Int => (fun (k : Nat) (s : Int) => (L.length - k : Nat)) i.1 i.2) (fun (d : Bool) (i : Nat × Int) => (fun (k : Nat) (s : Int) => (k ≤ L.length ∧ 0 ≤ s ∧ s ≤ 8 ∧ s = dimS (L.take k) ∧ ordL (L.drop k) (lastO L k) s = d : Prop)) i.1 i.2) ?_ ?_
  · intro d hd
    exact ⟨(0, 0), [L.length = L.length ∧ (rws L) = (rws L), (0 : Int) = (0 : Int), L.length = L.length ∧ (rws L) = (rws L), (↑L.length : Int) = (↑L.length : Int), (0 : Int) = (↑(0 : Nat) : Int)], by kernel_rfl, (by refine ⟨?_, ?_, ?_, ?_, (?_ : (0 : Int) = (↑(0 : Nat) : Int))⟩ <;> (first | rfl | assumption | omega | simp_all)), (by exact ⟨Nat.zero_le _, by decide, by decide, rfl, hd⟩)⟩
  · rintro d hd ⟨k, s⟩ hI
    cases d
    · -- d = false
      obtain ⟨hk, hs0, hs8, hsum, hord⟩ := hI
      have e8 : IntKind.i64.wrap ((8 : Int) - s) = 8 - s := w64 (by omega) (by omega)
      have ek : IntKind.i64.wrap ((k : Int) + 1) = ((k + 1 : Nat) : Int) := by rw [w64 (by omega) (by omega)]; omega
      have em : IntKind.i64.wrap ((k : Int) - 1) = (k : Int) - 1 := w64 (by omega) (by omega)
      have et : ((k : Int) - 1).toNat = k - 1 := by omega
      have hiff := @okO_iff L k s
      refine Or.elim (Bool.eq_false_or_eq_true (decide ((↑k : Int) < (↑L.length : Int)))) (fun d1 => Or.elim (Bool.eq_false_or_eq_true (decide ((L.getD k Con.zero).exp < (0 : Int)))) (fun d2 => ⟨[true, true], .inr ⟨[Dec (decide ((L.getD k Con.zero).exp < (0 : Int))) true, (0 : Int) ≤ (↑k : Int) ∧ (↑k : Int) < (↑L.length : Int), Dec (decide ((↑k : Int) < (↑L.length : Int))) true], by kernel_rfl, ⟨d2, ?_, d1⟩, rfl⟩⟩)
           (fun d2 => Or.elim (Bool.eq_false_or_eq_true (decide ((L.getD k Con.zero).exp > (60 : Int)))) (fun d3 => ⟨[true, false, true], .inr ⟨[Dec (decide ((L.getD k Con.zero).exp > (60 : Int))) true, Dec (decide ((L.getD k Con.zero).exp < (0 : Int))) false, (0 : Int) ≤ (↑k : Int) ∧ (↑k : Int) < (↑L.length : Int), Dec (decide ((↑k : Int) < (↑L.length : Int))) true], by kernel_rfl, ⟨d3, d2, ?_, d1⟩, rfl⟩⟩)
           (fun d3 => Or.elim (Bool.eq_false_or_eq_true (decide ((↑k : Int) > (0 : Int)))) (fun d4 => Or.elim (Bool.eq_false_or_eq_true (decide ((L.getD k Con.zero).exp ≤ (L.getD (IntKind.i64.wrap ((↑k : Int) - (1 : Int))).toNat Con.zero).exp))) (fun d5 => ⟨[true, false, false, true, true], .inr ⟨[Dec (decide ((L.getD k Con.zero).exp ≤ (L.getD (IntKind.i64.wrap ((↑k : Int) - (1 : Int))).toNat Con.zero).exp)) true, (0 : Int) ≤ IntKind.i64.wrap ((↑k : Int) - (1 : Int)) ∧ IntKind.i64.wrap ((↑k : Int) - (1 : Int)) < (↑L.length : Int), Dec (decide ((↑k : Int) > (0 : Int))) true, Dec (decide ((L.getD k Con.zero).exp > (60 : Int))) false, Dec (decide ((L.getD k Con.zero).exp < (0 : Int))) false, (0 : Int) ≤ (↑k : Int) ∧ (↑k : Int) < (↑L.length : Int), Dec (decide ((↑k : Int) < (↑L.length : Int))) true], by kernel_rfl, ⟨d5, ?_, d4, d3, d2, ?_, d1⟩, rfl⟩⟩)
           (fun d5 => Or.elim (Bool.eq_false_or_eq_true ((L.getD k Con.zero).sign == (1 : Int))) (fun d6 => Or.elim (Bool.eq_false_or_eq_true (decide ((L.getD k Con.zero).dim < (1 : Int)))) (fun d7 => ⟨[true, false, false, true, false, false, true], .inr ⟨[Dec (decide ((L.getD k Con.zero).dim < (1 : Int))) true, Dec ((L.getD k Con.zero).sign != (1 : Int)) false, Dec (decide ((L.getD k Con.zero).exp ≤ (L.getD (IntKind.i64.wrap ((↑k : Int) - (1 : Int))).toNat Con.zero).exp)) false, (0 : Int) ≤ IntKind.i64.wrap ((↑k : Int) - (1 : Int)) ∧ IntKind.i64.wrap ((↑k : Int) - (1 : Int)) < (↑L.length : Int), Dec (decide ((↑k : Int) > (0 : Int))) true, Dec (decide ((L.getD k Con.zero).exp > (60 : Int))) false, Dec (decide ((L.getD k Con.zero).exp < (0 : Int))) false, (0 : Int) ≤ (↑k : Int) ∧ (↑k : Int) < (↑L.length : Int), Dec (decide ((↑k : Int) < (↑L.length : Int))) true], by kernel_rfl, ⟨d7, (dN d6), d5, ?_, d4, d3, d2, ?_, d1⟩, rfl⟩⟩)
           (fun d7 => Or.elim (Bool.eq_false_or_eq_true (decide ((L.getD k Con.zero).dim > IntKind.i64.wrap ((8 : Int) - s)))) (fun d8 => ⟨[true, false, false, true, false, false, false, true], .inr ⟨[Dec (decide ((L.getD k Con.zero).dim > IntKind.i64.wrap ((8 : Int) - s))) true, Dec (decide ((L.getD k Con.zero).dim < (1 : Int))) false, Dec ((L.getD k Con.zero).sign != (1 : Int)) false, Dec (decide ((L.getD k Con.zero).exp ≤ (L.getD (IntKind.i64.wrap ((↑k : Int) - (1 : Int))).toNat Con.zero).exp)) false, (0 : Int) ≤ IntKind.i64.wrap ((↑k : Int) - (1 : Int)) ∧ IntKind.i64.wrap ((↑k : Int) - (1 : Int)) < (↑L.length : Int), Dec (decide ((↑k : Int) > (0 : Int))) true, Dec (decide ((L.getD k Con.zero).exp > (60 : Int))) false, Dec (decide ((L.getD k Con.zero).exp < (0 : Int))) false, (0 : Int) ≤ (↑k : Int) ∧ (↑k : Int) < (↑L.length : Int), Dec (decide ((↑k : Int) < (↑L.length : Int))) true], by kernel_rfl, ⟨d8, d7, (dN d6), d5, ?_, d4, d3, d2, ?_, d1⟩, rfl⟩⟩)
           (fun d8 => ⟨[true, false, false, true, false, false, false, false], .inl ⟨(k + 1, s + (at_ L k).dim), [L.length = L.length ∧ (rws L) = (rws L), IntKind.i64.wrap (s + (L.getD k Con.zero).dim) = s + (at_ L k).dim, L.length = L.length ∧ (rws L) = (rws L), (↑L.length : Int) = (↑L.length : Int), IntKind.i64.wrap ((↑k : Int) + (1 : Int)) = (↑(k + (1 : Nat)) : Int), Dec (decide ((L.getD k Con.zero).dim > IntKind.i64.wrap ((8 : Int) - s))) false, Dec (decide ((L.getD k Con.zero).dim < (1 : Int))) false, Dec ((L.getD k Con.zero).sign != (1 : Int)) false, Dec (decide ((L.getD k Con.zero).exp ≤ (L.getD (IntKind.i64.wrap ((↑k : Int) - (1 : Int))).toNat Con.zero).exp)) false, (0 : Int) ≤ IntKind.i64.wrap ((↑k : Int) - (1 : Int)) ∧ IntKind.i64.wrap ((↑k : Int) - (1 : Int)) < (↑L.length : Int), Dec (decide ((↑k : Int) > (0 : Int))) true, Dec (decide ((L.getD k Con.zero).exp > (60 : Int))) false, Dec (decide ((L.getD k Con.zero).exp < (0 : Int))) false, (0 : Int) ≤ (↑k : Int) ∧ (↑k : Int) < (↑L.length : Int), Dec (decide ((↑k : Int) < (↑L.length : Int))) true], by kernel_rfl, ⟨?_, ?_, ?_, ?_, ?_, d8, d7, (dN d6), d5, ?_, d4, d3, d2, ?_, d1⟩, MuG.out ?_, InG.out ?_⟩⟩)))
           (fun d6 => Or.elim (Bool.eq_false_or_eq_true ((L.getD k Con.zero).sign == (-1 : Int))) (fun d7 => Or.elim (Bool.eq_false_or_eq_true (decide ((L.getD k Con.zero).dim < (1 : Int)))) (fun d8 => ⟨[true, false, false, true, false, true, false, true], .inr ⟨[Dec (decide ((L.getD k Con.zero).dim < (1 : Int))) true, Dec ((L.getD k Con.zero).sign != (-1 : Int)) false, Dec ((L.getD k Con.zero).sign != (1 : Int)) true, Dec (decide ((L.getD k Con.zero).exp ≤ (L.getD (IntKind.i64.wrap ((↑k : Int) - (1 : Int))).toNat Con.zero).exp)) false, (0 : Int) ≤ IntKind.i64.wrap ((↑k : Int) - (1 : Int)) ∧ IntKind.i64.wrap ((↑k : Int) - (1 : Int)) < (↑L.length : Int), Dec (decide ((↑k : Int) > (0 : Int))) true, Dec (decide ((L.getD k Con.zero).exp > (60 : Int))) false, Dec (decide ((L.getD k Con.zero).exp < (0 : Int))) false, (0 : Int) ≤ (↑k : Int) ∧ (↑k : Int) < (↑L.length : Int), Dec (decide ((↑k : Int) < (↑L.length : Int))) true], by kernel_rfl, ⟨d8, (dN d7), (dN d6), d5, ?_, d4, d3, d2, ?_, d1⟩, rfl⟩⟩)
           (fun d8 => Or.elim (Bool.eq_false_or_eq_true (decide ((L.getD k Con.zero).dim > IntKind.i64.wrap ((8 : Int) - s)))) (fun d9 => ⟨[true, false, false, true, false, true, false, false, true], .inr ⟨[Dec (decide ((L.getD k Con.zero).dim > IntKind.i64.wrap ((8 : Int) - s))) true, Dec (decide ((L.getD k Con.zero).dim < (1 : Int))) false, Dec ((L.getD k Con.zero).sign != (-1 : Int)) false, Dec ((L.getD k Con.zero).sign != (1 : Int)) true, Dec (decide ((L.getD k Con.zero).exp ≤ (L.getD (IntKind.i64.wrap ((↑k : Int) - (1 : Int))).toNat Con.zero).exp)) false, (0 : Int) ≤ IntKind.i64.wrap ((↑k : Int) - (1 : Int)) ∧ IntKind.i64.wrap ((↑k : Int) - (1 : Int)) < (↑L.length : Int), Dec (decide ((↑k : Int) > (0 : Int))) true, Dec (decide ((L.getD k Con.zero).exp > (60 : Int))) false, Dec (decide ((L.getD k Con.zero).exp < (0 : Int))) false, (0 : Int) ≤ (↑k : Int) ∧ (↑k : Int) < (↑L.length : Int), Dec (decide ((↑k : Int) < (↑L.length : Int))) true], by kernel_rfl, ⟨d9, d8, (dN d7), (dN d6), d5, ?_, d4, d3, d2, ?_, d1⟩, rfl⟩⟩)
           (fun d9 => ⟨[true, false, false, true, false, true, false, false, false], .inl ⟨(k + 1, s + (at_ L k).dim), [L.length = L.length ∧ (rws L) = (rws L), IntKind.i64.wrap (s + (L.getD k Con.zero).dim) = s + (at_ L k).dim, L.length = L.length ∧ (rws L) = (rws L), (↑L.length : Int) = (↑L.length : Int), IntKind.i64.wrap ((↑k : Int) + (1 : Int)) = (↑(k + (1 : Nat)) : Int), Dec (decide ((L.getD k Con.zero).dim > IntKind.i64.wrap ((8 : Int) - s))) false, Dec (decide ((L.getD k Con.zero).dim < (1 : Int))) false, Dec ((L.getD k Con.zero).sign != (-1 : Int)) false, Dec ((L.getD k Con.zero).sign != (1 : Int)) true, Dec (decide ((L.getD k Con.zero).exp ≤ (L.getD (IntKind.i64.wrap ((↑k : Int) - (1 : Int))).toNat Con.zero).exp)) false, (0 : Int) ≤ IntKind.i64.wrap ((↑k : Int) - (1 : Int)) ∧ IntKind.i64.wrap ((↑k : Int) - (1 : Int)) < (↑L.length : Int), Dec (decide ((↑k : Int) > (0 : Int))) true, Dec (decide ((L.getD k Con.zero).exp > (60 : Int))) false, Dec (decide ((L.getD k Con.zero).exp < (0 : Int))) false, (0 : Int) ≤ (↑k : Int) ∧ (↑k : Int) < (↑L.length : Int), Dec (decide ((↑k : Int) < (↑L.length : Int))) true], by kernel_rfl, ⟨?_, ?_, ?_, ?_, ?_, d9, d8, (dN d7), (dN d6), d5, ?_, d4, d3, d2, ?_, d1⟩, MuG.out ?_, InG.out ?_⟩⟩)))
           (fun d7 => ⟨[true, false, false, true, false, true, true], .inr ⟨[Dec ((L.getD k Con.zero).sign != (-1 : Int)) true, Dec ((L.getD k Con.zero).sign != (1 : Int)) true, Dec (decide ((L.getD k Con.zero).exp ≤ (L.getD (IntKind.i64.wrap ((↑k : Int) - (1 : Int))).toNat Con.zero).exp)) false, (0 : Int) ≤ IntKind.i64.wrap ((↑k : Int) - (1 : Int)) ∧ IntKind.i64.wrap ((↑k : Int) - (1 : Int)) < (↑L.length : Int), Dec (decide ((↑k : Int) > (0 : Int))) true, Dec (decide ((L.getD k Con.zero).exp > (60 : Int))) false, Dec (decide ((L.getD k Con.zero).exp < (0 : Int))) false, (0 : Int) ≤ (↑k : Int) ∧ (↑k : Int) < (↑L.length : Int), Dec (decide ((↑k : Int) < (↑L.length : Int))) true], by kernel_rfl, ⟨(dN d7), (dN d6), d5, ?_, d4, d3, d2, ?_, d1⟩, rfl⟩⟩))))
           (fun d4 => Or.elim (Bool.eq_false_or_eq_true ((L.getD k Con.zero).sign == (1 : Int))) (fun d5 => Or.elim (Bool.eq_false_or_eq_true (decide ((L.getD k Con.zero).dim < (1 : Int)))) (fun d6 => ⟨[true, false, false, false, false, true], .inr ⟨[Dec (decide ((L.getD k Con.zero).dim < (1 : Int))) true, Dec ((L.getD k Con.zero).sign != (1 : Int)) false, Dec (decide ((↑k : Int) > (0 : Int))) false, Dec (decide ((L.getD k Con.zero).exp > (60 : Int))) false, Dec (decide ((L.getD k Con.zero).exp < (0 : Int))) false, (0 : Int) ≤ (↑k : Int) ∧ (↑k : Int) < (↑L.length : Int), Dec (decide ((↑k : Int) < (↑L.length : Int))) true], by kernel_rfl, ⟨d6, (dN d5), d4, d3, d2, ?_, d1⟩, rfl⟩⟩)
           (fun d6 => Or.elim (Bool.eq_false_or_eq_true (decide ((L.getD k Con.zero).dim > IntKind.i64.wrap ((8 : Int) - s)))) (fun d7 => ⟨[true, false, false, false, false, false, true], .inr ⟨[Dec (decide ((L.getD k Con.zero).dim > IntKind.i64.wrap ((8 : Int) - s))) true, Dec (decide ((L.getD k Con.zero).dim < (1 : Int))) false, Dec ((L.getD k Con.zero).sign != (1 : Int)) false, Dec (decide ((↑k : Int) > (0 : Int))) false, Dec (decide ((L.getD k Con.zero).exp > (60 : Int))) false, Dec (decide ((L.getD k Con.zero).exp < (0 : Int))) false, (0 : Int) ≤ (↑k : Int) ∧ (↑k : Int) < (↑L.length : Int), Dec (decide ((↑k : Int) < (↑L.length : Int))) true], by kernel_rfl, ⟨d7, d6, (dN d5), d4, d3, d2, ?_, d1⟩, rfl⟩⟩)
           (fun d7 => ⟨[true, false, false, false, false, false, false], .inl ⟨(k + 1, s + (at_ L k).dim), [L.length = L.length ∧ (rws L) = (rws L), IntKind.i64.wrap (s + (L.getD k Con.zero).dim) = s + (at_ L k).dim, L.length = L.length ∧ (rws L) = (rws L), (↑L.length : Int) = (↑L.length : Int), IntKind.i64.wrap ((↑k : Int) + (1 : Int)) = (↑(k + (1 : Nat)) : Int), Dec (decide ((L.getD k Con.zero).dim > IntKind.i64.wrap ((8 : Int) - s))) false, Dec (decide ((L.getD k Con.zero).dim < (1 : Int))) false, Dec ((L.getD k Con.zero).sign != (1 : Int)) false, Dec (decide ((↑k : Int) > (0 : Int))) false, Dec (decide ((L.getD k Con.zero).exp > (60 : Int))) false, Dec (decide ((L.getD k Con.zero).exp < (0 : Int))) false, (0 : Int) ≤ (↑k : Int) ∧ (↑k : Int) < (↑L.length : Int), Dec (decide ((↑k : Int) < (↑L.length : Int))) true], by kernel_rfl, ⟨?_, ?_, ?_, ?_, ?_, d7, d6, (dN d5), d4, d3, d2, ?_, d1⟩, MuG.out ?_, InG.out ?_⟩⟩)))
           (fun d5 => Or.elim (Bool.eq_false_or_eq_true ((L.getD k Con.zero).sign == (-1 : Int))) (fun d6 => Or.elim (Bool.eq_false_or_eq_true (decide ((L.getD k Con.zero).dim < (1 : Int)))) (fun d7 => ⟨[true, false, false, false, true, false, true], .inr ⟨[Dec (decide ((L.getD k Con.zero).dim < (1 : Int))) true, Dec ((L.getD k Con.zero).sign != (-1 : Int)) false, Dec ((L.getD k Con.zero).sign != (1 : Int)) true, Dec (decide ((↑k : Int) > (0 : Int))) false, Dec (decide ((L.getD k Con.zero).exp > (60 : Int))) false, Dec (decide ((L.getD k Con.zero).exp < (0 : Int))) false, (0 : Int) ≤ (↑k : Int) ∧ (↑k : Int) < (↑L.length : Int), Dec (decide ((↑k : Int) < (↑L.length : Int))) true], by kernel_rfl, ⟨d7, (dN d6), (dN d5), d4, d3, d2, ?_, d1⟩, rfl⟩⟩)
           (fun d7 => Or.elim (Bool.eq_false_or_eq_true (decide ((L.getD k Con.zero).dim > IntKind.i64.wrap ((8 : Int) - s)))) (fun d8 => ⟨[true, false, false, false, true, false, false, true], .inr ⟨[Dec (decide ((L.getD k Con.zero).dim > IntKind.i64.wrap ((8 : Int) - s))) true, Dec (decide ((L.getD k Con.zero).dim < (1 : Int))) false, Dec ((L.getD k Con.zero).sign != (-1 : Int)) false, Dec ((L.getD k Con.zero).sign != (1 : Int)) true, Dec (decide ((↑k : Int) > (0 : Int))) false, Dec (decide ((L.getD k Con.zero).exp > (60 : Int))) false, Dec (decide ((L.getD k Con.zero).exp < (0 : Int))) false, (0 : Int) ≤ (↑k : Int) ∧ (↑k : Int) < (↑L.length : Int), Dec (decide ((↑k : Int) < (↑L.length : Int))) true], by kernel_rfl, ⟨d8, d7, (dN d6), (dN d5), d4, d3, d2, ?_, d1⟩, rfl⟩⟩)
           (fun d8 => ⟨[true, false, false, false, true, false, false, false], .inl ⟨(k + 1, s + (at_ L k).dim), [L.length = L.length ∧ (rws L) = (rws L), IntKind.i64.wrap (s + (L.getD k Con.zero).dim) = s + (at_ L k).dim, L.length = L.length ∧ (rws L) = (rws L), (↑L.length : Int) = (↑L.length : Int), IntKind.i64.wrap ((↑k : Int) + (1 : Int)) = (↑(k + (1 : Nat)) : Int), Dec (decide ((L.getD k Con.zero).dim > IntKind.i64.wrap ((8 : Int) - s))) false, Dec (decide ((L.getD k Con.zero).dim < (1 : Int))) false, Dec ((L.getD k Con.zero).sign != (-1 : Int)) false, Dec ((L.getD k Con.zero).sign != (1 : Int)) true, Dec (decide ((↑k : Int) > (0 : Int))) false, Dec (decide ((L.getD k Con.zero).exp > (60 : Int))) false, Dec (decide ((L.getD k Con.zero).exp < (0 : Int))) false, (0 : Int) ≤ (↑k : Int) ∧ (↑k : Int) < (↑L.length : Int), Dec (decide ((↑k : Int) < (↑L.length : Int))) true], by kernel_rfl, ⟨?_, ?_, ?_, ?_, ?_, d8, d7, (dN d6), (dN d5), d4, d3, d2, ?_, d1⟩, MuG.out ?_, InG.out ?_⟩⟩)))
           (fun d6 => ⟨[true, false, false, false, true, true], .inr ⟨[Dec ((L.getD k Con.zero).sign != (-1 : Int)) true, Dec ((L.getD k Con.zero).sign != (1 : Int)) true, Dec (decide ((↑k : Int) > (0 : Int))) false, Dec (decide ((L.getD k Con.zero).exp > (60 : Int))) false, Dec (decide ((L.getD k Con.zero).exp < (0 : Int))) false, (0 : Int) ≤ (↑k : Int) ∧ (↑k : Int) < (↑L.length : Int), Dec (decide ((↑k : Int) < (↑L.length : Int))) true], by kernel_rfl, ⟨(dN d6), (dN d5), d4, d3, d2, ?_, d1⟩, rfl⟩⟩))))))
           (fun d1 => CtG.no ?_)
      all_goals first | (refine MuG.mk ?_; (simp only [decide_eq_true_eq] at d1; show L.length - (k + 1) < L.length - k; omega)) | (refine InG.mk ?_; (simp only [at_, e8, em, et, decide_eq_true_eq, decide_eq_false_iff_not, Int.toNat_natCast, beq_iff_eq, beq_eq_false_iff_ne, ne_eq] at *; have hlt : k < L.length := (by omega); have ho := hiff.2 (by refine ⟨?_, ?_, ?_, ?_, ?_, ?_⟩ <;> omega); exact ⟨by omega, by omega, by omega, by rw [dimS_take hlt, hsum], by rw [ord_next hlt ho, hord]⟩)) | (refine CtG.mk ?_; (simp only [at_, e8, em, et, decide_eq_true_eq, decide_eq_false_iff_not, Int.toNat_natCast, beq_iff_eq, beq_eq_false_iff_ne, ne_eq] at *; first | (have := ord_end (L := L) (k := k) (by omega) (lastO L k) s; simp_all; done) | (have hlt : k < L.length := (by omega); rw [drop_at hlt] at hord; simp only [ordL, Bool.and_eq_true] at hord; have := hiff.1 hord.1; omega))) | (first | rfl | exact ⟨rfl, rfl⟩ | (simp only [at_, e8, em, ek, et, decide_eq_true_eq, decide_eq_false_iff_not, Int.toNat_natCast] at * <;> first | omega | (rw [w64 (by omega) (by omega)]) | (rw [hsum]; exact dimS_all (by omega))))
    · -- d = true
      obtain ⟨hk, hs0, hs8, hsum, hord⟩ := hI
      have e8 : IntKind.i64.wrap ((8 : Int) - s) = 8 - s := w64 (by omega) (by omega)
      have ek : IntKind.i64.wrap ((k : Int) + 1) = ((k + 1 : Nat) : Int) := by rw [w64 (by omega) (by omega)]; omega
      have em : IntKind.i64.wrap ((k : Int) - 1) = (k : Int) - 1 := w64 (by omega) (by omega)
      have et : ((k : Int) - 1).toNat = k - 1 := by omega
      have hiff := @okO_iff L k s
      refine Or.elim (Bool.eq_false_or_eq_true (decide ((↑k : Int) < (↑L.length : Int)))) (fun d1 => Or.elim (Bool.eq_false_or_eq_true (decide ((L.getD k Con.zero).exp < (0 : Int)))) (fun d2 => CtG.no ?_)
           (fun d2 => Or.elim (Bool.eq_false_or_eq_true (decide ((L.getD k Con.zero).exp > (60 : Int)))) (fun d3 => CtG.no ?_)
           (fun d3 => Or.elim (Bool.eq_false_or_eq_true (decide ((↑k : Int) > (0 : Int)))) (fun d4 => Or.elim (Bool.eq_false_or_eq_true (decide ((L.getD k Con.zero).exp ≤ (L.getD (IntKind.i64.wrap ((↑k : Int) - (1 : Int))).toNat Con.zero).exp))) (fun d5 => CtG.no ?_)
           (fun d5 => Or.elim (Bool.eq_false_or_eq_true ((L.getD k Con.zero).sign == (1 : Int))) (fun d6 => Or.elim (Bool.eq_false_or_eq_true (decide ((L.getD k Con.zero).dim < (1 : Int)))) (fun d7 => CtG.no ?_)
           (fun d7 => Or.elim (Bool.eq_false_or_eq_true (decide ((L.getD k Con.zero).dim > IntKind.i64.wrap ((8 : Int) - s)))) (fun d8 => CtG.no ?_)
           (fun d8 => ⟨[true, false, false, true, false, false, false, false], .inl ⟨(k + 1, s + (at_ L k).dim), [L.length = L.length ∧ (rws L) = (rws L), IntKind.i64.wrap (s + (L.getD k Con.zero).dim) = s + (at_ L k).dim, L.length = L.length ∧ (rws L) = (rws L), (↑L.length : Int) = (↑L.length : Int), IntKind.i64.wrap ((↑k : Int) + (1 : Int)) = (↑(k + (1 : Nat)) : Int), Dec (decide ((L.getD k Con.zero).dim > IntKind.i64.wrap ((8 : Int) - s))) false, Dec (decide ((L.getD k Con.zero).dim < (1 : Int))) false, Dec ((L.getD k Con.zero).sign != (1 : Int)) false, Dec (decide ((L.getD k Con.zero).exp ≤ (L.getD (IntKind.i64.wrap ((↑k : Int) - (1 : Int))).toNat Con.zero).exp)) false, (0 : Int) ≤ IntKind.i64.wrap ((↑k : Int) - (1 : Int)) ∧ IntKind.i64.wrap ((↑k : Int) - (1 : Int)) < (↑L.length : Int), Dec (decide ((↑k : Int) > (0 : Int))) true, Dec (decide ((L.getD k Con.zero).exp > (60 : Int))) false, Dec (decide ((L.getD k Con.zero).exp < (0 : Int))) false, (0 : Int) ≤ (↑k : Int) ∧ (↑k : Int) < (↑L.length : Int), Dec (decide ((↑k : Int) < (↑L.length : Int))) true], by kernel_rfl, ⟨?_, ?_, ?_, ?_, ?_, d8, d7, (dN d6), d5, ?_, d4, d3, d2, ?_, d1⟩, MuG.out ?_, InG.out ?_⟩⟩)))
           (fun d6 => Or.elim (Bool.eq_false_or_eq_true ((L.getD k Con.zero).sign == (-1 : Int))) (fun d7 => Or.elim (Bool.eq_false_or_eq_true (decide ((L.getD k Con.zero).dim < (1 : Int)))) (fun d8 => CtG.no ?_)
           (fun d8 => Or.elim (Bool.eq_false_or_eq_true (decide ((L.getD k Con.zero).dim > IntKind.i64.wrap ((8 : Int) - s)))) (fun d9 => CtG.no ?_)
           (fun d9 => ⟨[true, false, false, true, false, true, false, false, false], .inl ⟨(k + 1, s + (at_ L k).dim), [L.length = L.length ∧ (rws L) = (rws L), IntKind.i64.wrap (s + (L.getD k Con.zero).dim) = s + (at_ L k).dim, L.length = L.length ∧ (rws L) = (rws L), (↑L.length : Int) = (↑L.length : Int), IntKind.i64.wrap ((↑k : Int) + (1 : Int)) = (↑(k + (1 : Nat)) : Int), Dec (decide ((L.getD k Con.zero).dim > IntKind.i64.wrap ((8 : Int) - s))) false, Dec (decide ((L.getD k Con.zero).dim < (1 : Int))) false, Dec ((L.getD k Con.zero).sign != (-1 : Int)) false, Dec ((L.getD k Con.zero).sign != (1 : Int)) true, Dec (decide ((L.getD k Con.zero).exp ≤ (L.getD (IntKind.i64.wrap ((↑k : Int) - (1 : Int))).toNat Con.zero).exp)) false, (0 : Int) ≤ IntKind.i64.wrap ((↑k : Int) - (1 : Int)) ∧ IntKind.i64.wrap ((↑k : Int) - (1 : Int)) < (↑L.length : Int), Dec (decide ((↑k : Int) > (0 : Int))) true, Dec (decide ((L.getD k Con.zero).exp > (60 : Int))) false, Dec (decide ((L.getD k Con.zero).exp < (0 : Int))) false, (0 : Int) ≤ (↑k : Int) ∧ (↑k : Int) < (↑L.length : Int), Dec (decide ((↑k : Int) < (↑L.length : Int))) true], by kernel_rfl, ⟨?_, ?_, ?_, ?_, ?_, d9, d8, (dN d7), (dN d6), d5, ?_, d4, d3, d2, ?_, d1⟩, MuG.out ?_, InG.out ?_⟩⟩)))
           (fun d7 => CtG.no ?_))))
           (fun d4 => Or.elim (Bool.eq_false_or_eq_true ((L.getD k Con.zero).sign == (1 : Int))) (fun d5 => Or.elim (Bool.eq_false_or_eq_true (decide ((L.getD k Con.zero).dim < (1 : Int)))) (fun d6 => CtG.no ?_)
           (fun d6 => Or.elim (Bool.eq_false_or_eq_true (decide ((L.getD k Con.zero).dim > IntKind.i64.wrap ((8 : Int) - s)))) (fun d7 => CtG.no ?_)
           (fun d7 => ⟨[true, false, false, false, false, false, false], .inl ⟨(k + 1, s + (at_ L k).dim), [L.length = L.length ∧ (rws L) = (rws L), IntKind.i64.wrap (s + (L.getD k Con.zero).dim) = s + (at_ L k).dim, L.length = L.length ∧ (rws L) = (rws L), (↑L.length : Int) = (↑L.length : Int), IntKind.i64.wrap ((↑k : Int) + (1 : Int)) = (↑(k + (1 : Nat)) : Int), Dec (decide ((L.getD k Con.zero).dim > IntKind.i64.wrap ((8 : Int) - s))) false, Dec (decide ((L.getD k Con.zero).dim < (1 : Int))) false, Dec ((L.getD k Con.zero).sign != (1 : Int)) false, Dec (decide ((↑k : Int) > (0 : Int))) false, Dec (decide ((L.getD k Con.zero).exp > (60 : Int))) false, Dec (decide ((L.getD k Con.zero).exp < (0 : Int))) false, (0 : Int) ≤ (↑k : Int) ∧ (↑k : Int) < (↑L.length : Int), Dec (decide ((↑k : Int) < (↑L.length : Int))) true], by kernel_rfl, ⟨?_, ?_, ?_, ?_, ?_, d7, d6, (dN d5), d4, d3, d2, ?_, d1⟩, MuG.out ?_, InG.out ?_⟩⟩)))
           (fun d5 => Or.elim (Bool.eq_false_or_eq_true ((L.getD k Con.zero).sign == (-1 : Int))) (fun d6 => Or.elim (Bool.eq_false_or_eq_true (decide ((L.getD k Con.zero).dim < (1 : Int)))) (fun d7 => CtG.no ?_)
           (fun d7 => Or.elim (Bool.eq_false_or_eq_true (decide ((L.getD k Con.zero).dim > IntKind.i64.wrap ((8 : Int) - s)))) (fun d8 => CtG.no ?_)
           (fun d8 => ⟨[true, false, false, false, true, false, false, false], .inl ⟨(k + 1, s + (at_ L k).dim), [L.length = L.length ∧ (rws L) = (rws L), IntKind.i64.wrap (s + (L.getD k Con.zero).dim) = s + (at_ L k).dim, L.length = L.length ∧ (rws L) = (rws L), (↑L.length : Int) = (↑L.length : Int), IntKind.i64.wrap ((↑k : Int) + (1 : Int)) = (↑(k + (1 : Nat)) : Int), Dec (decide ((L.getD k Con.zero).dim > IntKind.i64.wrap ((8 : Int) - s))) false, Dec (decide ((L.getD k Con.zero).dim < (1 : Int))) false, Dec ((L.getD k Con.zero).sign != (-1 : Int)) false, Dec ((L.getD k Con.zero).sign != (1 : Int)) true, Dec (decide ((↑k : Int) > (0 : Int))) false, Dec (decide ((L.getD k Con.zero).exp > (60 : Int))) false, Dec (decide ((L.getD k Con.zero).exp < (0 : Int))) false, (0 : Int) ≤ (↑k : Int) ∧ (↑k : Int) < (↑L.length : Int), Dec (decide ((↑k : Int) < (↑L.length : Int))) true], by kernel_rfl, ⟨?_, ?_, ?_, ?_, ?_, d8, d7, (dN d6), (dN d5), d4, d3, d2, ?_, d1⟩, MuG.out ?_, InG.out ?_⟩⟩)))
           (fun d6 => CtG.no ?_))))))
           (fun d1 => ⟨[false], .inr ⟨[s = dimS L, Dec (decide ((↑k : Int) < (↑L.length : Int))) false], by kernel_rfl, ⟨?_, d1⟩, rfl⟩⟩)
      all_goals first | (refine MuG.mk ?_; (simp only [decide_eq_true_eq] at d1; show L.length - (k + 1) < L.length - k; omega)) | (refine InG.mk ?_; (simp only [at_, e8, em, et, decide_eq_true_eq, decide_eq_false_iff_not, Int.toNat_natCast, beq_iff_eq, beq_eq_false_iff_ne, ne_eq] at *; have hlt : k < L.length := (by omega); have ho := hiff.2 (by refine ⟨?_, ?_, ?_, ?_, ?_, ?_⟩ <;> omega); exact ⟨by omega, by omega, by omega, by rw [dimS_take hlt, hsum], by rw [ord_next hlt ho, hord]⟩)) | (refine CtG.mk ?_; (simp only [at_, e8, em, et, decide_eq_true_eq, decide_eq_false_iff_not, Int.toNat_natCast, beq_iff_eq, beq_eq_false_iff_ne, ne_eq] at *; first | (have := ord_end (L := L) (k := k) (by omega) (lastO L k) s; simp_all; done) | (have hlt : k < L.length := (by omega); rw [drop_at hlt] at hord; simp only [ordL, Bool.and_eq_true] at hord; have := hiff.1 hord.1; omega))) | (first | rfl | exact ⟨rfl, rfl⟩ | (simp only [at_, e8, em, ek, et, decide_eq_true_eq, decide_eq_false_iff_not, Int.toNat_natCast] at * <;> first | omega | (rw [w64 (by omega) (by omega)]) | (rw [hsum]; exact dimS_all (by omega))))
set_option maxRecDepth 100000 in
theorem order_pure (L : List Con) (hn : L.length ≤ 1000000) : PureC Tryz.prog [] 64 [roC L] (.bool (orderV L)) := by
  have rr := fun (tp : List Bool) (ms : List Prop) h hm => pure_run evOk (callF_ok evOk (noOrc_ok _ _) 8) Tryz.func64 (A := [roC L]) (N := Nat.max 1 Tryz.f64.ntmps) rfl (one_ann (order_loop L hn)) rfl rfl evNg (tabs := []) (R := .bool (orderV L)) (tp := tp) (ms := ms) h hm
  refine Or.elim (Bool.eq_false_or_eq_true (ordL L (-1 : Int) (0 : Int))) (fun d1 => rr [true] [decide (dimS L > (0 : Int)) = orderV L, L.length = L.length ∧ (rws L) = (rws L), L.length = L.length ∧ (rws L) = (rws L), (↑L.length : Int) = (↑L.length : Int), Dec (ordL L (-1 : Int) (0 : Int)) true] (by kernel_rfl) ⟨?_, ?_, ?_, ?_, d1⟩)
           (fun d1 => rr [false] [false = orderV L, L.length = L.length ∧ (rws L) = (rws L), L.length = L.length ∧ (rws L) = (rws L), (↑L.length : Int) = (↑L.length : Int), Dec (ordL L (-1 : Int) (0 : Int)) false] (by kernel_rfl) ⟨?_, ?_, ?_, ?_, d1⟩)
  all_goals first | (first | rfl | exact ⟨rfl, rfl⟩ | (simp only [orderV, d1, Bool.true_and, Bool.false_and, Bool.and_true]))
end Go.Proofs.YtcfdaddablojlaaGreatDoor.S

namespace Go.Proofs.YtcfdaddablojlaaGreatDoor.S
open Go.QfSy Go.RowKit
def legalP (c : Con) : Prop := (0 ≤ c.exp ∧ c.exp ≤ 60) ∧ (1 ≤ c.dim ∧ c.dim ≤ 8) ∧ (c.sign = 1 ∨ c.sign = -1) ∧ (0 ≤ c.oddity ∧ c.oddity ≤ 7) ∧
  (c.odd = false → c.dim % 2 = 0 ∧ c.oddity = 0) ∧
  (c.odd = true → (c.oddity - c.dim) % 2 = 0 ∧ (c.dim = 1 → c.sign = 1 → c.oddity = 1 ∨ c.oddity = 7) ∧ (c.dim = 1 → c.sign = -1 → c.oddity = 3 ∨ c.oddity = 5) ∧ (c.dim = 2 → c.sign = 1 → c.oddity ≠ 4) ∧ (c.dim = 2 → c.sign = -1 → c.oddity ≠ 0))
instance (c : Con) : Decidable (legalP c) := by unfold legalP; exact inferInstance
def legalB (c : Con) : Bool := decide (legalP c)
theorem tmod2 (a : Int) : a.tmod 2 = 0 ↔ a % 2 = 0 := by
  rw [← Int.dvd_iff_tmod_eq_zero, ← Int.dvd_iff_emod_eq_zero]
theorem legalR_eq (c : Con) : legalR_v c.exp c.dim c.sign c.odd c.oddity = legalB c := by
  obtain ⟨e, d, s, o, t⟩ := c
  rw [Bool.eq_iff_iff]
  rw [show (legalB ⟨e, d, s, o, t⟩ = true) ↔ legalP ⟨e, d, s, o, t⟩ from by simp [legalB]]
  unfold legalP
  simp only
  by_cases hb : (0 ≤ e ∧ e ≤ 60) ∧ (1 ≤ d ∧ d ≤ 8) ∧ (0 ≤ t ∧ t ≤ 7)
  · have hw : IntKind.i64.wrap (t - d) = t - d := w64 (by omega) (by omega)
    unfold legalR_v
    have h1 : decide (e < 0) = false := by simp; omega
    have h2 : decide (e > 60) = false := by simp; omega
    have h3 : decide (d < 1) = false := by simp; omega
    have h4 : decide (d > 8) = false := by simp; omega
    have h5 : decide (t < 0) = false := by simp; omega
    have h6 : decide (t > 7) = false := by simp; omega
    have h7 := tmod2 (t - d)
    have h8 := tmod2 d
    rw [hw, h1, h2, h3, h4, h5, h6]
    simp only [cond_false, Bool.cond_eq_ite, beq_iff_eq]
    cases o
    · simp only [Bool.false_eq_true, if_false, false_implies, true_implies, and_true]
      repeat' split
      all_goals simp_all
      all_goals omega
    · simp only [if_true, true_implies, h7]
      repeat' split
      all_goals simp_all
      all_goals omega
  · constructor
    · intro h
      exfalso
      have : legalR_v e d s o t = false := by
        unfold legalR_v
        by_cases h1 : e < 0
        · simp only [h1, decide_true, cond_true]
        by_cases h2 : e > 60
        · simp only [h1, h2, decide_true, decide_false, cond_true, cond_false]
        by_cases h3 : d < 1
        · simp only [h1, h2, h3, decide_true, decide_false, cond_true, cond_false]
        by_cases h4 : d > 8
        · simp only [h1, h2, h3, h4, decide_true, decide_false, cond_true, cond_false]
        by_cases h5 : t < 0
        · simp only [h1, h2, h3, h4, h5, decide_true, decide_false, cond_true, cond_false]
          cases s == 1 <;> cases s == -1 <;> rfl
        by_cases h6 : t > 7
        · simp only [h1, h2, h3, h4, h5, h6, decide_true, decide_false, cond_true, cond_false]
          cases s == 1 <;> cases s == -1 <;> rfl
        exact absurd ⟨⟨by omega, by omega⟩, ⟨by omega, by omega⟩, ⟨by omega, by omega⟩⟩ hb
      rw [this] at h
      cases h
    · rintro ⟨a, b, c, d, _⟩
      exact absurd ⟨a, b, d⟩ hb
noncomputable def val2M (p : Int) (L : List Con) : Bool := (p == 2) && (orderV L && L.all legalB)
noncomputable def entsL : List OEnt := [
  ⟨65, [], fun A => match A with
    | [.agg [.int .i64 e, .int .i64 d, .int .i64 s, .bool o, .int .i64 t]] => some (.bool (legalB ⟨e, d, s, o, t⟩), [])
    | _ => none⟩,
  ⟨64, [], fun A => match A with
    | [.sl n 5 row] => some (.bool (orderV (consR n row)), [(∀ i, i < n → row i = (Con.ofR (row i)).rvs) ∧ n ≤ 1000])
    | _ => none⟩]
theorem entsL_ok : ∀ e ∈ entsL, EntOk Tryz.prog e := by
  intro e he
  simp only [entsL, List.mem_cons, List.not_mem_nil, or_false] at he
  rcases he with rfl | rfl
  all_goals
    intro A R ms h hm
    simp only at h
    split at h
    all_goals first | (cases h; done) | cases h
  · rw [← legalR_eq]; exact legalR _ _ _ _ _
  · obtain ⟨h1, h3⟩ := all_one hm
    exact PureC.imp (order_pure _ (by rw [consR_len]; omega)) (.cons (.con h1) .nil)
noncomputable def val2A (L : List Con) : Ann := ⟨⟨[(15, (roC L).av), (16, .vint .i64 L.length), (17, .int .i64 0)], [], 1001⟩, some (L.all legalB), fun d => match d with
  | true => (.exit 0, ⟨[], [], 1001⟩)
  | false => (.ret, ⟨[(2, .bool false)], [], 1001⟩)⟩
theorem all_drop {L : List Con} {k : Nat} (hk : k < L.length) (q : Con → Bool) : (L.drop k).all q = (q (at_ L k) && (L.drop (k + 1)).all q) := by
  rw [drop_at hk]; rfl
set_option maxRecDepth 100000 in
theorem val2_loop (L : List Con) (hn : L.length ≤ 1000) : AnnOk Tryz.prog EV.ng (Nat.max 1 Tryz.f39.ntmps) (bodyAt Tryz.f39 [0, 1, 0, 1, 1]) (val2A L) := by
  refine ann_of evOk (callF_ok evOk (orcOf_ok entsL_ok) 8) none_ann (by kernel_rfl) (by kernel_rfl) (fun i : Nat => (fun (k : Nat) => (⟨[(15, (roC L).av), (16, .vint .i64 L.length), (17, .vint .i64 (k : Int))], [], 1001⟩ : St)) i) (fun i : Nat => (fun (k : Nat) => (L.length - k : Nat)) i) (fun (d : Bool) (i : Nat) => (fun (k : Nat) => (k ≤ L.length ∧ (L.drop k).all legalB = d : Prop)) i) ?_ ?_
  · intro d hd
    exact ⟨(0), [L.length = L.length ∧ (rws L) = (rws L), (↑L.length : Int) = (↑L.length : Int), (0 : Int) = (↑(0 : Nat) : Int)], by kernel_rfl, (by refine ⟨?_, ?_, (?_ : (0 : Int) = (↑(0 : Nat) : Int))⟩ <;> (first | rfl | assumption | omega | simp_all)), (by exact ⟨Nat.zero_le _, hd⟩)⟩
  · rintro d hd k hI
    cases d
    · -- d = false
      obtain ⟨hk, hs⟩ := hI
      have ek : IntKind.i64.wrap ((k : Int) + 1) = ((k + 1 : Nat) : Int) := by rw [w64 (by omega) (by omega)]; omega
      refine Or.elim (Bool.eq_false_or_eq_true (decide ((↑k : Int) < (↑L.length : Int)))) (fun d1 => Or.elim (Bool.eq_false_or_eq_true (legalB (L.getD k Con.zero))) (fun d2 => ⟨[true, false], .inl ⟨(k + 1), [L.length = L.length ∧ (rws L) = (rws L), (↑L.length : Int) = (↑L.length : Int), IntKind.i64.wrap ((↑k : Int) + (1 : Int)) = (↑(k + (1 : Nat)) : Int), Dec (!legalB (L.getD k Con.zero)) false, (0 : Int) ≤ (↑k : Int) ∧ (↑k : Int) < (↑L.length : Int), Dec (decide ((↑k : Int) < (↑L.length : Int))) true], by kernel_rfl, ⟨?_, ?_, ?_, (dN d2), ?_, d1⟩, MuG.out ?_, InG.out ?_⟩⟩)
           (fun d2 => ⟨[true, true], .inr ⟨[Dec (!legalB (L.getD k Con.zero)) true, (0 : Int) ≤ (↑k : Int) ∧ (↑k : Int) < (↑L.length : Int), Dec (decide ((↑k : Int) < (↑L.length : Int))) true], by kernel_rfl, ⟨(dN d2), ?_, d1⟩, rfl⟩⟩))
           (fun d1 => CtG.no ?_)
      all_goals first | (refine MuG.mk ?_; (simp only [decide_eq_true_eq] at *; show L.length - (k + 1) < L.length - k; omega)) | (refine InG.mk ?_; (simp only [decide_eq_true_eq] at *; rw [all_drop (by omega)] at hs; rw [show legalB (at_ L k) = true from d2] at hs; exact ⟨by omega, hs⟩)) | (refine CtG.mk ?_; (simp only [decide_eq_true_eq, decide_eq_false_iff_not] at *; first | (rw [List.drop_eq_nil_of_le (by omega)] at hs; cases hs; done) | (rw [all_drop (by omega)] at hs; rw [show legalB (at_ L k) = false from d2] at hs; cases hs; done))) | (first | rfl | exact ⟨rfl, rfl⟩ | ((try simp only [ek, Int.toNat_natCast, decide_eq_true_eq, decide_eq_false_iff_not] at *) <;> omega))
    · -- d = true
      obtain ⟨hk, hs⟩ := hI
      have ek : IntKind.i64.wrap ((k : Int) + 1) = ((k + 1 : Nat) : Int) := by rw [w64 (by omega) (by omega)]; omega
      refine Or.elim (Bool.eq_false_or_eq_true (decide ((↑k : Int) < (↑L.length : Int)))) (fun d1 => Or.elim (Bool.eq_false_or_eq_true (legalB (L.getD k Con.zero))) (fun d2 => ⟨[true, false], .inl ⟨(k + 1), [L.length = L.length ∧ (rws L) = (rws L), (↑L.length : Int) = (↑L.length : Int), IntKind.i64.wrap ((↑k : Int) + (1 : Int)) = (↑(k + (1 : Nat)) : Int), Dec (!legalB (L.getD k Con.zero)) false, (0 : Int) ≤ (↑k : Int) ∧ (↑k : Int) < (↑L.length : Int), Dec (decide ((↑k : Int) < (↑L.length : Int))) true], by kernel_rfl, ⟨?_, ?_, ?_, (dN d2), ?_, d1⟩, MuG.out ?_, InG.out ?_⟩⟩)
           (fun d2 => CtG.no ?_))
           (fun d1 => ⟨[false], .inr ⟨[Dec (decide ((↑k : Int) < (↑L.length : Int))) false], by kernel_rfl, d1, rfl⟩⟩)
      all_goals first | (refine MuG.mk ?_; (simp only [decide_eq_true_eq] at *; show L.length - (k + 1) < L.length - k; omega)) | (refine InG.mk ?_; (simp only [decide_eq_true_eq] at *; rw [all_drop (by omega)] at hs; rw [show legalB (at_ L k) = true from d2] at hs; exact ⟨by omega, hs⟩)) | (refine CtG.mk ?_; (simp only [decide_eq_true_eq, decide_eq_false_iff_not] at *; first | (rw [List.drop_eq_nil_of_le (by omega)] at hs; cases hs; done) | (rw [all_drop (by omega)] at hs; rw [show legalB (at_ L k) = false from d2] at hs; cases hs; done))) | (first | rfl | exact ⟨rfl, rfl⟩ | ((try simp only [ek, Int.toNat_natCast, decide_eq_true_eq, decide_eq_false_iff_not] at *) <;> omega))
set_option maxRecDepth 100000 in
theorem val2_pure (p : Int) (L : List Con) (hn : L.length ≤ 1000) : PureC Tryz.prog [] 39 [.agg [.int .i64 p, roC L]] (.bool (val2M p L)) := by
  have rr := fun (tp : List Bool) (ms : List Prop) h hm => pure_run evOk (callF_ok evOk (orcOf_ok entsL_ok) 8) Tryz.func39 (A := [.agg [.int .i64 p, roC L]]) (N := Nat.max 1 Tryz.f39.ntmps) rfl (one_ann (val2_loop L hn)) rfl rfl evNg (tabs := []) (R := .bool (val2M p L)) (tp := tp) (ms := ms) h hm
  refine Or.elim (Bool.eq_false_or_eq_true (p == (2 : Int))) (fun d1 => Or.elim (Bool.eq_false_or_eq_true (orderV (consR L.length (rws L)))) (fun d2 => Or.elim (Bool.eq_false_or_eq_true (L.all legalB)) (fun d3 => rr [false, false, true] [true = val2M p L, L.length = L.length ∧ (rws L) = (rws L), (↑L.length : Int) = (↑L.length : Int), Dec (L.all legalB) true, Dec (!orderV (consR L.length (rws L))) false, (∀ (i : Nat), i < L.length → (rws L) i = (Con.ofR ((rws L) i)).rvs) ∧ L.length ≤ (1000 : Nat), Dec (p != (2 : Int)) false] (by kernel_rfl) ⟨?_, ?_, ?_, d3, (dN d2), ?_, (dN d1)⟩)
           (fun d3 => rr [false, false, false] [false = val2M p L, L.length = L.length ∧ (rws L) = (rws L), (↑L.length : Int) = (↑L.length : Int), Dec (L.all legalB) false, Dec (!orderV (consR L.length (rws L))) false, (∀ (i : Nat), i < L.length → (rws L) i = (Con.ofR ((rws L) i)).rvs) ∧ L.length ≤ (1000 : Nat), Dec (p != (2 : Int)) false] (by kernel_rfl) ⟨?_, ?_, ?_, d3, (dN d2), ?_, (dN d1)⟩))
           (fun d2 => rr [false, true] [false = val2M p L, Dec (!orderV (consR L.length (rws L))) true, (∀ (i : Nat), i < L.length → (rws L) i = (Con.ofR ((rws L) i)).rvs) ∧ L.length ≤ (1000 : Nat), Dec (p != (2 : Int)) false] (by kernel_rfl) ⟨?_, (dN d2), ?_, (dN d1)⟩))
           (fun d1 => rr [true] [false = val2M p L, Dec (p != (2 : Int)) true] (by kernel_rfl) ⟨?_, (dN d1)⟩)
  all_goals first | (first | rfl | exact ⟨rfl, rfl⟩ | ((try simp only [consR_ro] at *) <;> first | rfl | trivial | exact ⟨fun _ _ => rfl, hn⟩ | (simp_all [val2M]; done)))
noncomputable def entsF : List OEnt := entsP ++ [
  ⟨39, [], fun A => match A with
    | [.agg [.int .i64 p, .sl n 5 row]] => some (.bool (val2M p (consR n row)), [(∀ i, i < n → row i = (Con.ofR (row i)).rvs) ∧ n ≤ 1000])
    | _ => none⟩]
theorem entsF_ok : ∀ e ∈ entsF, EntOk Tryz.prog e := by
  intro e he
  rcases List.mem_append.1 he with he | he
  · exact entsP_ok e he
  · rw [List.mem_singleton.1 he]
    intro A R ms h hm
    simp only at h
    split at h
    · cases h
      obtain ⟨h1, h3⟩ := all_one hm
      exact PureC.imp (val2_pure _ _ (by rw [consR_len]; exact h3)) (.cons (.agg (.cons .same (.cons (.con h1) .nil))) .nil)
    · cases h
theorem zeroP_append : ∀ {a b : List Int} {L : List Con}, zeroP L (a ++ b) = zeroP (zeroP L a) b
  | [], _, _ => rfl
  | i :: a, b, L => by simp only [List.cons_append, zeroP]; exact zeroP_append
theorem zeroP_take {L : List Con} {l : List Int} {t : Nat} (ht : t < l.length) : zeroP L (l.take (t + 1)) = setO (zeroP L (l.take t)) (l.getD t 0) 0 := by
  rw [take_int ht, zeroP_append]; rfl
theorem fuseG_append {L0 : List Con} : ∀ {a b : List (List Int)} {L : List Con}, fuseG L0 L (a ++ b) = fuseG L0 (fuseG L0 L a) b
  | [], _, _ => rfl
  | i :: a, b, L => by simp only [List.cons_append, fuseG]; exact fuseG_append
theorem fuseG_take {L0 L : List Con} {P : List (List Int)} {j : Nat} (hj : j < P.length) : fuseG L0 L (P.take (j + 1)) = fuseP L0 (fuseG L0 L (P.take j)) (rowAt P j) := by
  rw [take_row hj, fuseG_append]; rfl
noncomputable def fuH (L M : List Con) : List (Nat × Blk) := [(1000, ⟨.plain [.vint .i64 2, (roC L).av], 24, 0, false, true⟩), (1001, ⟨.plain [.int .i64 0, .nils], 24, 0, false, true⟩), (1011, ⟨.con M, 49, 5, true, true⟩), (1012, ⟨.plain [.vint .i64 2, .lo 1011 L.length], 24, 0, false, true⟩)]
noncomputable def fuIn (L M : List Con) (P : List (List Int)) (j : Nat) : Ann := ⟨⟨[(1, .ptr 1000 0), (2, .ptr 1001 0), (4, .ptr 1012 0), (17, (roR .i64 P).av), (18, .vint .i64 P.length), (19, .vint .i64 (j : Int)), (6, (rI .i64 (rowAt P j)).av), (23, (rI .i64 (rowAt P j)).av), (24, .vint .i64 (rowAt P j).length), (25, .int .i64 0)], fuH L M, 1020⟩, none, fun _ =>
  (.exit 2, ⟨[(1, .ptr 1000 0), (2, .ptr 1001 0), (4, .ptr 1012 0), (17, (roR .i64 P).av), (18, .vint .i64 P.length), (19, .vint .i64 (j : Int)), (6, (rI .i64 (rowAt P j)).av)], fuH L (zeroP M (rowAt P j)), 1020⟩)⟩
set_option maxRecDepth 100000 in
theorem fu_in (L M : List Con) (P : List (List Int)) (j : Nat) (hn : (rowAt P j).length ≤ 1000) (hr : inR L.length (rowAt P j)) (hM : M.length = L.length) (hL : L.length ≤ 1000) : AnnOk Tryz.prog EV.ng (Nat.max 1 Tryz.f20.ntmps) (bodyAt Tryz.f20 [0, 1, 0, 1, 0, 0, 1, 1, 0, 0, 1, 0, 1, 1, 1]) (fuIn L M P j) := by
  refine ann_of evOk (callF_ok evOk (noOrc_ok _ _) 8) none_ann (by kernel_rfl) (by kernel_rfl) (fun i : Nat => (fun (t : Nat) => (⟨[(1, .ptr 1000 0), (2, .ptr 1001 0), (4, .ptr 1012 0), (17, (roR .i64 P).av), (18, .vint .i64 P.length), (19, .vint .i64 (j : Int)), (6, (rI .i64 (rowAt P j)).av), (23, (rI .i64 (rowAt P j)).av), (24, .vint .i64 (rowAt P j).length), (25, .vint .i64 (t : Int))], fuH L (zeroP M ((rowAt P j).take t)), 1020⟩ : St)) i) (fun i : Nat => (fun (t : Nat) => ((rowAt P j).length - t : Nat)) i) (fun (d : Bool) (i : Nat) => (fun (t : Nat) => (t ≤ (rowAt P j).length : Prop)) i) ?_ ?_
  · intro d hd
    exact ⟨(0), [P.length = P.length ∧ (fun i => [rI IntKind.i64 (P.getD i [])]) = fun i => [rI IntKind.i64 (P.getD i [])], (↑P.length : Int) = (↑P.length : Int), (↑j : Int) = (↑j : Int), (rowAt P j).length = (rowAt P j).length ∧ (fun j_1 => [RV.int IntKind.i64 ((rowAt P j).getD j_1 (0 : Int))]) = fun j_1 => [RV.int IntKind.i64 ((rowAt P j).getD j_1 (0 : Int))], (rowAt P j).length = (rowAt P j).length ∧ (fun j_1 => [RV.int IntKind.i64 ((rowAt P j).getD j_1 (0 : Int))]) = fun j_1 => [RV.int IntKind.i64 ((rowAt P j).getD j_1 (0 : Int))], (↑(rowAt P j).length : Int) = (↑(rowAt P j).length : Int), (0 : Int) = (↑(0 : Nat) : Int), (2 : Int) = (2 : Int), L.length = L.length ∧ (rws L) = (rws L), M = zeroP M (List.take (0 : Nat) (rowAt P j)), (2 : Int) = (2 : Int), L.length = L.length], by kernel_rfl, (by refine ⟨?_, ?_, ?_, ?_, ?_, ?_, ?_, ?_, ?_, ?_, ?_, (?_ : L.length = L.length)⟩ <;> (first | rfl | assumption | omega | simp_all)), (by exact Nat.zero_le _)⟩
  · rintro d hd t hI
    cases d
    · -- d = false
      exact Bool.noConfusion (show false = true from hd)
    · -- d = true
      have ek : IntKind.i64.wrap ((t : Int) + 1) = ((t + 1 : Nat) : Int) := by rw [w64 (by omega) (by omega)]; omega
      have hz : (zeroP M ((rowAt P j).take t)).length = L.length := by rw [zeroP_len, hM]
      refine Or.elim (Bool.eq_false_or_eq_true (decide ((↑t : Int) < (↑(rowAt P j).length : Int)))) (fun d1 => ⟨[true], .inl ⟨(t + 1), [P.length = P.length ∧ (fun i => [rI IntKind.i64 (P.getD i [])]) = fun i => [rI IntKind.i64 (P.getD i [])], (↑P.length : Int) = (↑P.length : Int), (↑j : Int) = (↑j : Int), (rowAt P j).length = (rowAt P j).length ∧ (fun j_1 => [RV.int IntKind.i64 ((rowAt P j).getD j_1 (0 : Int))]) = fun j_1 => [RV.int IntKind.i64 ((rowAt P j).getD j_1 (0 : Int))], (rowAt P j).length = (rowAt P j).length ∧ (fun j_1 => [RV.int IntKind.i64 ((rowAt P j).getD j_1 (0 : Int))]) = fun j_1 => [RV.int IntKind.i64 ((rowAt P j).getD j_1 (0 : Int))], (↑(rowAt P j).length : Int) = (↑(rowAt P j).length : Int), IntKind.i64.wrap ((↑t : Int) + (1 : Int)) = (↑(t + (1 : Nat)) : Int), (2 : Int) = (2 : Int), L.length = L.length ∧ (rws L) = (rws L), updT (zeroP M (List.take t (rowAt P j))) ((rowAt P j).getD t (0 : Int)).toNat (0 : Int) = zeroP M (List.take (t + (1 : Nat)) (rowAt P j)), (2 : Int) = (2 : Int), L.length = L.length, ((rowAt P j).getD t (0 : Int)).toNat < (zeroP M (List.take t (rowAt P j))).length, (0 : Int) ≤ (rowAt P j).getD t (0 : Int) ∧ (rowAt P j).getD t (0 : Int) < (↑L.length : Int), (0 : Int) ≤ (↑t : Int) ∧ (↑t : Int) < (↑(rowAt P j).length : Int), Dec (decide ((↑t : Int) < (↑(rowAt P j).length : Int))) true], by kernel_rfl, ⟨?_, ?_, ?_, ?_, ?_, ?_, ?_, ?_, ?_, ?_, ?_, ?_, ?_, ?_, ?_, d1⟩, MuG.out ?_, InG.out ?_⟩⟩)
           (fun d1 => ⟨[false], .inr ⟨[P.length = P.length ∧ (fun i => [rI IntKind.i64 (P.getD i [])]) = fun i => [rI IntKind.i64 (P.getD i [])], (↑P.length : Int) = (↑P.length : Int), (↑j : Int) = (↑j : Int), (rowAt P j).length = (rowAt P j).length ∧ (fun j_1 => [RV.int IntKind.i64 ((rowAt P j).getD j_1 (0 : Int))]) = fun j_1 => [RV.int IntKind.i64 ((rowAt P j).getD j_1 (0 : Int))], (2 : Int) = (2 : Int), L.length = L.length ∧ (rws L) = (rws L), zeroP M (List.take t (rowAt P j)) = zeroP M (rowAt P j), (2 : Int) = (2 : Int), L.length = L.length, Dec (decide ((↑t : Int) < (↑(rowAt P j).length : Int))) false], by kernel_rfl, ⟨?_, ?_, ?_, ?_, ?_, ?_, ?_, ?_, ?_, d1⟩, rfl⟩⟩)
      all_goals first | (refine MuG.mk ?_; (simp only [decide_eq_true_eq] at *; show (rowAt P j).length - (t + 1) < (rowAt P j).length - t; omega)) | (refine InG.mk ?_; (simp only [decide_eq_true_eq] at *; show t + 1 ≤ _; omega)) | (refine CtG.mk ?_; (simp_all)) | (first | rfl | exact ⟨rfl, rfl⟩ | ((try simp only [ek, Int.toNat_natCast, decide_eq_true_eq, decide_eq_false_iff_not] at *) <;> first | omega | (have h0 := hr.at (t := t) (by omega); omega) | (rw [zeroP_take (by omega)]; rfl) | (rw [List.take_of_length_le (by omega)]; done)))
noncomputable def fuOut (L : List Con) (P : List (List Int)) : Ann := ⟨⟨[(1, .ptr 1000 0), (2, .ptr 1001 0), (4, .ptr 1012 0), (17, (roR .i64 P).av), (18, .vint .i64 P.length), (19, .int .i64 0)], fuH L L, 1020⟩, none, fun _ =>
  (.exit 0, ⟨[(2, .ptr 1001 0), (4, .ptr 1012 0)], fuH L (fuseG L L P), 1020⟩)⟩
set_option maxRecDepth 100000 in
theorem fu_out (L : List Con) (P : List (List Int)) (hP : ∀ l ∈ P, l ≠ [] ∧ inR L.length l ∧ l.length ≤ L.length) (hn : P.length ≤ 1000) (hL : okL L) : AnnOk Tryz.prog EV.ng (Nat.max 1 Tryz.f20.ntmps) (bodyAt Tryz.f20 [0, 1, 0, 1, 1, 1]) (fuOut L P) := by
  refine ann_ofI evOk (callF_ok evOk (orcOf_ok entsF_ok) 8) (by kernel_rfl) (by kernel_rfl) (fun i : Nat => (fun (j : Nat) => (⟨[(1, .ptr 1000 0), (2, .ptr 1001 0), (4, .ptr 1012 0), (17, (roR .i64 P).av), (18, .vint .i64 P.length), (19, .vint .i64 (j : Int))], fuH L (fuseG L L (P.take j)), 1020⟩ : St)) i) (fun i : Nat => (fun (j : Nat) => (P.length - j : Nat)) i) (fun (d : Bool) (i : Nat) => (fun (j : Nat) => (j ≤ P.length : Prop)) i) (fun i : Nat => (fun (j : Nat) => ([([0, 1, 0, 1, 0, 0, 1, 1, 0, 0, 1, 0, 1, 1, 1], fuIn L (fuseG L L (P.take j)) P j)] : List (List Nat × Ann))) i) ?_ ?_ ?_
  · rintro d hd j hI
    have hl := hL.1
    rcases Nat.lt_or_ge j P.length with h | h
    · have h1 := hP _ (rowAt_mem h)
      exact one_ann (fu_in L _ P j (by omega) h1.2.1 fuseG_len hl)
    · have e : rowAt P j = [] := by simp [rowAt, h]
      exact one_ann (fu_in L _ P j (by rw [e]; simp) (by rw [e]; exact fun x hx => by simp at hx) fuseG_len hl)
  · intro d hd
    exact ⟨(0), [P.length = P.length ∧ (fun i => [rI IntKind.i64 (P.getD i [])]) = fun i => [rI IntKind.i64 (P.getD i [])], (↑P.length : Int) = (↑P.length : Int), (0 : Int) = (↑(0 : Nat) : Int), (2 : Int) = (2 : Int), L.length = L.length ∧ (rws L) = (rws L), L = fuseG L L (List.take (0 : Nat) P), (2 : Int) = (2 : Int), L.length = L.length], by kernel_rfl, (by refine ⟨?_, ?_, ?_, ?_, ?_, ?_, ?_, (?_ : L.length = L.length)⟩ <;> (first | rfl | assumption | omega | simp_all)), (by exact Nat.zero_le _)⟩
  · rintro d hd j hI
    cases d
    · -- d = false
      exact Bool.noConfusion (show false = true from hd)
    · -- d = true
      have ek : IntKind.i64.wrap ((j : Int) + 1) = ((j + 1 : Nat) : Int) := by rw [w64 (by omega) (by omega)]; omega
      have hz : (zeroP (fuseG L L (P.take j)) (rowAt P j)).length = L.length := by rw [zeroP_len, fuseG_len]
      have hl := hL.1
      refine Or.elim (Bool.eq_false_or_eq_true (decide ((↑j : Int) < (↑P.length : Int)))) (fun d1 => ⟨[true], .inl ⟨(j + 1), [P.length = P.length ∧ (fun i => [rI IntKind.i64 (P.getD i [])]) = fun i => [rI IntKind.i64 (P.getD i [])], (↑P.length : Int) = (↑P.length : Int), IntKind.i64.wrap ((↑j : Int) + (1 : Int)) = (↑(j + (1 : Nat)) : Int), (2 : Int) = (2 : Int), L.length = L.length ∧ (rws L) = (rws L), updT (zeroP (fuseG L L (List.take j P)) (rowAt P j)) ((rowAt P j).getD (Int.toNat (0 : Int)) (0 : Int)).toNat (totM (consR L.length (rws L)) (intsR (rowAt P j).length fun j_1 => [RV.int IntKind.i64 ((rowAt P j).getD j_1 (0 : Int))])) = fuseG L L (List.take (j + (1 : Nat)) P), (2 : Int) = (2 : Int), L.length = L.length, ((rowAt P j).getD (Int.toNat (0 : Int)) (0 : Int)).toNat < (zeroP (fuseG L L (List.take j P)) (rowAt P j)).length, (0 : Int) ≤ (rowAt P j).getD (Int.toNat (0 : Int)) (0 : Int) ∧ (rowAt P j).getD (Int.toNat (0 : Int)) (0 : Int) < (↑L.length : Int), (rowAt P j).getD (Int.toNat (0 : Int)) (0 : Int) = (rowAt P j).getD (Int.toNat (0 : Int)) (0 : Int), L.length = L.length, (∀ (i : Nat), i < L.length → (rws L) i = (Con.ofR ((rws L) i)).rvs) ∧ (∀ (i : Nat), i < (rowAt P j).length → (fun j_1 => [RV.int IntKind.i64 ((rowAt P j).getD j_1 (0 : Int))]) i = [RV.int IntKind.i64 (intR ((fun j_1 => [RV.int IntKind.i64 ((rowAt P j).getD j_1 (0 : Int))]) i))]) ∧ okL (consR L.length (rws L)) ∧ inR (consR L.length (rws L)).length (intsR (rowAt P j).length fun j_1 => [RV.int IntKind.i64 ((rowAt P j).getD j_1 (0 : Int))]) ∧ (rowAt P j).length ≤ (1000 : Nat), (0 : Int) ≤ (0 : Int) ∧ (0 : Int) < (↑(rowAt P j).length : Int), P.length = P.length ∧ (fun i => [rI IntKind.i64 (P.getD i [])]) = fun i => [rI IntKind.i64 (P.getD i [])], (↑P.length : Int) = (↑P.length : Int), (↑j : Int) = (↑j : Int), (P.getD j []).length = (rowAt P j).length ∧ (fun j_1 => [RV.int IntKind.i64 ((P.getD j []).getD j_1 (0 : Int))]) = fun j_1 => [RV.int IntKind.i64 ((rowAt P j).getD j_1 (0 : Int))], (P.getD j []).length = (rowAt P j).length ∧ (fun j_1 => [RV.int IntKind.i64 ((P.getD j []).getD j_1 (0 : Int))]) = fun j_1 => [RV.int IntKind.i64 ((rowAt P j).getD j_1 (0 : Int))], (↑(P.getD j []).length : Int) = (↑(rowAt P j).length : Int), (2 : Int) = (2 : Int), L.length = L.length ∧ (rws L) = (rws L), fuseG L L (List.take j P) = fuseG L L (List.take j P), (2 : Int) = (2 : Int), L.length = L.length, (0 : Int) ≤ (↑j : Int) ∧ (↑j : Int) < (↑P.length : Int), Dec (decide ((↑j : Int) < (↑P.length : Int))) true], by kernel_rfl, ⟨?_, ?_, ?_, ?_, ?_, ?_, ?_, ?_, ?_, ?_, ?_, ?_, ?_, ?_, ?_, ?_, ?_, ?_, ?_, ?_, ?_, ?_, ?_, ?_, ?_, ?_, d1⟩, MuG.out ?_, InG.out ?_⟩⟩)
           (fun d1 => ⟨[false], .inr ⟨[(2 : Int) = (2 : Int), L.length = L.length ∧ (rws L) = (rws L), fuseG L L (List.take j P) = fuseG L L P, (2 : Int) = (2 : Int), L.length = L.length, Dec (decide ((↑j : Int) < (↑P.length : Int))) false], by kernel_rfl, ⟨?_, ?_, ?_, ?_, ?_, d1⟩, rfl⟩⟩)
      all_goals first | (refine MuG.mk ?_; (simp only [decide_eq_true_eq] at *; show P.length - (j + 1) < P.length - j; omega)) | (refine InG.mk ?_; (simp only [decide_eq_true_eq] at *; show j + 1 ≤ _; omega)) | (refine CtG.mk ?_; (simp_all)) | (first | rfl | exact ⟨rfl, rfl⟩ | ((try simp only [ek, consR_ro, intsR_ro, Int.toNat_natCast, Int.toNat_zero, decide_eq_true_eq, decide_eq_false_iff_not] at *) <;> first | rfl | trivial | omega | (have h0 := hP _ (rowAt_mem (t := j) (by omega)); have h1 : 0 < (rowAt P j).length := List.length_pos_iff.2 h0.1; first | omega | exact ⟨fun _ _ => rfl, fun _ _ => rfl, hL, h0.2.1, by omega⟩ | (have h2 := h0.2.1.at (t := 0) h1; omega)) | (rw [fuseG_take (by omega)]; rfl) | (rw [List.take_of_length_le (by omega)]; done)))
set_option maxRecDepth 100000 in
theorem fuse_yes (L : List Con) (hL : okL L) (hv : val2M 2 L = true) (hne : 0 < L.length) : PureC Tryz.prog [] 20 [.agg [.int .i64 2, roC L]] (.tup [.agg [.int .i64 2, roC (fuseM L)], .bool true]) := by
  have hl := hL.1
  have rr := fun (tp : List Bool) (ms : List Prop) h hm => pure_run evOk (callF_ok evOk (orcOf_ok entsF_ok) 8) Tryz.func20 (A := [.agg [.int .i64 2, roC L]]) (N := Nat.max 1 Tryz.f20.ntmps) rfl (one_ann (fu_out L (partsM L) parts_rows (Nat.le_trans parts_len hL.1) hL)) rfl rfl evNg (tabs := []) (R := .tup [.agg [.int .i64 2, roC (fuseM L)], .bool true]) (tp := tp) (ms := ms) h hm
  refine Or.elim (Bool.eq_false_or_eq_true (val2M (2 : Int) (consR L.length fun i => (L.getD i Con.zero).rvs))) (fun d1 => Or.elim (Bool.eq_false_or_eq_true (L.length.beq (0 : Nat))) (fun d2 => GnG.no ?_)
           (fun d2 => rr [false, false] [(2 : Int) = (2 : Int), L.length = (fuseM L).length ∧ L.length = (fuseG L L (partsM L)).length ∧ ∀ (i : Nat), i < L.length → (fun i => ((fuseM L).getD i Con.zero).rvs) i = ((fuseG L L (partsM L)).getD i Con.zero).rvs, true = true, (partsM (consR L.length (rws L))).length = (partsM L).length ∧ (fun i => [rI IntKind.i64 ((partsM (consR L.length (rws L))).getD i [])]) = fun i => [rI IntKind.i64 ((partsM L).getD i [])], (↑(partsM (consR L.length (rws L))).length : Int) = (↑(partsM L).length : Int), (2 : Int) = (2 : Int), L.length = L.length ∧ (rws L) = (rws L), (consR L.length (rws L)) = L, (2 : Int) = (2 : Int), L.length = L.length, (∀ (i : Nat), i < L.length → (rws L) i = (Con.ofR ((rws L) i)).rvs) ∧ okE (consR L.length (rws L)), (2 : Int) = (2 : Int), (0 : Nat) < L.length ∧ L.length ≤ (1000000 : Nat), ∀ (i : Nat), i < L.length → (rws L) i = (Con.ofR ((rws L) i)).rvs, Dec (L.length.beq (0 : Nat)) false, Dec (!val2M (2 : Int) (consR L.length (rws L))) false, (∀ (i : Nat), i < L.length → (rws L) i = (Con.ofR ((rws L) i)).rvs) ∧ L.length ≤ (1000 : Nat)] (by kernel_rfl) ⟨?_, ?_, ?_, ?_, ?_, ?_, ?_, ?_, ?_, ?_, ?_, ?_, ?_, ?_, d2, (dN d1), (?_ : (∀ (i : Nat), i < L.length → (rws L) i = (Con.ofR ((rws L) i)).rvs) ∧ L.length ≤ (1000 : Nat))⟩))
           (fun d1 => CtG.no ?_)
  all_goals first | (refine CtG.mk ?_; (simp only [consR_ro] at d1; rw [hv] at d1; cases d1)) | (refine GnG.mk ?_; (have := Nat.eq_of_beq_eq_true d2; omega)) | (first | rfl | exact ⟨rfl, rfl⟩ | exact ⟨fuseM_len.symm, fuseM_len.symm, fun _ _ => rfl⟩ | exact consR_ro L | (rw [consR_ro]; first | done | rfl | exact ⟨rfl, rfl⟩) | exact ⟨hne, by omega⟩ | exact fun _ _ => rfl | exact ⟨fun _ _ => rfl, by rw [consR_ro]; exact hL.e⟩ | exact ⟨fun _ _ => rfl, hl⟩)
end Go.Proofs.YtcfdaddablojlaaGreatDoor.S

namespace Go.Proofs.YtcfdaddablojlaaGreatDoor.S
open Go.QfSy Go.RowKit
theorem ord_listM {most : Int} (hm : most ≤ 8) {two : Bool} : ∀ {X : List Prt} {e n : Int}, (∀ p ∈ X, p.ok) → -1 ≤ e → 0 ≤ n → n ≤ most → e + 3 * (most - n) ≤ 60 → ordL (listM most two X e n) e n = true
  | [], e, n, _, _, _, _, _ => rfl
  | p :: X, e, n, hX, h1, h2, h3, h4 => by
    simp only [listM]
    split
    · rfl
    · have hp := hX p (by simp)
      have hd := dimM_b hp (r := most - n) (by omega)
      have he := expM_b (p := p) e
      have hs := signM_b hp
      simp only [ordL, Bool.and_eq_true]
      refine ⟨?_, ?_⟩
      · unfold okO
        rw [decide_eq_true_eq]
        show 0 ≤ expM p e ∧ expM p e ≤ 60 ∧ e < expM p e ∧ (signM p = 1 ∨ signM p = -1) ∧ 1 ≤ dimM p (most - n) ∧ dimM p (most - n) ≤ 8 - n
        omega
      · show ordL (listM most two X (expM p e) (n + dimM p (most - n))) (expM p e) (n + dimM p (most - n)) = true
        exact ord_listM hm (fun x hx => hX x (by simp [hx])) (by omega) (by omega) (by omega) (by omega)
theorem zero_ok : Prt.zero.ok := by refine ⟨?_, ?_, ?_, ?_, ?_⟩ <;> (unfold U8 Prt.zero; decide)
theorem ord_listV {most : Int} (h1 : 1 ≤ most) (hm : most ≤ 8) {two : Bool} {X : List Prt} (hX : ∀ p ∈ X, p.ok) : orderV (listV most two X) = true := by
  unfold listV
  cases he : (listF most two X).isEmpty with
  | false =>
    simp only [cond_false]
    unfold orderV
    rw [Bool.and_eq_true]
    refine ⟨ord_listM hm hX (by decide) (by decide) (by omega) (by omega), ?_⟩
    have := listF_pos hX he
    simp; omega
  | true =>
    simp only [cond_true]
    have hd := dimM_b zero_ok (r := 1) (by decide)
    have hs := signM_b zero_ok
    unfold orderV
    have e1 : (conM Prt.zero 0 1 two).exp = 0 := rfl
    have e2 : (conM Prt.zero 0 1 two).dim = dimM Prt.zero 1 := rfl
    have e3 : (conM Prt.zero 0 1 two).sign = signM Prt.zero := rfl
    rw [Bool.and_eq_true, decide_eq_true_eq]
    simp only [ordL, okO, dimS, Bool.and_true, decide_eq_true_eq, e1, e2, e3]
    omega
theorem oddF_mod (d s k : Int) (hk : 0 ≤ k) : oddityF_v d s k = oddityF_v d s (k % 8) := by
  have h : (k % 8).tmod 8 = k.tmod 8 := by
    rw [Int.tmod_eq_emod_of_nonneg hk, Int.tmod_eq_emod_of_nonneg (by omega)]; omega
  unfold oddityF_v
  rw [h]
set_option maxRecDepth 100000 in
theorem oddF_tab : ∀ d ∈ ([1, 2, 3] : List Int), ∀ s ∈ ([1, -1] : List Int), ∀ t ∈ ([0, 1, 2, 3, 4, 5, 6, 7] : List Int), legalB ⟨0, d, s, true, oddityF_v d s t⟩ = true := by
  decide +kernel
theorem legal_con {p : Prt} {e r : Int} (hp : p.ok) (hr : 1 ≤ r) (h0 : 0 ≤ e) (h1 : e ≤ 60) : legalB (conM p e r true) = true := by
  have hd := dimM_b hp hr
  have hs := signM_b hp
  have hx := hp.2.2.2.2
  unfold legalB
  rw [decide_eq_true_eq]
  cases ho : oddM p r true with
  | false =>
    have h2 : dimM p r % 2 = 0 := by
      unfold oddM at ho
      simp only [cond_true] at ho
      cases hb : (dimM p r % 2 == 1) with
      | true => rw [hb] at ho; cases ho
      | false => have := beq_eq_false_iff_ne.1 hb; omega
    have e1 : conM p e r true = ⟨e, dimM p r, signM p, false, 0⟩ := by unfold conM; rw [ho]; rfl
    rw [e1]
    exact ⟨⟨h0, h1⟩, ⟨hd.1, by show dimM p r ≤ 8; omega⟩, hs, ⟨(by decide : (0 : Int) ≤ 0), (by decide : (0 : Int) ≤ 7)⟩, fun _ => ⟨h2, rfl⟩, fun h => by cases h⟩
  | true =>
    have e1 : conM p e r true = ⟨e, dimM p r, signM p, true, oddityF_v (dimM p r) (signM p) p.x4⟩ := by unfold conM; rw [ho]; rfl
    rw [e1, oddF_mod _ _ _ hx.1]
    have h3 : dimM p r ∈ ([1, 2, 3] : List Int) := by simp; omega
    have h4 : signM p ∈ ([1, -1] : List Int) := by simp; exact hs
    have h5 : p.x4 % 8 ∈ ([0, 1, 2, 3, 4, 5, 6, 7] : List Int) := by simp; omega
    have := oddF_tab _ h3 _ h4 _ h5
    unfold legalB at this
    rw [decide_eq_true_eq] at this
    exact ⟨⟨h0, h1⟩, this.2⟩
theorem legal_listM {most : Int} (hm : most ≤ 8) : ∀ {X : List Prt} {e n : Int}, (∀ p ∈ X, p.ok) → -1 ≤ e → 0 ≤ n → n ≤ most → e + 3 * (most - n) ≤ 60 → (listM most true X e n).all legalB = true
  | [], e, n, _, _, _, _, _ => rfl
  | p :: X, e, n, hX, h1, h2, h3, h4 => by
    simp only [listM]
    split
    · rfl
    · have hp := hX p (by simp)
      have hd := dimM_b hp (r := most - n) (by omega)
      have he := expM_b (p := p) e
      simp only [List.all_cons, Bool.and_eq_true]
      exact ⟨legal_con hp (by omega) (by omega) (by omega), legal_listM hm (fun x hx => hX x (by simp [hx])) (by omega) (by omega) (by omega) (by omega)⟩
theorem legal_listV {most : Int} (h1 : 1 ≤ most) (hm : most ≤ 8) {X : List Prt} (hX : ∀ p ∈ X, p.ok) : (listV most true X).all legalB = true := by
  unfold listV
  cases he : (listF most true X).isEmpty with
  | false => exact legal_listM hm hX (by decide) (by decide) (by omega) (by omega)
  | true => simp only [cond_true, List.all_cons, List.all_nil, Bool.and_true]; exact legal_con zero_ok (by decide) (by decide) (by decide)
theorem val2_listV {most : Int} (h1 : 1 ≤ most) (hm : most ≤ 8) {X : List Prt} (hX : ∀ p ∈ X, p.ok) : val2M 2 (listV most true X) = true := by
  unfold val2M
  rw [ord_listV h1 hm hX, legal_listV h1 hm hX]; rfl
theorem ordL_len : ∀ {L : List Con} {l s : Int}, s ≤ 8 → ordL L l s = true → (L.length : Int) + s ≤ 8
  | [], l, s, h, _ => by simp; omega
  | c :: L, l, s, h, ho => by
    simp only [ordL, okO, Bool.and_eq_true, decide_eq_true_eq] at ho
    have := ordL_len (L := L) (by omega) ho.2
    simp only [List.length_cons]
    omega
theorem orderV_parts {L : List Con} (h : orderV L = true) : ordL L (-1) 0 = true ∧ 0 < L.length ∧ L.length ≤ 8 := by
  unfold orderV at h
  rw [Bool.and_eq_true, decide_eq_true_eq] at h
  refine ⟨h.1, ?_, ?_⟩
  · cases L with
    | nil => simp [dimS] at h
    | cons c l => simp
  · have := ordL_len (by decide) h.1; omega
theorem val2_ok {L : List Con} (h : val2M 2 L = true) : okL L ∧ (∀ c ∈ L, fits c) ∧ 0 < L.length ∧ L.length ≤ 8 := by
  unfold val2M at h
  simp only [Bool.and_eq_true] at h
  obtain ⟨_, h1, h2⟩ := h
  obtain ⟨h3, h4, h5⟩ := orderV_parts h1
  have key : ∀ c ∈ L, legalP c := fun c hc => of_decide_eq_true (List.all_eq_true.1 h2 c hc)
  refine ⟨⟨by omega, fun c hc => ?_⟩, fun c hc => ?_, h4, h5⟩
  · obtain ⟨a, b, d, e, _⟩ := key c hc
    exact ⟨⟨a.1, by omega⟩, ⟨b.1, by omega⟩, d, e⟩
  · obtain ⟨a, b, d, e, _⟩ := key c hc
    unfold fits I64
    omega
end Go.Proofs.YtcfdaddablojlaaGreatDoor.S

namespace Go.Proofs.YtcfdaddablojlaaGreatDoor.S
open Go.QfSy Go.RowKit
def shO (c : Con) (last s : Int) : Bool := decide (last < c.exp ∧ c.exp ≤ 60 ∧ 1 ≤ c.dim ∧ c.dim ≤ 8 - s)
def shL : List Con → Int → Int → Bool
  | [], _, _ => true
  | c :: l, last, s => shO c last s && shL l c.exp (s + c.dim)
def shapeM (p : Int) (L : List Con) : Bool := (p == 2) && (!L.isEmpty && shL L (-1) 0)
def sgB (c : Con) : Bool := decide (c.sign = 1 ∨ c.sign = -1)
theorem ord_sh : ∀ {L : List Con} {l s : Int}, -1 ≤ l → ordL L l s = (shL L l s && L.all sgB)
  | [], _, _, _ => rfl
  | c :: L, l, s, h => by
    rw [Bool.eq_iff_iff]
    simp only [ordL, shL, okO, shO, sgB, List.all_cons, Bool.and_eq_true, decide_eq_true_eq]
    constructor
    · rintro ⟨h1, h2⟩
      rw [ord_sh (by omega), Bool.and_eq_true] at h2
      exact ⟨⟨⟨h1.2.2.1, h1.2.1, h1.2.2.2.2.1, h1.2.2.2.2.2⟩, h2.1⟩, h1.2.2.2.1, h2.2⟩
    · rintro ⟨⟨h1, h2⟩, h3, h4⟩
      refine ⟨⟨by omega, h1.2.1, h1.1, h3, h1.2.2.1, h1.2.2.2⟩, ?_⟩
      rw [ord_sh (by omega), Bool.and_eq_true]
      exact ⟨h2, h4⟩
theorem sh_pos : ∀ {L : List Con} {l s : Int}, shL L l s = true → 0 ≤ dimS L ∧ (L ≠ [] → 0 < dimS L)
  | [], _, _, _ => by simp [dimS]
  | c :: L, l, s, h => by
    simp only [shL, shO, Bool.and_eq_true, decide_eq_true_eq] at h
    have := sh_pos h.2
    simp only [dimS]
    exact ⟨by omega, fun _ => by omega⟩
theorem order_sh (L : List Con) : orderV L = (!L.isEmpty && shL L (-1) 0 && L.all sgB) := by
  unfold orderV
  rw [ord_sh (by decide)]
  cases hs : shL L (-1) 0 with
  | false => simp
  | true =>
    have hp := sh_pos hs
    cases L with
    | nil => simp [dimS]
    | cons c l =>
      have := hp.2 (by simp)
      simp [this]
theorem val2_sh (p : Int) (L : List Con) : val2M p L = (shapeM p L && L.all legalB) := by
  unfold val2M shapeM
  rw [order_sh]
  have hl : L.all legalB = true → L.all sgB = true := by
    intro h
    rw [List.all_eq_true] at h ⊢
    intro c hc
    have := of_decide_eq_true (h c hc)
    exact decide_eq_true this.2.2.1
  cases h1 : L.all legalB with
  | false => simp
  | true => rw [hl h1]; simp
def fusC (c : Con) : Bool := decide (0 ≤ c.oddity ∧ c.oddity ≤ 7) && (c.odd || (decide (c.dim % 2 = 0) && decide (c.oddity = 0)))
def fusI (L : List Con) (i : Nat) : Bool := fusC (at_ L i) && !(oddB L i && (!((partM L i).getD 0 0 == (i : Int)) && !((at_ L i).oddity == 0)))
def dimR (L : List Con) : List Int → Int
  | [] => 0
  | i :: l => (at_ L i.toNat).dim + dimR L l
def parR (L : List Con) (l : List Int) : Bool := decide (((at_ L (l.getD 0 0).toNat).oddity - dimR L l) % 2 = 0)
def zerR (L : List Con) (l : List Int) : Bool := l.tail.all fun i => (at_ L i.toNat).oddity == 0
def fusM (p : Int) (L : List Con) : Bool := (p == 2) && (orderV L && ((List.range L.length).all (fusI L) && (partsM L).all (parR L)))
def fusT (p : Int) (L : List Con) : Bool := shapeM p L && (L.all (fun c => sgB c && fusC c) && (partsM L).all (fun l => zerR L l && parR L l))
theorem tail_ivN {s n : Nat} : (ivN s (n + 1)).tail = ivN (s + 1) n := rfl
theorem fus_rows {L : List Con} : (∀ i, i < L.length → oddB L i = true → (partM L i).getD 0 0 ≠ (i : Int) → (at_ L i).oddity = 0) ↔ (∀ l ∈ partsM L, zerR L l = true) := by
  constructor
  · intro h l hl
    obtain ⟨s, n, e, hs, hr⟩ := part_row hl
    have hin := (parts_rows l hl).2.1
    unfold zerR
    rw [List.all_eq_true]
    intro x hx
    rw [e, tail_ivN, mem_ivN] at hx
    have hx2 : x ∈ l := by rw [e, mem_ivN]; omega
    have hlt := hin x hx2
    obtain ⟨h1, h2⟩ := hr (x.toNat - s) (by omega)
    rw [show s + (x.toNat - s) = x.toNat by omega] at h1 h2
    have h3 := h x.toNat (by omega) h1 (fun e2 => by rw [part_first (by omega) h1, h2 (by omega)] at e2; cases e2)
    rw [h3]; rfl
  · intro h i hi ho hne
    obtain ⟨s, n, t, e, h1, h2, h3, h4⟩ := part_iv hi ho
    have hz := h _ (partM_odd hi ho).1
    unfold zerR at hz
    rw [List.all_eq_true] at hz
    have ht : 0 < t := by
      rcases Nat.eq_zero_or_pos t with h0 | h0
      · subst h0
        rw [Nat.add_zero] at h1
        exact absurd ((part_first hi ho).2 (by rw [h1]; exact h3)) hne
      · exact h0
    have := hz (i : Int) (by rw [e, tail_ivN, mem_ivN]; omega)
    simpa using this
theorem all_at {L : List Con} (q : Con → Bool) : L.all q = true ↔ ∀ i, i < L.length → q (at_ L i) = true := by
  rw [List.all_eq_true]
  constructor
  · intro h i hi
    have : at_ L i = L[i] := by simp [at_, hi]
    rw [this]; exact h _ (List.getElem_mem hi)
  · intro h c hc
    obtain ⟨i, hi, rfl⟩ := List.getElem_of_mem hc
    have : at_ L i = L[i] := by simp [at_, hi]
    rw [← this]; exact h i hi
theorem fus_eq (p : Int) (L : List Con) : fusT p L = fusM p L := by
  rw [Bool.eq_iff_iff]
  unfold fusT fusM shapeM
  rw [order_sh]
  simp only [Bool.and_eq_true, List.all_eq_true (l := partsM L), List.all_eq_true (l := List.range L.length), List.mem_range, all_at]
  have key : (∀ i, i < L.length → fusI L i = true) ↔ (∀ i, i < L.length → fusC (at_ L i) = true) ∧ (∀ l ∈ partsM L, zerR L l = true) := by
    rw [← fus_rows]
    constructor
    · intro h
      refine ⟨fun i hi => ?_, fun i hi ho hne => ?_⟩
      · have := h i hi
        unfold fusI at this
        rw [Bool.and_eq_true] at this
        exact this.1
      · have := h i hi
        unfold fusI at this
        simp only [ho, Bool.and_eq_true, Bool.true_and, Bool.not_eq_true', Bool.and_eq_false_iff, Bool.not_eq_false', beq_iff_eq] at this
        rcases this.2 with h1 | h1
        · exact absurd h1 hne
        · exact h1
    · rintro ⟨h1, h2⟩ i hi
      unfold fusI
      rw [Bool.and_eq_true]
      refine ⟨h1 i hi, ?_⟩
      cases ho : oddB L i with
      | false => rfl
      | true =>
        by_cases hf : (partM L i).getD 0 0 = (i : Int)
        · rw [beq_iff_eq.2 hf]; rfl
        · rw [beq_iff_eq.2 (h2 i hi ho hf)]; simp only [Bool.not_true, Bool.and_false, Bool.not_false]
  constructor
  · rintro ⟨⟨h1, h2, h3⟩, h4, h5⟩
    exact ⟨h1, ⟨⟨h2, h3⟩, fun i hi => (h4 i hi).1⟩, key.2 ⟨fun i hi => (h4 i hi).2, fun l hl => (h5 l hl).1⟩, fun l hl => (h5 l hl).2⟩
  · rintro ⟨h1, ⟨⟨h2, h3⟩, h4⟩, h5, h6⟩
    have := key.1 h5
    exact ⟨⟨h1, h2, h3⟩, fun i hi => ⟨h4 i hi, this.1 i hi⟩, fun l hl => ⟨this.2 l hl, h6 l hl⟩⟩
end Go.Proofs.YtcfdaddablojlaaGreatDoor.S

namespace Go.Proofs.YtcfdaddablojlaaGreatDoor.S
open Go.QfSy Go.RowKit
theorem sh_at : ∀ {L : List Con} {l s : Int}, -1 ≤ l → 0 ≤ s → shL L l s = true → (∀ c ∈ L, 0 ≤ c.exp ∧ c.exp ≤ 60 ∧ 1 ≤ c.dim ∧ c.dim ≤ 8) ∧ (dimS L ≤ 8 - s ∨ L = []) ∧ (L.length : Int) ≤ dimS L
  | [], _, _, _, _, _ => ⟨fun c hc => by simp at hc, .inr rfl, by simp [dimS]⟩
  | c :: L, l, s, h0, hs, h => by
    simp only [shL, shO, Bool.and_eq_true, decide_eq_true_eq] at h
    obtain ⟨h1, h2⟩ := h
    obtain ⟨i1, i2, i3⟩ := sh_at (L := L) (l := c.exp) (s := s + c.dim) (by omega) (by omega) h2
    refine ⟨fun x hx => ?_, .inl ?_, ?_⟩
    · rcases List.mem_cons.1 hx with rfl | hx
      · omega
      · exact i1 x hx
    · simp only [dimS]
      rcases i2 with i2 | i2
      · omega
      · rw [i2]; simp only [dimS]; omega
    · simp only [dimS, List.length_cons]
      omega
structure FusAt (c : Con) : Prop where
  exp : 0 ≤ c.exp ∧ c.exp ≤ 60
  dim : 1 ≤ c.dim ∧ c.dim ≤ 8
  sign : c.sign = 1 ∨ c.sign = -1
  odt : 0 ≤ c.oddity ∧ c.oddity ≤ 7
  even : c.odd = false → c.dim % 2 = 0 ∧ c.oddity = 0
theorem fus_parts {L : List Con} (h : fusM 2 L = true) : shL L (-1) 0 = true ∧ 0 < L.length ∧ L.length ≤ 8 ∧ dimS L ≤ 8 ∧ ∀ k, k < L.length → FusAt (at_ L k) := by
  rw [← fus_eq] at h
  simp only [fusT, shapeM, Bool.and_eq_true] at h
  obtain ⟨⟨_, h1, h2⟩, h3, _⟩ := h
  obtain ⟨i1, i2, i3⟩ := sh_at (by decide) (by decide) h2
  have hne : L ≠ [] := by intro e; rw [e] at h1; cases h1
  have hd : dimS L ≤ 8 := by rcases i2 with i2 | i2; omega; exact absurd i2 hne
  refine ⟨h2, List.length_pos_iff.2 hne, by omega, hd, fun k hk => ?_⟩
  have e : at_ L k = L[k] := by simp [at_, hk]
  have h4 := i1 _ (List.getElem_mem hk)
  have h5 := (all_at _).1 h3 k hk
  rw [← e] at h4
  simp only [Bool.and_eq_true, sgB, fusC, decide_eq_true_eq, Bool.or_eq_true] at h5
  exact ⟨⟨h4.1, h4.2.1⟩, h4.2.2, h5.1, h5.2.1, fun ho => by rcases h5.2.2 with h | h; rw [ho] at h; cases h; exact h⟩
theorem fus_okL {L : List Con} (h : fusM 2 L = true) : okL L := by
  obtain ⟨_, _, h1, _, h2⟩ := fus_parts h
  refine ⟨by omega, fun c hc => ?_⟩
  obtain ⟨k, hk, rfl⟩ := List.getElem_of_mem hc
  have := h2 k hk
  rw [show at_ L k = L[k] by simp [at_, hk]] at this
  exact ⟨⟨this.exp.1, by have := this.exp.2; omega⟩, ⟨this.dim.1, by have := this.dim.2; omega⟩, this.sign, this.odt⟩
end Go.Proofs.YtcfdaddablojlaaGreatDoor.S

namespace Go.Proofs.YtcfdaddablojlaaGreatDoor.S
open Go.QfSy Go.RowKit
theorem sh_drop {L : List Con} {k : Nat} (hk : k < L.length) (l s : Int) : shL (L.drop k) l s = (shO (at_ L k) l s && shL (L.drop (k + 1)) (at_ L k).exp (s + (at_ L k).dim)) := by
  rw [drop_at hk]; rfl
noncomputable def shAnn (L : List Con) : Ann := ⟨⟨[(3, .int .i64 0), (4, .int .i64 (-1)), (17, (roC L).av), (18, .vint .i64 L.length), (19, .int .i64 0)], [], 1001⟩, some (shL L (-1) 0), fun d => match d with
  | true => (.exit 0, ⟨[], [], 1001⟩)
  | false => (.ret, ⟨[(2, .bool false)], [], 1001⟩)⟩
set_option maxRecDepth 100000 in
theorem sh_loop (L : List Con) (hn : L.length ≤ 1000) : AnnOk Tryz.prog EV.ng (Nat.max 1 Tryz.f60.ntmps) (bodyAt Tryz.f60 [0, 1, 0, 1, 1, 1]) (shAnn L) := by
  refine ann_of evOk (callF_ok evOk (noOrc_ok _ _) 8) none_ann (by kernel_rfl) (by kernel_rfl) (fun i : Nat × Int × Int => (fun (k : Nat) (s e : Int) => (⟨[(3, .vint .i64 s), (4, .vint .i64 e), (17, (roC L).av), (18, .vint .i64 L.length), (19, .vint .i64 (k : Int))], [], 1001⟩ : St)) i.1 i.2.1 i.2.2) (fun i : Nat × Int × Int => (fun (k : Nat) (s e : Int) => (L.length - k : Nat)) i.1 i.2.1 i.2.2) (fun (d : Bool) (i : Nat × Int × Int) => (fun (k : Nat) (s e : Int) => (k ≤ L.length ∧ (0 ≤ s ∧ s ≤ 8) ∧ shL (L.drop k) e s = d : Prop)) i.1 i.2.1 i.2.2) ?_ ?_
  · intro d hd
    exact ⟨(0, 0, -1), [(0 : Int) = (0 : Int), (-1 : Int) = (-1 : Int), L.length = L.length ∧ (rws L) = (rws L), (↑L.length : Int) = (↑L.length : Int), (0 : Int) = (↑(0 : Nat) : Int)], by kernel_rfl, (by refine ⟨?_, ?_, ?_, ?_, (?_ : (0 : Int) = (↑(0 : Nat) : Int))⟩ <;> (first | rfl | assumption | omega | simp_all)), (by exact ⟨Nat.zero_le _, by decide, hd⟩)⟩
  · rintro d hd ⟨k, s, e⟩ hI
    cases d
    · -- d = false
      obtain ⟨hk, hs, hd'⟩ := hI
      have hs : 0 ≤ s ∧ s ≤ 8 := hs
      have hd' : shL (L.drop k) e s = _ := hd'
      have hk : k ≤ L.length := hk
      have ek : IntKind.i64.wrap ((k : Int) + 1) = ((k + 1 : Nat) : Int) := by rw [w64 (by omega) (by omega)]; omega
      have e8 : IntKind.i64.wrap (8 - s) = 8 - s := w64 (by omega) (by omega)
      refine Or.elim (Bool.eq_false_or_eq_true (decide ((↑k : Int) < (↑L.length : Int)))) (fun d1 => Or.elim (Bool.eq_false_or_eq_true (decide ((L.getD k Con.zero).exp ≤ e))) (fun d2 => ⟨[true, true], .inr ⟨[Dec (decide ((L.getD k Con.zero).exp ≤ e)) true, (0 : Int) ≤ (↑k : Int) ∧ (↑k : Int) < (↑L.length : Int), Dec (decide ((↑k : Int) < (↑L.length : Int))) true], by kernel_rfl, ⟨d2, ?_, d1⟩, rfl⟩⟩)
           (fun d2 => Or.elim (Bool.eq_false_or_eq_true (decide ((L.getD k Con.zero).exp > (60 : Int)))) (fun d3 => ⟨[true, false, true], .inr ⟨[Dec (decide ((L.getD k Con.zero).exp > (60 : Int))) true, Dec (decide ((L.getD k Con.zero).exp ≤ e)) false, (0 : Int) ≤ (↑k : Int) ∧ (↑k : Int) < (↑L.length : Int), Dec (decide ((↑k : Int) < (↑L.length : Int))) true], by kernel_rfl, ⟨d3, d2, ?_, d1⟩, rfl⟩⟩)
           (fun d3 => Or.elim (Bool.eq_false_or_eq_true (decide ((L.getD k Con.zero).dim < (1 : Int)))) (fun d4 => ⟨[true, false, false, true], .inr ⟨[Dec (decide ((L.getD k Con.zero).dim < (1 : Int))) true, Dec (decide ((L.getD k Con.zero).exp > (60 : Int))) false, Dec (decide ((L.getD k Con.zero).exp ≤ e)) false, (0 : Int) ≤ (↑k : Int) ∧ (↑k : Int) < (↑L.length : Int), Dec (decide ((↑k : Int) < (↑L.length : Int))) true], by kernel_rfl, ⟨d4, d3, d2, ?_, d1⟩, rfl⟩⟩)
           (fun d4 => Or.elim (Bool.eq_false_or_eq_true (decide ((L.getD k Con.zero).dim > IntKind.i64.wrap ((8 : Int) - s)))) (fun d5 => ⟨[true, false, false, false, true], .inr ⟨[Dec (decide ((L.getD k Con.zero).dim > IntKind.i64.wrap ((8 : Int) - s))) true, Dec (decide ((L.getD k Con.zero).dim < (1 : Int))) false, Dec (decide ((L.getD k Con.zero).exp > (60 : Int))) false, Dec (decide ((L.getD k Con.zero).exp ≤ e)) false, (0 : Int) ≤ (↑k : Int) ∧ (↑k : Int) < (↑L.length : Int), Dec (decide ((↑k : Int) < (↑L.length : Int))) true], by kernel_rfl, ⟨d5, d4, d3, d2, ?_, d1⟩, rfl⟩⟩)
           (fun d5 => ⟨[true, false, false, false, false], .inl ⟨(k + 1, s + (at_ L k).dim, (at_ L k).exp), [IntKind.i64.wrap (s + (L.getD k Con.zero).dim) = s + (at_ L k).dim, (L.getD k Con.zero).exp = (at_ L k).exp, L.length = L.length ∧ (rws L) = (rws L), (↑L.length : Int) = (↑L.length : Int), IntKind.i64.wrap ((↑k : Int) + (1 : Int)) = (↑(k + (1 : Nat)) : Int), Dec (decide ((L.getD k Con.zero).dim > IntKind.i64.wrap ((8 : Int) - s))) false, Dec (decide ((L.getD k Con.zero).dim < (1 : Int))) false, Dec (decide ((L.getD k Con.zero).exp > (60 : Int))) false, Dec (decide ((L.getD k Con.zero).exp ≤ e)) false, (0 : Int) ≤ (↑k : Int) ∧ (↑k : Int) < (↑L.length : Int), Dec (decide ((↑k : Int) < (↑L.length : Int))) true], by kernel_rfl, ⟨?_, ?_, ?_, ?_, ?_, d5, d4, d3, d2, ?_, d1⟩, MuG.out ?_, InG.out ?_⟩⟩)))))
           (fun d1 => CtG.no ?_)
      all_goals first | (refine MuG.mk ?_; (simp only [decide_eq_true_eq] at *; show L.length - (k + 1) < L.length - k; omega)) | (refine InG.mk ?_; (simp only [e8, Int.toNat_natCast, decide_eq_true_eq, decide_eq_false_iff_not, gt_iff_lt] at *; rw [sh_drop (by omega), show shO (at_ L k) e s = true from decide_eq_true ⟨by simp only [at_]; omega, by simp only [at_]; omega, by simp only [at_]; omega, by simp only [at_]; omega⟩] at hd'; exact ⟨by omega, by simp only [at_]; omega, hd'⟩)) | (refine CtG.mk ?_; (simp only [e8, Int.toNat_natCast, decide_eq_true_eq, decide_eq_false_iff_not, gt_iff_lt] at *; first | (rw [List.drop_eq_nil_of_le (by omega)] at hd'; cases hd'; done) | (rw [sh_drop (by omega), show shO (at_ L k) e s = false from decide_eq_false (by simp only [at_]; omega)] at hd'; cases hd'; done))) | (first | (with_reducible rfl) | exact ⟨rfl, rfl⟩ | ((try simp only [ek, e8, at_, Int.toNat_natCast, decide_eq_true_eq, decide_eq_false_iff_not, gt_iff_lt] at *) <;> first | omega | (exact w64 (by omega) (by omega))))
    · -- d = true
      obtain ⟨hk, hs, hd'⟩ := hI
      have hs : 0 ≤ s ∧ s ≤ 8 := hs
      have hd' : shL (L.drop k) e s = _ := hd'
      have hk : k ≤ L.length := hk
      have ek : IntKind.i64.wrap ((k : Int) + 1) = ((k + 1 : Nat) : Int) := by rw [w64 (by omega) (by omega)]; omega
      have e8 : IntKind.i64.wrap (8 - s) = 8 - s := w64 (by omega) (by omega)
      refine Or.elim (Bool.eq_false_or_eq_true (decide ((↑k : Int) < (↑L.length : Int)))) (fun d1 => Or.elim (Bool.eq_false_or_eq_true (decide ((L.getD k Con.zero).exp ≤ e))) (fun d2 => CtG.no ?_)
           (fun d2 => Or.elim (Bool.eq_false_or_eq_true (decide ((L.getD k Con.zero).exp > (60 : Int)))) (fun d3 => CtG.no ?_)
           (fun d3 => Or.elim (Bool.eq_false_or_eq_true (decide ((L.getD k Con.zero).dim < (1 : Int)))) (fun d4 => CtG.no ?_)
           (fun d4 => Or.elim (Bool.eq_false_or_eq_true (decide ((L.getD k Con.zero).dim > IntKind.i64.wrap ((8 : Int) - s)))) (fun d5 => CtG.no ?_)
           (fun d5 => ⟨[true, false, false, false, false], .inl ⟨(k + 1, s + (at_ L k).dim, (at_ L k).exp), [IntKind.i64.wrap (s + (L.getD k Con.zero).dim) = s + (at_ L k).dim, (L.getD k Con.zero).exp = (at_ L k).exp, L.length = L.length ∧ (rws L) = (rws L), (↑L.length : Int) = (↑L.length : Int), IntKind.i64.wrap ((↑k : Int) + (1 : Int)) = (↑(k + (1 : Nat)) : Int), Dec (decide ((L.getD k Con.zero).dim > IntKind.i64.wrap ((8 : Int) - s))) false, Dec (decide ((L.getD k Con.zero).dim < (1 : Int))) false, Dec (decide ((L.getD k Con.zero).exp > (60 : Int))) false, Dec (decide ((L.getD k Con.zero).exp ≤ e)) false, (0 : Int) ≤ (↑k : Int) ∧ (↑k : Int) < (↑L.length : Int), Dec (decide ((↑k : Int) < (↑L.length : Int))) true], by kernel_rfl, ⟨?_, ?_, ?_, ?_, ?_, d5, d4, d3, d2, ?_, d1⟩, MuG.out ?_, InG.out ?_⟩⟩)))))
           (fun d1 => ⟨[false], .inr ⟨[Dec (decide ((↑k : Int) < (↑L.length : Int))) false], by kernel_rfl, d1, rfl⟩⟩)
      all_goals first | (refine MuG.mk ?_; (simp only [decide_eq_true_eq] at *; show L.length - (k + 1) < L.length - k; omega)) | (refine InG.mk ?_; (simp only [e8, Int.toNat_natCast, decide_eq_true_eq, decide_eq_false_iff_not, gt_iff_lt] at *; rw [sh_drop (by omega), show shO (at_ L k) e s = true from decide_eq_true ⟨by simp only [at_]; omega, by simp only [at_]; omega, by simp only [at_]; omega, by simp only [at_]; omega⟩] at hd'; exact ⟨by omega, by simp only [at_]; omega, hd'⟩)) | (refine CtG.mk ?_; (simp only [e8, Int.toNat_natCast, decide_eq_true_eq, decide_eq_false_iff_not, gt_iff_lt] at *; first | (rw [List.drop_eq_nil_of_le (by omega)] at hd'; cases hd'; done) | (rw [sh_drop (by omega), show shO (at_ L k) e s = false from decide_eq_false (by simp only [at_]; omega)] at hd'; cases hd'; done))) | (first | (with_reducible rfl) | exact ⟨rfl, rfl⟩ | ((try simp only [ek, e8, at_, Int.toNat_natCast, decide_eq_true_eq, decide_eq_false_iff_not, gt_iff_lt] at *) <;> first | omega | (exact w64 (by omega) (by omega))))
set_option maxRecDepth 100000 in
theorem sh_pure (p : Int) (L : List Con) (hn : L.length ≤ 1000) : PureC Tryz.prog [] 60 [.agg [.int .i64 p, roC L]] (.bool (shapeM p L)) := by
  have rr := fun (tp : List Bool) (ms : List Prop) h hm => pure_run evOk (callF_ok evOk (noOrc_ok _ _) 8) Tryz.func60 (A := [.agg [.int .i64 p, roC L]]) (N := Nat.max 1 Tryz.f60.ntmps) rfl (one_ann (sh_loop L hn)) rfl rfl evNg (tabs := []) (R := .bool (shapeM p L)) (tp := tp) (ms := ms) h hm
  refine Or.elim (Bool.eq_false_or_eq_true (p == (2 : Int))) (fun d1 => Or.elim (Bool.eq_false_or_eq_true ((↑L.length : Int) == (0 : Int))) (fun d2 => rr [false, true] [false = shapeM p L, Dec ((↑L.length : Int) == (0 : Int)) true, Dec (p != (2 : Int)) false] (by kernel_rfl) ⟨?_, d2, (dN d1)⟩)
           (fun d2 => Or.elim (Bool.eq_false_or_eq_true (shL L (-1 : Int) (0 : Int))) (fun d3 => rr [false, false, true] [true = shapeM p L, L.length = L.length ∧ (rws L) = (rws L), (↑L.length : Int) = (↑L.length : Int), Dec (shL L (-1 : Int) (0 : Int)) true, Dec ((↑L.length : Int) == (0 : Int)) false, Dec (p != (2 : Int)) false] (by kernel_rfl) ⟨?_, ?_, ?_, d3, d2, (dN d1)⟩)
           (fun d3 => rr [false, false, false] [false = shapeM p L, L.length = L.length ∧ (rws L) = (rws L), (↑L.length : Int) = (↑L.length : Int), Dec (shL L (-1 : Int) (0 : Int)) false, Dec ((↑L.length : Int) == (0 : Int)) false, Dec (p != (2 : Int)) false] (by kernel_rfl) ⟨?_, ?_, ?_, d3, d2, (dN d1)⟩)))
           (fun d1 => rr [true] [false = shapeM p L, Dec (p != (2 : Int)) true] (by kernel_rfl) ⟨?_, (dN d1)⟩)
  all_goals first | (refine GnG.mk ?_; (simp_all)) | (first | (with_reducible rfl) | exact ⟨rfl, rfl⟩ | (unfold shapeM; simp_all; done))
theorem legalT_eq (c : Con) : legalT_v c.exp c.dim c.sign c.odd c.oddity = legalB c := legalR_eq c
noncomputable def entsVS : List OEnt := [
  ⟨63, [], fun A => match A with
    | [.agg [.int .i64 e, .int .i64 d, .int .i64 s, .bool o, .int .i64 t]] => some (.bool (legalB ⟨e, d, s, o, t⟩), [])
    | _ => none⟩,
  ⟨60, [], fun A => match A with
    | [.agg [.int .i64 p, .sl n 5 row]] => some (.bool (shapeM p (consR n row)), [(∀ i, i < n → row i = (Con.ofR (row i)).rvs) ∧ n ≤ 1000])
    | _ => none⟩]
theorem entsVS_ok : ∀ e ∈ entsVS, EntOk Tryz.prog e := by
  intro e he
  simp only [entsVS, List.mem_cons, List.not_mem_nil, or_false] at he
  rcases he with rfl | rfl
  all_goals
    intro A R ms h hm
    simp only at h
    split at h
    all_goals first | (cases h; done) | cases h
  · rw [← legalT_eq]; exact legalT _ _ _ _ _
  · obtain ⟨h1, h2⟩ := all_one hm
    exact PureC.imp (sh_pure _ _ (by rw [consR_len]; exact h2)) (.cons (.agg (.cons .same (.cons (.con h1) .nil))) .nil)
noncomputable def vaAnn (L : List Con) : Ann := ⟨⟨[(9, (roC L).av), (10, .vint .i64 L.length), (11, .int .i64 0)], [], 1001⟩, some (L.all legalB), fun d => match d with
  | true => (.exit 0, ⟨[], [], 1001⟩)
  | false => (.ret, ⟨[(2, .bool false)], [], 1001⟩)⟩
set_option maxRecDepth 100000 in
theorem va_loop (L : List Con) (hn : L.length ≤ 1000) : AnnOk Tryz.prog EV.ng (Nat.max 1 Tryz.f38.ntmps) (bodyAt Tryz.f38 [0, 1, 0, 1, 1]) (vaAnn L) := by
  refine ann_of evOk (callF_ok evOk (orcOf_ok entsVS_ok) 8) none_ann (by kernel_rfl) (by kernel_rfl) (fun i : Nat => (fun (k : Nat) => (⟨[(9, (roC L).av), (10, .vint .i64 L.length), (11, .vint .i64 (k : Int))], [], 1001⟩ : St)) i) (fun i : Nat => (fun (k : Nat) => (L.length - k : Nat)) i) (fun (d : Bool) (i : Nat) => (fun (k : Nat) => (k ≤ L.length ∧ (L.drop k).all legalB = d : Prop)) i) ?_ ?_
  · intro d hd
    exact ⟨(0), [L.length = L.length ∧ (rws L) = (rws L), (↑L.length : Int) = (↑L.length : Int), (0 : Int) = (↑(0 : Nat) : Int)], by kernel_rfl, (by refine ⟨?_, ?_, (?_ : (0 : Int) = (↑(0 : Nat) : Int))⟩ <;> (first | rfl | assumption | omega | simp_all)), (by exact ⟨Nat.zero_le _, hd⟩)⟩
  · rintro d hd k hI
    cases d
    · -- d = false
      obtain ⟨hk, hs⟩ := hI
      have ek : IntKind.i64.wrap ((k : Int) + 1) = ((k + 1 : Nat) : Int) := by rw [w64 (by omega) (by omega)]; omega
      refine Or.elim (Bool.eq_false_or_eq_true (decide ((↑k : Int) < (↑L.length : Int)))) (fun d1 => Or.elim (Bool.eq_false_or_eq_true (legalB (L.getD k Con.zero))) (fun d2 => ⟨[true, false], .inl ⟨(k + 1), [L.length = L.length ∧ (rws L) = (rws L), (↑L.length : Int) = (↑L.length : Int), IntKind.i64.wrap ((↑k : Int) + (1 : Int)) = (↑(k + (1 : Nat)) : Int), Dec (!legalB (L.getD k Con.zero)) false, (0 : Int) ≤ (↑k : Int) ∧ (↑k : Int) < (↑L.length : Int), Dec (decide ((↑k : Int) < (↑L.length : Int))) true], by kernel_rfl, ⟨?_, ?_, ?_, (dN d2), ?_, d1⟩, MuG.out ?_, InG.out ?_⟩⟩)
           (fun d2 => ⟨[true, true], .inr ⟨[Dec (!legalB (L.getD k Con.zero)) true, (0 : Int) ≤ (↑k : Int) ∧ (↑k : Int) < (↑L.length : Int), Dec (decide ((↑k : Int) < (↑L.length : Int))) true], by kernel_rfl, ⟨(dN d2), ?_, d1⟩, rfl⟩⟩))
           (fun d1 => CtG.no ?_)
      all_goals first | (refine MuG.mk ?_; (simp only [decide_eq_true_eq] at *; show L.length - (k + 1) < L.length - k; omega)) | (refine InG.mk ?_; (simp only [decide_eq_true_eq] at *; rw [all_drop (by omega)] at hs; rw [show legalB (at_ L k) = true from d2] at hs; exact ⟨by omega, hs⟩)) | (refine CtG.mk ?_; (simp only [decide_eq_true_eq, decide_eq_false_iff_not] at *; first | (rw [List.drop_eq_nil_of_le (by omega)] at hs; cases hs; done) | (rw [all_drop (by omega)] at hs; rw [show legalB (at_ L k) = false from d2] at hs; cases hs; done))) | (first | rfl | exact ⟨rfl, rfl⟩ | ((try simp only [ek, Int.toNat_natCast, decide_eq_true_eq, decide_eq_false_iff_not] at *) <;> omega))
    · -- d = true
      obtain ⟨hk, hs⟩ := hI
      have ek : IntKind.i64.wrap ((k : Int) + 1) = ((k + 1 : Nat) : Int) := by rw [w64 (by omega) (by omega)]; omega
      refine Or.elim (Bool.eq_false_or_eq_true (decide ((↑k : Int) < (↑L.length : Int)))) (fun d1 => Or.elim (Bool.eq_false_or_eq_true (legalB (L.getD k Con.zero))) (fun d2 => ⟨[true, false], .inl ⟨(k + 1), [L.length = L.length ∧ (rws L) = (rws L), (↑L.length : Int) = (↑L.length : Int), IntKind.i64.wrap ((↑k : Int) + (1 : Int)) = (↑(k + (1 : Nat)) : Int), Dec (!legalB (L.getD k Con.zero)) false, (0 : Int) ≤ (↑k : Int) ∧ (↑k : Int) < (↑L.length : Int), Dec (decide ((↑k : Int) < (↑L.length : Int))) true], by kernel_rfl, ⟨?_, ?_, ?_, (dN d2), ?_, d1⟩, MuG.out ?_, InG.out ?_⟩⟩)
           (fun d2 => CtG.no ?_))
           (fun d1 => ⟨[false], .inr ⟨[Dec (decide ((↑k : Int) < (↑L.length : Int))) false], by kernel_rfl, d1, rfl⟩⟩)
      all_goals first | (refine MuG.mk ?_; (simp only [decide_eq_true_eq] at *; show L.length - (k + 1) < L.length - k; omega)) | (refine InG.mk ?_; (simp only [decide_eq_true_eq] at *; rw [all_drop (by omega)] at hs; rw [show legalB (at_ L k) = true from d2] at hs; exact ⟨by omega, hs⟩)) | (refine CtG.mk ?_; (simp only [decide_eq_true_eq, decide_eq_false_iff_not] at *; first | (rw [List.drop_eq_nil_of_le (by omega)] at hs; cases hs; done) | (rw [all_drop (by omega)] at hs; rw [show legalB (at_ L k) = false from d2] at hs; cases hs; done))) | (first | rfl | exact ⟨rfl, rfl⟩ | ((try simp only [ek, Int.toNat_natCast, decide_eq_true_eq, decide_eq_false_iff_not] at *) <;> omega))
set_option maxRecDepth 100000 in
theorem tvalid_pure (p : Int) (L : List Con) (hn : L.length ≤ 1000) : PureC Tryz.prog [] 38 [.agg [.int .i64 p, roC L]] (.bool (val2M p L)) := by
  have rr := fun (tp : List Bool) (ms : List Prop) h hm => pure_run evOk (callF_ok evOk (orcOf_ok entsVS_ok) 8) Tryz.func38 (A := [.agg [.int .i64 p, roC L]]) (N := Nat.max 1 Tryz.f38.ntmps) rfl (one_ann (va_loop L hn)) rfl rfl evNg (tabs := []) (R := .bool (val2M p L)) (tp := tp) (ms := ms) h hm
  refine Or.elim (Bool.eq_false_or_eq_true (shapeM p (consR L.length (rws L)))) (fun d1 => Or.elim (Bool.eq_false_or_eq_true (L.all legalB)) (fun d2 => rr [false, true] [true = val2M p L, L.length = L.length ∧ (rws L) = (rws L), (↑L.length : Int) = (↑L.length : Int), Dec (L.all legalB) true, Dec (!shapeM p (consR L.length (rws L))) false, (∀ (i : Nat), i < L.length → (rws L) i = (Con.ofR ((rws L) i)).rvs) ∧ L.length ≤ (1000 : Nat)] (by kernel_rfl) ⟨?_, ?_, ?_, d2, (dN d1), (?_ : (∀ (i : Nat), i < L.length → (rws L) i = (Con.ofR ((rws L) i)).rvs) ∧ L.length ≤ (1000 : Nat))⟩)
           (fun d2 => rr [false, false] [false = val2M p L, L.length = L.length ∧ (rws L) = (rws L), (↑L.length : Int) = (↑L.length : Int), Dec (L.all legalB) false, Dec (!shapeM p (consR L.length (rws L))) false, (∀ (i : Nat), i < L.length → (rws L) i = (Con.ofR ((rws L) i)).rvs) ∧ L.length ≤ (1000 : Nat)] (by kernel_rfl) ⟨?_, ?_, ?_, d2, (dN d1), (?_ : (∀ (i : Nat), i < L.length → (rws L) i = (Con.ofR ((rws L) i)).rvs) ∧ L.length ≤ (1000 : Nat))⟩))
           (fun d1 => rr [true] [false = val2M p L, Dec (!shapeM p (consR L.length (rws L))) true, (∀ (i : Nat), i < L.length → (rws L) i = (Con.ofR ((rws L) i)).rvs) ∧ L.length ≤ (1000 : Nat)] (by kernel_rfl) ⟨?_, (dN d1), (?_ : (∀ (i : Nat), i < L.length → (rws L) i = (Con.ofR ((rws L) i)).rvs) ∧ L.length ≤ (1000 : Nat))⟩)
  all_goals first | (first | (with_reducible rfl) | exact ⟨rfl, rfl⟩ | exact ⟨fun _ _ => rfl, hn⟩ | ((try simp only [consR_ro] at *) <;> first | trivial | (rw [val2_sh]; simp_all; done)))
def fusB (c : Con) : Bool := sgB c && fusC c
noncomputable def loH (p : Int) (L : List Con) : List (Nat × Blk) := [(1000, ⟨.plain [.vint .i64 p, (roC L).av], 24, 0, false, true⟩)]
noncomputable def f1Ann (p : Int) (L : List Con) : Ann := ⟨⟨[(1, .ptr 1000 0), (14, (roC L).av), (15, .vint .i64 L.length), (16, .int .i64 0)], loH p L, 1010⟩, some (L.all fusB), fun d => match d with
  | true => (.exit 0, ⟨[(1, .ptr 1000 0)], loH p L, 1010⟩)
  | false => (.ret, ⟨[(2, .bool false)], [], 1010⟩)⟩
theorem fusB_iff {c : Con} : fusB c = true ↔ (c.sign = 1 ∨ c.sign = -1) ∧ (0 ≤ c.oddity ∧ c.oddity ≤ 7) ∧ (c.odd = false → c.dim.tmod 2 = 0 ∧ c.oddity = 0) := by
  simp only [fusB, sgB, fusC, Bool.and_eq_true, decide_eq_true_eq, Bool.or_eq_true, tmod2]
  cases c.odd <;> simp
theorem fusB_no {c : Con} (h : ¬ ((c.sign = 1 ∨ c.sign = -1) ∧ (0 ≤ c.oddity ∧ c.oddity ≤ 7) ∧ (c.odd = false → c.dim.tmod 2 = 0 ∧ c.oddity = 0))) : fusB c = false := by
  cases hf : fusB c with
  | false => rfl
  | true => exact absurd (fusB_iff.1 hf) h
set_option maxRecDepth 100000 in
theorem f1_loop (p : Int) (L : List Con) (hn : L.length ≤ 1000) : AnnOk Tryz.prog EV.ng (Nat.max 1 Tryz.f35.ntmps) (bodyAt Tryz.f35 [0, 1, 0, 1, 1]) (f1Ann p L) := by
  refine ann_of evOk (callF_ok evOk (noOrc_ok _ _) 8) none_ann (by kernel_rfl) (by kernel_rfl) (fun i : Nat => (fun (k : Nat) => (⟨[(1, .ptr 1000 0), (14, (roC L).av), (15, .vint .i64 L.length), (16, .vint .i64 (k : Int))], loH p L, 1010⟩ : St)) i) (fun i : Nat => (fun (k : Nat) => (L.length - k : Nat)) i) (fun (d : Bool) (i : Nat) => (fun (k : Nat) => (k ≤ L.length ∧ (L.drop k).all fusB = d : Prop)) i) ?_ ?_
  · intro d hd
    exact ⟨(0), [L.length = L.length ∧ (rws L) = (rws L), (↑L.length : Int) = (↑L.length : Int), (0 : Int) = (↑(0 : Nat) : Int), p = p, L.length = L.length ∧ (rws L) = (rws L)], by kernel_rfl, (by refine ⟨?_, ?_, ?_, ?_, (?_ : L.length = L.length ∧ (rws L) = (rws L))⟩ <;> (first | rfl | assumption | omega | simp_all)), (by exact ⟨Nat.zero_le _, hd⟩)⟩
  · rintro d hd k hI
    cases d
    · -- d = false
      obtain ⟨hk, hs⟩ := hI
      have ek : IntKind.i64.wrap ((k : Int) + 1) = ((k + 1 : Nat) : Int) := by rw [w64 (by omega) (by omega)]; omega
      refine Or.elim (Bool.eq_false_or_eq_true (decide ((↑k : Int) < (↑L.length : Int)))) (fun d1 => Or.elim (Bool.eq_false_or_eq_true ((L.getD k Con.zero).sign == (1 : Int))) (fun d2 => Or.elim (Bool.eq_false_or_eq_true (decide ((L.getD k Con.zero).oddity < (0 : Int)))) (fun d3 => ⟨[true, false, true], .inr ⟨[Dec (decide ((L.getD k Con.zero).oddity < (0 : Int))) true, Dec ((L.getD k Con.zero).sign != (1 : Int)) false, (0 : Int) ≤ (↑k : Int) ∧ (↑k : Int) < (↑L.length : Int), Dec (decide ((↑k : Int) < (↑L.length : Int))) true], by kernel_rfl, ⟨d3, (dN d2), ?_, d1⟩, rfl⟩⟩)
           (fun d3 => Or.elim (Bool.eq_false_or_eq_true (decide ((L.getD k Con.zero).oddity > (7 : Int)))) (fun d4 => ⟨[true, false, false, true], .inr ⟨[Dec (decide ((L.getD k Con.zero).oddity > (7 : Int))) true, Dec (decide ((L.getD k Con.zero).oddity < (0 : Int))) false, Dec ((L.getD k Con.zero).sign != (1 : Int)) false, (0 : Int) ≤ (↑k : Int) ∧ (↑k : Int) < (↑L.length : Int), Dec (decide ((↑k : Int) < (↑L.length : Int))) true], by kernel_rfl, ⟨d4, d3, (dN d2), ?_, d1⟩, rfl⟩⟩)
           (fun d4 => Or.elim (Bool.eq_false_or_eq_true ((L.getD k Con.zero).odd)) (fun d5 => ⟨[true, false, false, false, false], .inl ⟨(k + 1), [L.length = L.length ∧ (rws L) = (rws L), (↑L.length : Int) = (↑L.length : Int), IntKind.i64.wrap ((↑k : Int) + (1 : Int)) = (↑(k + (1 : Nat)) : Int), p = p, L.length = L.length ∧ (rws L) = (rws L), Dec (!(L.getD k Con.zero).odd) false, Dec (decide ((L.getD k Con.zero).oddity > (7 : Int))) false, Dec (decide ((L.getD k Con.zero).oddity < (0 : Int))) false, Dec ((L.getD k Con.zero).sign != (1 : Int)) false, (0 : Int) ≤ (↑k : Int) ∧ (↑k : Int) < (↑L.length : Int), Dec (decide ((↑k : Int) < (↑L.length : Int))) true], by kernel_rfl, ⟨?_, ?_, ?_, ?_, ?_, (dN d5), d4, d3, (dN d2), ?_, d1⟩, MuG.out ?_, InG.out ?_⟩⟩)
           (fun d5 => Or.elim (Bool.eq_false_or_eq_true ((L.getD k Con.zero).dim.tmod (2 : Int) == (0 : Int))) (fun d6 => Or.elim (Bool.eq_false_or_eq_true ((L.getD k Con.zero).oddity == (0 : Int))) (fun d7 => ⟨[true, false, false, false, true, false, false], .inl ⟨(k + 1), [L.length = L.length ∧ (rws L) = (rws L), (↑L.length : Int) = (↑L.length : Int), IntKind.i64.wrap ((↑k : Int) + (1 : Int)) = (↑(k + (1 : Nat)) : Int), p = p, L.length = L.length ∧ (rws L) = (rws L), Dec ((L.getD k Con.zero).oddity != (0 : Int)) false, Dec ((L.getD k Con.zero).dim.tmod (2 : Int) != (0 : Int)) false, (2 : Int) ≠ (0 : Int), Dec (!(L.getD k Con.zero).odd) true, Dec (decide ((L.getD k Con.zero).oddity > (7 : Int))) false, Dec (decide ((L.getD k Con.zero).oddity < (0 : Int))) false, Dec ((L.getD k Con.zero).sign != (1 : Int)) false, (0 : Int) ≤ (↑k : Int) ∧ (↑k : Int) < (↑L.length : Int), Dec (decide ((↑k : Int) < (↑L.length : Int))) true], by kernel_rfl, ⟨?_, ?_, ?_, ?_, ?_, (dN d7), (dN d6), ?_, (dN d5), d4, d3, (dN d2), ?_, d1⟩, MuG.out ?_, InG.out ?_⟩⟩)
           (fun d7 => ⟨[true, false, false, false, true, false, true], .inr ⟨[Dec ((L.getD k Con.zero).oddity != (0 : Int)) true, Dec ((L.getD k Con.zero).dim.tmod (2 : Int) != (0 : Int)) false, (2 : Int) ≠ (0 : Int), Dec (!(L.getD k Con.zero).odd) true, Dec (decide ((L.getD k Con.zero).oddity > (7 : Int))) false, Dec (decide ((L.getD k Con.zero).oddity < (0 : Int))) false, Dec ((L.getD k Con.zero).sign != (1 : Int)) false, (0 : Int) ≤ (↑k : Int) ∧ (↑k : Int) < (↑L.length : Int), Dec (decide ((↑k : Int) < (↑L.length : Int))) true], by kernel_rfl, ⟨(dN d7), (dN d6), ?_, (dN d5), d4, d3, (dN d2), ?_, d1⟩, rfl⟩⟩))
           (fun d6 => ⟨[true, false, false, false, true, true], .inr ⟨[Dec ((L.getD k Con.zero).dim.tmod (2 : Int) != (0 : Int)) true, (2 : Int) ≠ (0 : Int), Dec (!(L.getD k Con.zero).odd) true, Dec (decide ((L.getD k Con.zero).oddity > (7 : Int))) false, Dec (decide ((L.getD k Con.zero).oddity < (0 : Int))) false, Dec ((L.getD k Con.zero).sign != (1 : Int)) false, (0 : Int) ≤ (↑k : Int) ∧ (↑k : Int) < (↑L.length : Int), Dec (decide ((↑k : Int) < (↑L.length : Int))) true], by kernel_rfl, ⟨(dN d6), ?_, (dN d5), d4, d3, (dN d2), ?_, d1⟩, rfl⟩⟩)))))
           (fun d2 => Or.elim (Bool.eq_false_or_eq_true ((L.getD k Con.zero).sign == (-1 : Int))) (fun d3 => Or.elim (Bool.eq_false_or_eq_true (decide ((L.getD k Con.zero).oddity < (0 : Int)))) (fun d4 => ⟨[true, true, false, true], .inr ⟨[Dec (decide ((L.getD k Con.zero).oddity < (0 : Int))) true, Dec ((L.getD k Con.zero).sign != (-1 : Int)) false, Dec ((L.getD k Con.zero).sign != (1 : Int)) true, (0 : Int) ≤ (↑k : Int) ∧ (↑k : Int) < (↑L.length : Int), Dec (decide ((↑k : Int) < (↑L.length : Int))) true], by kernel_rfl, ⟨d4, (dN d3), (dN d2), ?_, d1⟩, rfl⟩⟩)
           (fun d4 => Or.elim (Bool.eq_false_or_eq_true (decide ((L.getD k Con.zero).oddity > (7 : Int)))) (fun d5 => ⟨[true, true, false, false, true], .inr ⟨[Dec (decide ((L.getD k Con.zero).oddity > (7 : Int))) true, Dec (decide ((L.getD k Con.zero).oddity < (0 : Int))) false, Dec ((L.getD k Con.zero).sign != (-1 : Int)) false, Dec ((L.getD k Con.zero).sign != (1 : Int)) true, (0 : Int) ≤ (↑k : Int) ∧ (↑k : Int) < (↑L.length : Int), Dec (decide ((↑k : Int) < (↑L.length : Int))) true], by kernel_rfl, ⟨d5, d4, (dN d3), (dN d2), ?_, d1⟩, rfl⟩⟩)
           (fun d5 => Or.elim (Bool.eq_false_or_eq_true ((L.getD k Con.zero).odd)) (fun d6 => ⟨[true, true, false, false, false, false], .inl ⟨(k + 1), [L.length = L.length ∧ (rws L) = (rws L), (↑L.length : Int) = (↑L.length : Int), IntKind.i64.wrap ((↑k : Int) + (1 : Int)) = (↑(k + (1 : Nat)) : Int), p = p, L.length = L.length ∧ (rws L) = (rws L), Dec (!(L.getD k Con.zero).odd) false, Dec (decide ((L.getD k Con.zero).oddity > (7 : Int))) false, Dec (decide ((L.getD k Con.zero).oddity < (0 : Int))) false, Dec ((L.getD k Con.zero).sign != (-1 : Int)) false, Dec ((L.getD k Con.zero).sign != (1 : Int)) true, (0 : Int) ≤ (↑k : Int) ∧ (↑k : Int) < (↑L.length : Int), Dec (decide ((↑k : Int) < (↑L.length : Int))) true], by kernel_rfl, ⟨?_, ?_, ?_, ?_, ?_, (dN d6), d5, d4, (dN d3), (dN d2), ?_, d1⟩, MuG.out ?_, InG.out ?_⟩⟩)
           (fun d6 => Or.elim (Bool.eq_false_or_eq_true ((L.getD k Con.zero).dim.tmod (2 : Int) == (0 : Int))) (fun d7 => Or.elim (Bool.eq_false_or_eq_true ((L.getD k Con.zero).oddity == (0 : Int))) (fun d8 => ⟨[true, true, false, false, false, true, false, false], .inl ⟨(k + 1), [L.length = L.length ∧ (rws L) = (rws L), (↑L.length : Int) = (↑L.length : Int), IntKind.i64.wrap ((↑k : Int) + (1 : Int)) = (↑(k + (1 : Nat)) : Int), p = p, L.length = L.length ∧ (rws L) = (rws L), Dec ((L.getD k Con.zero).oddity != (0 : Int)) false, Dec ((L.getD k Con.zero).dim.tmod (2 : Int) != (0 : Int)) false, (2 : Int) ≠ (0 : Int), Dec (!(L.getD k Con.zero).odd) true, Dec (decide ((L.getD k Con.zero).oddity > (7 : Int))) false, Dec (decide ((L.getD k Con.zero).oddity < (0 : Int))) false, Dec ((L.getD k Con.zero).sign != (-1 : Int)) false, Dec ((L.getD k Con.zero).sign != (1 : Int)) true, (0 : Int) ≤ (↑k : Int) ∧ (↑k : Int) < (↑L.length : Int), Dec (decide ((↑k : Int) < (↑L.length : Int))) true], by kernel_rfl, ⟨?_, ?_, ?_, ?_, ?_, (dN d8), (dN d7), ?_, (dN d6), d5, d4, (dN d3), (dN d2), ?_, d1⟩, MuG.out ?_, InG.out ?_⟩⟩)
           (fun d8 => ⟨[true, true, false, false, false, true, false, true], .inr ⟨[Dec ((L.getD k Con.zero).oddity != (0 : Int)) true, Dec ((L.getD k Con.zero).dim.tmod (2 : Int) != (0 : Int)) false, (2 : Int) ≠ (0 : Int), Dec (!(L.getD k Con.zero).odd) true, Dec (decide ((L.getD k Con.zero).oddity > (7 : Int))) false, Dec (decide ((L.getD k Con.zero).oddity < (0 : Int))) false, Dec ((L.getD k Con.zero).sign != (-1 : Int)) false, Dec ((L.getD k Con.zero).sign != (1 : Int)) true, (0 : Int) ≤ (↑k : Int) ∧ (↑k : Int) < (↑L.length : Int), Dec (decide ((↑k : Int) < (↑L.length : Int))) true], by kernel_rfl, ⟨(dN d8), (dN d7), ?_, (dN d6), d5, d4, (dN d3), (dN d2), ?_, d1⟩, rfl⟩⟩))
           (fun d7 => ⟨[true, true, false, false, false, true, true], .inr ⟨[Dec ((L.getD k Con.zero).dim.tmod (2 : Int) != (0 : Int)) true, (2 : Int) ≠ (0 : Int), Dec (!(L.getD k Con.zero).odd) true, Dec (decide ((L.getD k Con.zero).oddity > (7 : Int))) false, Dec (decide ((L.getD k Con.zero).oddity < (0 : Int))) false, Dec ((L.getD k Con.zero).sign != (-1 : Int)) false, Dec ((L.getD k Con.zero).sign != (1 : Int)) true, (0 : Int) ≤ (↑k : Int) ∧ (↑k : Int) < (↑L.length : Int), Dec (decide ((↑k : Int) < (↑L.length : Int))) true], by kernel_rfl, ⟨(dN d7), ?_, (dN d6), d5, d4, (dN d3), (dN d2), ?_, d1⟩, rfl⟩⟩)))))
           (fun d3 => ⟨[true, true, true], .inr ⟨[Dec ((L.getD k Con.zero).sign != (-1 : Int)) true, Dec ((L.getD k Con.zero).sign != (1 : Int)) true, (0 : Int) ≤ (↑k : Int) ∧ (↑k : Int) < (↑L.length : Int), Dec (decide ((↑k : Int) < (↑L.length : Int))) true], by kernel_rfl, ⟨(dN d3), (dN d2), ?_, d1⟩, rfl⟩⟩)))
           (fun d1 => CtG.no ?_)
      all_goals first | (refine MuG.mk ?_; (simp only [decide_eq_true_eq] at *; show L.length - (k + 1) < L.length - k; omega)) | (refine InG.mk ?_; (simp only [decide_eq_true_eq, decide_eq_false_iff_not, Int.toNat_natCast, beq_iff_eq, beq_eq_false_iff_ne, ne_eq, gt_iff_lt] at *; rw [all_drop (by omega)] at hs; rw [show fusB (at_ L k) = true from fusB_iff.2 (by simp only [at_]; refine ⟨?_, ?_, ?_⟩ <;> first | omega | (intro ho; simp_all; done) | (simp_all; done))] at hs; exact ⟨by omega, hs⟩)) | (refine CtG.mk ?_; (simp only [decide_eq_true_eq, decide_eq_false_iff_not, Int.toNat_natCast, beq_iff_eq, beq_eq_false_iff_ne, ne_eq, gt_iff_lt] at *; first | (rw [List.drop_eq_nil_of_le (by omega)] at hs; cases hs; done) | (rw [all_drop (by omega)] at hs; rw [show fusB (at_ L k) = false from fusB_no (by simp only [at_]; first | (intro hq; omega) | (rintro ⟨q1, q2, q3⟩; have q4 := q3 (by assumption); first | omega | (simp_all; done)))] at hs; cases hs; done))) | (first | (with_reducible rfl) | exact ⟨rfl, rfl⟩ | decide | ((try simp only [ek, Int.toNat_natCast, decide_eq_true_eq, decide_eq_false_iff_not] at *) <;> omega))
    · -- d = true
      obtain ⟨hk, hs⟩ := hI
      have ek : IntKind.i64.wrap ((k : Int) + 1) = ((k + 1 : Nat) : Int) := by rw [w64 (by omega) (by omega)]; omega
      refine Or.elim (Bool.eq_false_or_eq_true (decide ((↑k : Int) < (↑L.length : Int)))) (fun d1 => Or.elim (Bool.eq_false_or_eq_true ((L.getD k Con.zero).sign == (1 : Int))) (fun d2 => Or.elim (Bool.eq_false_or_eq_true (decide ((L.getD k Con.zero).oddity < (0 : Int)))) (fun d3 => CtG.no ?_)
           (fun d3 => Or.elim (Bool.eq_false_or_eq_true (decide ((L.getD k Con.zero).oddity > (7 : Int)))) (fun d4 => CtG.no ?_)
           (fun d4 => Or.elim (Bool.eq_false_or_eq_true ((L.getD k Con.zero).odd)) (fun d5 => ⟨[true, false, false, false, false], .inl ⟨(k + 1), [L.length = L.length ∧ (rws L) = (rws L), (↑L.length : Int) = (↑L.length : Int), IntKind.i64.wrap ((↑k : Int) + (1 : Int)) = (↑(k + (1 : Nat)) : Int), p = p, L.length = L.length ∧ (rws L) = (rws L), Dec (!(L.getD k Con.zero).odd) false, Dec (decide ((L.getD k Con.zero).oddity > (7 : Int))) false, Dec (decide ((L.getD k Con.zero).oddity < (0 : Int))) false, Dec ((L.getD k Con.zero).sign != (1 : Int)) false, (0 : Int) ≤ (↑k : Int) ∧ (↑k : Int) < (↑L.length : Int), Dec (decide ((↑k : Int) < (↑L.length : Int))) true], by kernel_rfl, ⟨?_, ?_, ?_, ?_, ?_, (dN d5), d4, d3, (dN d2), ?_, d1⟩, MuG.out ?_, InG.out ?_⟩⟩)
           (fun d5 => Or.elim (Bool.eq_false_or_eq_true ((L.getD k Con.zero).dim.tmod (2 : Int) == (0 : Int))) (fun d6 => Or.elim (Bool.eq_false_or_eq_true ((L.getD k Con.zero).oddity == (0 : Int))) (fun d7 => ⟨[true, false, false, false, true, false, false], .inl ⟨(k + 1), [L.length = L.length ∧ (rws L) = (rws L), (↑L.length : Int) = (↑L.length : Int), IntKind.i64.wrap ((↑k : Int) + (1 : Int)) = (↑(k + (1 : Nat)) : Int), p = p, L.length = L.length ∧ (rws L) = (rws L), Dec ((L.getD k Con.zero).oddity != (0 : Int)) false, Dec ((L.getD k Con.zero).dim.tmod (2 : Int) != (0 : Int)) false, (2 : Int) ≠ (0 : Int), Dec (!(L.getD k Con.zero).odd) true, Dec (decide ((L.getD k Con.zero).oddity > (7 : Int))) false, Dec (decide ((L.getD k Con.zero).oddity < (0 : Int))) false, Dec ((L.getD k Con.zero).sign != (1 : Int)) false, (0 : Int) ≤ (↑k : Int) ∧ (↑k : Int) < (↑L.length : Int), Dec (decide ((↑k : Int) < (↑L.length : Int))) true], by kernel_rfl, ⟨?_, ?_, ?_, ?_, ?_, (dN d7), (dN d6), ?_, (dN d5), d4, d3, (dN d2), ?_, d1⟩, MuG.out ?_, InG.out ?_⟩⟩)
           (fun d7 => CtG.no ?_))
           (fun d6 => CtG.no ?_)))))
           (fun d2 => Or.elim (Bool.eq_false_or_eq_true ((L.getD k Con.zero).sign == (-1 : Int))) (fun d3 => Or.elim (Bool.eq_false_or_eq_true (decide ((L.getD k Con.zero).oddity < (0 : Int)))) (fun d4 => CtG.no ?_)
           (fun d4 => Or.elim (Bool.eq_false_or_eq_true (decide ((L.getD k Con.zero).oddity > (7 : Int)))) (fun d5 => CtG.no ?_)
           (fun d5 => Or.elim (Bool.eq_false_or_eq_true ((L.getD k Con.zero).odd)) (fun d6 => ⟨[true, true, false, false, false, false], .inl ⟨(k + 1), [L.length = L.length ∧ (rws L) = (rws L), (↑L.length : Int) = (↑L.length : Int), IntKind.i64.wrap ((↑k : Int) + (1 : Int)) = (↑(k + (1 : Nat)) : Int), p = p, L.length = L.length ∧ (rws L) = (rws L), Dec (!(L.getD k Con.zero).odd) false, Dec (decide ((L.getD k Con.zero).oddity > (7 : Int))) false, Dec (decide ((L.getD k Con.zero).oddity < (0 : Int))) false, Dec ((L.getD k Con.zero).sign != (-1 : Int)) false, Dec ((L.getD k Con.zero).sign != (1 : Int)) true, (0 : Int) ≤ (↑k : Int) ∧ (↑k : Int) < (↑L.length : Int), Dec (decide ((↑k : Int) < (↑L.length : Int))) true], by kernel_rfl, ⟨?_, ?_, ?_, ?_, ?_, (dN d6), d5, d4, (dN d3), (dN d2), ?_, d1⟩, MuG.out ?_, InG.out ?_⟩⟩)
           (fun d6 => Or.elim (Bool.eq_false_or_eq_true ((L.getD k Con.zero).dim.tmod (2 : Int) == (0 : Int))) (fun d7 => Or.elim (Bool.eq_false_or_eq_true ((L.getD k Con.zero).oddity == (0 : Int))) (fun d8 => ⟨[true, true, false, false, false, true, false, false], .inl ⟨(k + 1), [L.length = L.length ∧ (rws L) = (rws L), (↑L.length : Int) = (↑L.length : Int), IntKind.i64.wrap ((↑k : Int) + (1 : Int)) = (↑(k + (1 : Nat)) : Int), p = p, L.length = L.length ∧ (rws L) = (rws L), Dec ((L.getD k Con.zero).oddity != (0 : Int)) false, Dec ((L.getD k Con.zero).dim.tmod (2 : Int) != (0 : Int)) false, (2 : Int) ≠ (0 : Int), Dec (!(L.getD k Con.zero).odd) true, Dec (decide ((L.getD k Con.zero).oddity > (7 : Int))) false, Dec (decide ((L.getD k Con.zero).oddity < (0 : Int))) false, Dec ((L.getD k Con.zero).sign != (-1 : Int)) false, Dec ((L.getD k Con.zero).sign != (1 : Int)) true, (0 : Int) ≤ (↑k : Int) ∧ (↑k : Int) < (↑L.length : Int), Dec (decide ((↑k : Int) < (↑L.length : Int))) true], by kernel_rfl, ⟨?_, ?_, ?_, ?_, ?_, (dN d8), (dN d7), ?_, (dN d6), d5, d4, (dN d3), (dN d2), ?_, d1⟩, MuG.out ?_, InG.out ?_⟩⟩)
           (fun d8 => CtG.no ?_))
           (fun d7 => CtG.no ?_)))))
           (fun d3 => CtG.no ?_)))
           (fun d1 => ⟨[false], .inr ⟨[p = p, L.length = L.length ∧ (fun i => (L.getD i Con.zero).rvs) = fun i => (L.getD i Con.zero).rvs, Dec (decide ((↑k : Int) < (↑L.length : Int))) false], by kernel_rfl, ⟨?_, ?_, d1⟩, rfl⟩⟩)
      all_goals first | (refine MuG.mk ?_; (simp only [decide_eq_true_eq] at *; show L.length - (k + 1) < L.length - k; omega)) | (refine InG.mk ?_; (simp only [decide_eq_true_eq, decide_eq_false_iff_not, Int.toNat_natCast, beq_iff_eq, beq_eq_false_iff_ne, ne_eq, gt_iff_lt] at *; rw [all_drop (by omega)] at hs; rw [show fusB (at_ L k) = true from fusB_iff.2 (by simp only [at_]; refine ⟨?_, ?_, ?_⟩ <;> first | omega | (intro ho; simp_all; done) | (simp_all; done))] at hs; exact ⟨by omega, hs⟩)) | (refine CtG.mk ?_; (simp only [decide_eq_true_eq, decide_eq_false_iff_not, Int.toNat_natCast, beq_iff_eq, beq_eq_false_iff_ne, ne_eq, gt_iff_lt] at *; first | (rw [List.drop_eq_nil_of_le (by omega)] at hs; cases hs; done) | (rw [all_drop (by omega)] at hs; rw [show fusB (at_ L k) = false from fusB_no (by simp only [at_]; first | (intro hq; omega) | (rintro ⟨q1, q2, q3⟩; have q4 := q3 (by assumption); first | omega | (simp_all; done)))] at hs; cases hs; done))) | (first | (with_reducible rfl) | exact ⟨rfl, rfl⟩ | decide | ((try simp only [ek, Int.toNat_natCast, decide_eq_true_eq, decide_eq_false_iff_not] at *) <;> omega))
theorem dimR_b {L : List Con} (hL : okL L) : ∀ {l : List Int}, inR L.length l → 0 ≤ dimR L l ∧ dimR L l ≤ 1000 * l.length
  | [], _ => by simp [dimR]
  | i :: l, h => by
    have h1 := h i (by simp)
    have h2 := (hL.at (k := i.toNat) (by omega)).2.1
    have ih := dimR_b hL (l := l) (fun x hx => h x (by simp [hx]))
    simp only [dimR, List.length_cons]
    omega
theorem dimR_app (L : List Con) (a b : List Int) : dimR L (a ++ b) = dimR L a + dimR L b := by
  induction a with
  | nil => simp [dimR]
  | cons c a ih => simp only [List.cons_append, dimR, ih]; omega
theorem dimR_take {L : List Con} {l : List Int} {t : Nat} (ht : t < l.length) : dimR L (l.take (t + 1)) = dimR L (l.take t) + (at_ L (l.getD t 0).toNat).dim := by
  rw [take_int ht, dimR_app]; simp [dimR]
theorem dim_b {L : List Con} {l : List Int} {t : Nat} (hL : okL L) (hl : inR L.length l) (ht : t < l.length) : 0 ≤ (at_ L (l.getD t 0).toNat).dim ∧ (at_ L (l.getD t 0).toNat).dim ≤ 1000 := by
  have h1 := hl.at ht
  have := (hL.at (k := (l.getD t 0).toNat) (by omega)).2.1
  omega
def zerD (L : List Con) (l : List Int) (t : Nat) : Bool := (l.drop (Nat.max t 1)).all fun i => (at_ L i.toNat).oddity == 0
theorem zerD_0 {L : List Con} {l : List Int} : zerD L l 0 = zerR L l := by unfold zerD zerR; rw [show Nat.max 0 1 = 1 from rfl, List.drop_one]
theorem zerD_1 {L : List Con} {l : List Int} {t : Nat} (h : ¬ 0 < t) : zerD L l (t + 1) = zerD L l t := by
  have : t = 0 := by omega
  subst this; rfl
theorem zerD_s {L : List Con} {l : List Int} {t : Nat} (h : 0 < t) (ht : t < l.length) : zerD L l t = ((at_ L (l.getD t 0).toNat).oddity == 0 && zerD L l (t + 1)) := by
  unfold zerD
  rw [show Nat.max t 1 = t by simp only [Nat.max_def]; split <;> omega, show Nat.max (t + 1) 1 = t + 1 by simp only [Nat.max_def]; split <;> omega, drop_int ht]; rfl
theorem zerD_e {L : List Con} {l : List Int} {t : Nat} (ht : l.length ≤ t) : zerD L l t = true := by
  unfold zerD
  rw [List.drop_eq_nil_of_le (by simp only [Nat.max_def]; split <;> omega)]; rfl
noncomputable def f3T (P : List (List Int)) (j : Nat) : List (Nat × AV) := [(1, .ptr 1000 0), (54, (roR .i64 P).av), (55, .vint .i64 P.length), (56, .vint .i64 (j : Int)), (6, (rI .i64 (rowAt P j)).av)]
noncomputable def f3Ann (p : Int) (L : List Con) (P : List (List Int)) (j : Nat) : Ann := ⟨⟨f3T P j ++ [(7, .int .i64 0), (60, (rI .i64 (rowAt P j)).av), (61, .vint .i64 (rowAt P j).length), (62, .int .i64 0)], loH p L, 1010⟩, some (zerR L (rowAt P j)), fun d => match d with
  | true => (.exit 4, ⟨f3T P j ++ [(7, .vint .i64 (dimR L (rowAt P j)))], loH p L, 1010⟩)
  | false => (.ret, ⟨[(2, .bool false)], [], 1010⟩)⟩
set_option maxRecDepth 100000 in
theorem f3_loop (p : Int) (L : List Con) (P : List (List Int)) (j : Nat) (hL : okL L) (hr : inR L.length (rowAt P j)) (hn : (rowAt P j).length ≤ 1000) : AnnOk Tryz.prog EV.ng (Nat.max 1 Tryz.f35.ntmps) (bodyAt Tryz.f35 [0, 1, 0, 1, 1, 0, 0, 1, 1, 0, 0, 1, 0, 1, 1, 1]) (f3Ann p L P j) := by
  refine ann_of evOk (callF_ok evOk (noOrc_ok _ _) 8) none_ann (by kernel_rfl) (by kernel_rfl) (fun i : Nat × Int => (fun (t : Nat) (n : Int) => (⟨f3T P j ++ [(7, .vint .i64 n), (60, (rI .i64 (rowAt P j)).av), (61, .vint .i64 (rowAt P j).length), (62, .vint .i64 (t : Int))], loH p L, 1010⟩ : St)) i.1 i.2) (fun i : Nat × Int => (fun (t : Nat) (n : Int) => ((rowAt P j).length - t : Nat)) i.1 i.2) (fun (d : Bool) (i : Nat × Int) => (fun (t : Nat) (n : Int) => (t ≤ (rowAt P j).length ∧ n = dimR L ((rowAt P j).take t) ∧ zerD L (rowAt P j) t = d : Prop)) i.1 i.2) ?_ ?_
  · intro d hd
    exact ⟨(0, 0), [P.length = P.length ∧ (fun i => [rI IntKind.i64 (P.getD i [])]) = fun i => [rI IntKind.i64 (P.getD i [])], (↑P.length : Int) = (↑P.length : Int), (↑j : Int) = (↑j : Int), (rowAt P j).length = (rowAt P j).length ∧ (fun j_1 => [RV.int IntKind.i64 ((rowAt P j).getD j_1 (0 : Int))]) = fun j_1 => [RV.int IntKind.i64 ((rowAt P j).getD j_1 (0 : Int))], (0 : Int) = (0 : Int), (rowAt P j).length = (rowAt P j).length ∧ (fun j_1 => [RV.int IntKind.i64 ((rowAt P j).getD j_1 (0 : Int))]) = fun j_1 => [RV.int IntKind.i64 ((rowAt P j).getD j_1 (0 : Int))], (↑(rowAt P j).length : Int) = (↑(rowAt P j).length : Int), (0 : Int) = (↑(0 : Nat) : Int), p = p, L.length = L.length ∧ (rws L) = (rws L)], by kernel_rfl, (by refine ⟨?_, ?_, ?_, ?_, ?_, ?_, ?_, ?_, ?_, (?_ : L.length = L.length ∧ (rws L) = (rws L))⟩ <;> (first | rfl | assumption | omega | simp_all)), (by exact ⟨Nat.zero_le _, rfl, zerD_0.trans hd⟩)⟩
  · rintro d hd ⟨t, n⟩ hI
    cases d
    · -- d = false
      obtain ⟨ht, hs, hz⟩ := hI
      have ht : t ≤ (rowAt P j).length := ht
      have hs : n = dimR L ((rowAt P j).take t) := hs
      have ek : IntKind.i64.wrap ((t : Int) + 1) = ((t + 1 : Nat) : Int) := by rw [w64 (by omega) (by omega)]; omega
      have hb := dimR_b hL (l := (rowAt P j).take t) (fun x hx => hr x (List.mem_of_mem_take hx))
      have hb2 : (((rowAt P j).take t).length : Int) ≤ 1000 := by simp only [List.length_take]; omega
      refine Or.elim (Bool.eq_false_or_eq_true (decide ((↑t : Int) < (↑(rowAt P j).length : Int)))) (fun d1 => Or.elim (Bool.eq_false_or_eq_true (decide ((↑t : Int) > (0 : Int)))) (fun d2 => Or.elim (Bool.eq_false_or_eq_true ((L.getD ((rowAt P j).getD t (0 : Int)).toNat Con.zero).oddity == (0 : Int))) (fun d3 => ⟨[true, true, false], .inl ⟨(t + 1, n + (at_ L ((rowAt P j).getD t 0).toNat).dim), [P.length = P.length ∧ (fun i => [rI IntKind.i64 (P.getD i [])]) = fun i => [rI IntKind.i64 (P.getD i [])], (↑P.length : Int) = (↑P.length : Int), (↑j : Int) = (↑j : Int), (rowAt P j).length = (rowAt P j).length ∧ (fun j_1 => [RV.int IntKind.i64 ((rowAt P j).getD j_1 (0 : Int))]) = fun j_1 => [RV.int IntKind.i64 ((rowAt P j).getD j_1 (0 : Int))], IntKind.i64.wrap (n + (L.getD ((rowAt P j).getD t (0 : Int)).toNat Con.zero).dim) = n + (at_ L ((rowAt P j).getD t (0 : Int)).toNat).dim, (rowAt P j).length = (rowAt P j).length ∧ (fun j_1 => [RV.int IntKind.i64 ((rowAt P j).getD j_1 (0 : Int))]) = fun j_1 => [RV.int IntKind.i64 ((rowAt P j).getD j_1 (0 : Int))], (↑(rowAt P j).length : Int) = (↑(rowAt P j).length : Int), IntKind.i64.wrap ((↑t : Int) + (1 : Int)) = (↑(t + (1 : Nat)) : Int), p = p, L.length = L.length ∧ (rws L) = (rws L), Dec ((L.getD ((rowAt P j).getD t (0 : Int)).toNat Con.zero).oddity != (0 : Int)) false, (0 : Int) ≤ (rowAt P j).getD t (0 : Int) ∧ (rowAt P j).getD t (0 : Int) < (↑L.length : Int), Dec (decide ((↑t : Int) > (0 : Int))) true, (0 : Int) ≤ (rowAt P j).getD t (0 : Int) ∧ (rowAt P j).getD t (0 : Int) < (↑L.length : Int), (0 : Int) ≤ (↑t : Int) ∧ (↑t : Int) < (↑(rowAt P j).length : Int), Dec (decide ((↑t : Int) < (↑(rowAt P j).length : Int))) true], by kernel_rfl, ⟨?_, ?_, ?_, ?_, ?_, ?_, ?_, ?_, ?_, ?_, (dN d3), ?_, d2, ?_, ?_, d1⟩, MuG.out ?_, InG.out ?_⟩⟩)
           (fun d3 => ⟨[true, true, true], .inr ⟨[Dec ((L.getD ((rowAt P j).getD t (0 : Int)).toNat Con.zero).oddity != (0 : Int)) true, (0 : Int) ≤ (rowAt P j).getD t (0 : Int) ∧ (rowAt P j).getD t (0 : Int) < (↑L.length : Int), Dec (decide ((↑t : Int) > (0 : Int))) true, (0 : Int) ≤ (rowAt P j).getD t (0 : Int) ∧ (rowAt P j).getD t (0 : Int) < (↑L.length : Int), (0 : Int) ≤ (↑t : Int) ∧ (↑t : Int) < (↑(rowAt P j).length : Int), Dec (decide ((↑t : Int) < (↑(rowAt P j).length : Int))) true], by kernel_rfl, ⟨(dN d3), ?_, d2, ?_, ?_, d1⟩, rfl⟩⟩))
           (fun d2 => ⟨[true, false], .inl ⟨(t + 1, n + (at_ L ((rowAt P j).getD t 0).toNat).dim), [P.length = P.length ∧ (fun i => [rI IntKind.i64 (P.getD i [])]) = fun i => [rI IntKind.i64 (P.getD i [])], (↑P.length : Int) = (↑P.length : Int), (↑j : Int) = (↑j : Int), (rowAt P j).length = (rowAt P j).length ∧ (fun j_1 => [RV.int IntKind.i64 ((rowAt P j).getD j_1 (0 : Int))]) = fun j_1 => [RV.int IntKind.i64 ((rowAt P j).getD j_1 (0 : Int))], IntKind.i64.wrap (n + (L.getD ((rowAt P j).getD t (0 : Int)).toNat Con.zero).dim) = n + (at_ L ((rowAt P j).getD t (0 : Int)).toNat).dim, (rowAt P j).length = (rowAt P j).length ∧ (fun j_1 => [RV.int IntKind.i64 ((rowAt P j).getD j_1 (0 : Int))]) = fun j_1 => [RV.int IntKind.i64 ((rowAt P j).getD j_1 (0 : Int))], (↑(rowAt P j).length : Int) = (↑(rowAt P j).length : Int), IntKind.i64.wrap ((↑t : Int) + (1 : Int)) = (↑(t + (1 : Nat)) : Int), p = p, L.length = L.length ∧ (rws L) = (rws L), Dec (decide ((↑t : Int) > (0 : Int))) false, (0 : Int) ≤ (rowAt P j).getD t (0 : Int) ∧ (rowAt P j).getD t (0 : Int) < (↑L.length : Int), (0 : Int) ≤ (↑t : Int) ∧ (↑t : Int) < (↑(rowAt P j).length : Int), Dec (decide ((↑t : Int) < (↑(rowAt P j).length : Int))) true], by kernel_rfl, ⟨?_, ?_, ?_, ?_, ?_, ?_, ?_, ?_, ?_, ?_, d2, ?_, ?_, d1⟩, MuG.out ?_, InG.out ?_⟩⟩))
           (fun d1 => CtG.no ?_)
      all_goals first | (refine MuG.mk ?_; (simp only [decide_eq_true_eq] at *; show (rowAt P j).length - (t + 1) < (rowAt P j).length - t; omega)) | (refine InG.mk ?_; (simp only [decide_eq_true_eq, decide_eq_false_iff_not, Int.toNat_natCast, gt_iff_lt] at *; refine ⟨by omega, by rw [dimR_take (by omega), hs], ?_⟩; first | (show zerD L (rowAt P j) (t + 1) = _; rw [zerD_1 (by omega)]; exact hz) | (rw [zerD_s (by omega) (by omega), show ((at_ L ((rowAt P j).getD t 0).toNat).oddity == 0) = true from d3] at hz; exact hz))) | (refine CtG.mk ?_; (simp only [decide_eq_true_eq, decide_eq_false_iff_not, Int.toNat_natCast, gt_iff_lt] at *; first | (rw [zerD_e (by omega)] at hz; cases hz; done) | (rw [zerD_s (by omega) (by omega), show ((at_ L ((rowAt P j).getD t 0).toNat).oddity == 0) = false from d3] at hz; cases hz; done))) | (first | (with_reducible rfl) | exact ⟨rfl, rfl⟩ | ((try simp only [ek, Int.toNat_natCast, decide_eq_true_eq, decide_eq_false_iff_not, gt_iff_lt] at *) <;> first | omega | (have h1 := hr.at (t := t) (by omega); omega) | (have h2 := dim_b (t := t) hL hr (by omega); simp only [at_] at h2 ⊢; exact w64 (by omega) (by omega)) | (rw [hs, List.take_of_length_le (by omega)]; done)))
    · -- d = true
      obtain ⟨ht, hs, hz⟩ := hI
      have ht : t ≤ (rowAt P j).length := ht
      have hs : n = dimR L ((rowAt P j).take t) := hs
      have ek : IntKind.i64.wrap ((t : Int) + 1) = ((t + 1 : Nat) : Int) := by rw [w64 (by omega) (by omega)]; omega
      have hb := dimR_b hL (l := (rowAt P j).take t) (fun x hx => hr x (List.mem_of_mem_take hx))
      have hb2 : (((rowAt P j).take t).length : Int) ≤ 1000 := by simp only [List.length_take]; omega
      refine Or.elim (Bool.eq_false_or_eq_true (decide ((↑t : Int) < (↑(rowAt P j).length : Int)))) (fun d1 => Or.elim (Bool.eq_false_or_eq_true (decide ((↑t : Int) > (0 : Int)))) (fun d2 => Or.elim (Bool.eq_false_or_eq_true ((L.getD ((rowAt P j).getD t (0 : Int)).toNat Con.zero).oddity == (0 : Int))) (fun d3 => ⟨[true, true, false], .inl ⟨(t + 1, n + (at_ L ((rowAt P j).getD t 0).toNat).dim), [P.length = P.length ∧ (fun i => [rI IntKind.i64 (P.getD i [])]) = fun i => [rI IntKind.i64 (P.getD i [])], (↑P.length : Int) = (↑P.length : Int), (↑j : Int) = (↑j : Int), (rowAt P j).length = (rowAt P j).length ∧ (fun j_1 => [RV.int IntKind.i64 ((rowAt P j).getD j_1 (0 : Int))]) = fun j_1 => [RV.int IntKind.i64 ((rowAt P j).getD j_1 (0 : Int))], IntKind.i64.wrap (n + (L.getD ((rowAt P j).getD t (0 : Int)).toNat Con.zero).dim) = n + (at_ L ((rowAt P j).getD t (0 : Int)).toNat).dim, (rowAt P j).length = (rowAt P j).length ∧ (fun j_1 => [RV.int IntKind.i64 ((rowAt P j).getD j_1 (0 : Int))]) = fun j_1 => [RV.int IntKind.i64 ((rowAt P j).getD j_1 (0 : Int))], (↑(rowAt P j).length : Int) = (↑(rowAt P j).length : Int), IntKind.i64.wrap ((↑t : Int) + (1 : Int)) = (↑(t + (1 : Nat)) : Int), p = p, L.length = L.length ∧ (rws L) = (rws L), Dec ((L.getD ((rowAt P j).getD t (0 : Int)).toNat Con.zero).oddity != (0 : Int)) false, (0 : Int) ≤ (rowAt P j).getD t (0 : Int) ∧ (rowAt P j).getD t (0 : Int) < (↑L.length : Int), Dec (decide ((↑t : Int) > (0 : Int))) true, (0 : Int) ≤ (rowAt P j).getD t (0 : Int) ∧ (rowAt P j).getD t (0 : Int) < (↑L.length : Int), (0 : Int) ≤ (↑t : Int) ∧ (↑t : Int) < (↑(rowAt P j).length : Int), Dec (decide ((↑t : Int) < (↑(rowAt P j).length : Int))) true], by kernel_rfl, ⟨?_, ?_, ?_, ?_, ?_, ?_, ?_, ?_, ?_, ?_, (dN d3), ?_, d2, ?_, ?_, d1⟩, MuG.out ?_, InG.out ?_⟩⟩)
           (fun d3 => CtG.no ?_))
           (fun d2 => ⟨[true, false], .inl ⟨(t + 1, n + (at_ L ((rowAt P j).getD t 0).toNat).dim), [P.length = P.length ∧ (fun i => [rI IntKind.i64 (P.getD i [])]) = fun i => [rI IntKind.i64 (P.getD i [])], (↑P.length : Int) = (↑P.length : Int), (↑j : Int) = (↑j : Int), (rowAt P j).length = (rowAt P j).length ∧ (fun j_1 => [RV.int IntKind.i64 ((rowAt P j).getD j_1 (0 : Int))]) = fun j_1 => [RV.int IntKind.i64 ((rowAt P j).getD j_1 (0 : Int))], IntKind.i64.wrap (n + (L.getD ((rowAt P j).getD t (0 : Int)).toNat Con.zero).dim) = n + (at_ L ((rowAt P j).getD t (0 : Int)).toNat).dim, (rowAt P j).length = (rowAt P j).length ∧ (fun j_1 => [RV.int IntKind.i64 ((rowAt P j).getD j_1 (0 : Int))]) = fun j_1 => [RV.int IntKind.i64 ((rowAt P j).getD j_1 (0 : Int))], (↑(rowAt P j).length : Int) = (↑(rowAt P j).length : Int), IntKind.i64.wrap ((↑t : Int) + (1 : Int)) = (↑(t + (1 : Nat)) : Int), p = p, L.length = L.length ∧ (rws L) = (rws L), Dec (decide ((↑t : Int) > (0 : Int))) false, (0 : Int) ≤ (rowAt P j).getD t (0 : Int) ∧ (rowAt P j).getD t (0 : Int) < (↑L.length : Int), (0 : Int) ≤ (↑t : Int) ∧ (↑t : Int) < (↑(rowAt P j).length : Int), Dec (decide ((↑t : Int) < (↑(rowAt P j).length : Int))) true], by kernel_rfl, ⟨?_, ?_, ?_, ?_, ?_, ?_, ?_, ?_, ?_, ?_, d2, ?_, ?_, d1⟩, MuG.out ?_, InG.out ?_⟩⟩))
           (fun d1 => ⟨[false], .inr ⟨[P.length = P.length ∧ (fun i => [rI IntKind.i64 (P.getD i [])]) = fun i => [rI IntKind.i64 (P.getD i [])], (↑P.length : Int) = (↑P.length : Int), (↑j : Int) = (↑j : Int), (rowAt P j).length = (rowAt P j).length ∧ (fun j_1 => [RV.int IntKind.i64 ((rowAt P j).getD j_1 (0 : Int))]) = fun j_1 => [RV.int IntKind.i64 ((rowAt P j).getD j_1 (0 : Int))], n = dimR L (rowAt P j), p = p, L.length = L.length ∧ (rws L) = (rws L), Dec (decide ((↑t : Int) < (↑(rowAt P j).length : Int))) false], by kernel_rfl, ⟨?_, ?_, ?_, ?_, ?_, ?_, ?_, d1⟩, rfl⟩⟩)
      all_goals first | (refine MuG.mk ?_; (simp only [decide_eq_true_eq] at *; show (rowAt P j).length - (t + 1) < (rowAt P j).length - t; omega)) | (refine InG.mk ?_; (simp only [decide_eq_true_eq, decide_eq_false_iff_not, Int.toNat_natCast, gt_iff_lt] at *; refine ⟨by omega, by rw [dimR_take (by omega), hs], ?_⟩; first | (show zerD L (rowAt P j) (t + 1) = _; rw [zerD_1 (by omega)]; exact hz) | (rw [zerD_s (by omega) (by omega), show ((at_ L ((rowAt P j).getD t 0).toNat).oddity == 0) = true from d3] at hz; exact hz))) | (refine CtG.mk ?_; (simp only [decide_eq_true_eq, decide_eq_false_iff_not, Int.toNat_natCast, gt_iff_lt] at *; first | (rw [zerD_e (by omega)] at hz; cases hz; done) | (rw [zerD_s (by omega) (by omega), show ((at_ L ((rowAt P j).getD t 0).toNat).oddity == 0) = false from d3] at hz; cases hz; done))) | (first | (with_reducible rfl) | exact ⟨rfl, rfl⟩ | ((try simp only [ek, Int.toNat_natCast, decide_eq_true_eq, decide_eq_false_iff_not, gt_iff_lt] at *) <;> first | omega | (have h1 := hr.at (t := t) (by omega); omega) | (have h2 := dim_b (t := t) hL hr (by omega); simp only [at_] at h2 ⊢; exact w64 (by omega) (by omega)) | (rw [hs, List.take_of_length_le (by omega)]; done)))
def fusR (L : List Con) (l : List Int) : Bool := zerR L l && parR L l
theorem allP_drop {P : List (List Int)} {j : Nat} (hj : j < P.length) (q : List Int → Bool) : (P.drop j).all q = (q (rowAt P j) && (P.drop (j + 1)).all q) := by
  rw [drop_row hj]; rfl
theorem par_w {L : List Con} (hL : okL L) {l : List Int} (hne : l ≠ []) (hl : inR L.length l) (hn : l.length ≤ 1000) : ((IntKind.i64.wrap ((at_ L (l.getD 0 0).toNat).oddity - dimR L l)).tmod 2 == 0) = parR L l := by
  have hb := dimR_b hL hl
  have ho := odd_b (t := 0) hL hl (List.length_pos_iff.2 hne)
  rw [w64 (by omega) (by omega)]
  unfold parR
  rw [Bool.eq_iff_iff, beq_iff_eq, decide_eq_true_eq]
  exact tmod2 _
noncomputable def f2Ann (p : Int) (L : List Con) (P : List (List Int)) : Ann := ⟨⟨[(1, .ptr 1000 0), (54, (roR .i64 P).av), (55, .vint .i64 P.length), (56, .int .i64 0)], loH p L, 1010⟩, some (P.all (fusR L)), fun d => match d with
  | true => (.exit 2, ⟨[], [], 1010⟩)
  | false => (.ret, ⟨[(2, .bool false)], [], 1010⟩)⟩
set_option maxRecDepth 100000 in
theorem f2_loop (p : Int) (L : List Con) (P : List (List Int)) (hL : okL L) (hP : ∀ l ∈ P, l ≠ [] ∧ inR L.length l ∧ l.length ≤ L.length) (hm : P.length ≤ 1000) : AnnOk Tryz.prog EV.ng (Nat.max 1 Tryz.f35.ntmps) (bodyAt Tryz.f35 [0, 1, 0, 1, 1, 1]) (f2Ann p L P) := by
  refine ann_ofI evOk (callF_ok evOk (noOrc_ok _ _) 8) (by kernel_rfl) (by kernel_rfl) (fun i : Nat => (fun (j : Nat) => (⟨[(1, .ptr 1000 0), (54, (roR .i64 P).av), (55, .vint .i64 P.length), (56, .vint .i64 (j : Int))], loH p L, 1010⟩ : St)) i) (fun i : Nat => (fun (j : Nat) => (P.length - j : Nat)) i) (fun (d : Bool) (i : Nat) => (fun (j : Nat) => (j ≤ P.length ∧ (P.drop j).all (fusR L) = d : Prop)) i) (fun i : Nat => (fun (j : Nat) => ([([0, 1, 0, 1, 1, 0, 0, 1, 1, 0, 0, 1, 0, 1, 1, 1], f3Ann p L P j)] : List (List Nat × Ann))) i) ?_ ?_ ?_
  · rintro d hd j hI
    exact one_ann (f3_loop p L P j hL (by rcases Nat.lt_or_ge j P.length with h | h; exact (hP _ (rowAt_mem h)).2.1; intro x hx; simp [rowAt, h] at hx) (by have := hL.1; rcases Nat.lt_or_ge j P.length with h | h; have := (hP _ (rowAt_mem h)).2.2; omega; simp [rowAt, h]))
  · intro d hd
    exact ⟨(0), [P.length = P.length ∧ (fun i => [rI IntKind.i64 (P.getD i [])]) = fun i => [rI IntKind.i64 (P.getD i [])], (↑P.length : Int) = (↑P.length : Int), (0 : Int) = (↑(0 : Nat) : Int), p = p, L.length = L.length ∧ (rws L) = (rws L)], by kernel_rfl, (by refine ⟨?_, ?_, ?_, ?_, (?_ : L.length = L.length ∧ (rws L) = (rws L))⟩ <;> (first | rfl | assumption | omega | simp_all)), (by exact ⟨Nat.zero_le _, hd⟩)⟩
  · rintro d hd j hI
    cases d
    · -- d = false
      obtain ⟨ht, hs⟩ := hI
      have ht : j ≤ P.length := ht
      have hl1 := hL.1
      have ek : IntKind.i64.wrap ((j : Int) + 1) = ((j + 1 : Nat) : Int) := by rw [w64 (by omega) (by omega)]; omega
      refine Or.elim (Bool.eq_false_or_eq_true (decide ((↑j : Int) < (↑P.length : Int)))) (fun d1 => Or.elim (Bool.eq_false_or_eq_true (zerR L (rowAt P j))) (fun d2 => Or.elim (Bool.eq_false_or_eq_true ((IntKind.i64.wrap ((L.getD ((rowAt P j).getD (Int.toNat (0 : Int)) (0 : Int)).toNat Con.zero).oddity - dimR L (rowAt P j))).tmod (2 : Int) == (0 : Int))) (fun d3 => ⟨[true, true, false], .inl ⟨(j + 1), [P.length = P.length ∧ (fun i => [rI IntKind.i64 (P.getD i [])]) = fun i => [rI IntKind.i64 (P.getD i [])], (↑P.length : Int) = (↑P.length : Int), IntKind.i64.wrap ((↑j : Int) + (1 : Int)) = (↑(j + (1 : Nat)) : Int), p = p, L.length = L.length ∧ (rws L) = (rws L), Dec ((IntKind.i64.wrap ((L.getD ((rowAt P j).getD (Int.toNat (0 : Int)) (0 : Int)).toNat Con.zero).oddity - dimR L (rowAt P j))).tmod (2 : Int) != (0 : Int)) false, (2 : Int) ≠ (0 : Int), (0 : Int) ≤ (rowAt P j).getD (Int.toNat (0 : Int)) (0 : Int) ∧ (rowAt P j).getD (Int.toNat (0 : Int)) (0 : Int) < (↑L.length : Int), (0 : Int) ≤ (0 : Int) ∧ (0 : Int) < (↑(rowAt P j).length : Int), P.length = P.length ∧ (fun i => [rI IntKind.i64 (P.getD i [])]) = fun i => [rI IntKind.i64 (P.getD i [])], (↑P.length : Int) = (↑P.length : Int), (↑j : Int) = (↑j : Int), (P.getD j []).length = (rowAt P j).length ∧ (fun j_1 => [RV.int IntKind.i64 ((P.getD j []).getD j_1 (0 : Int))]) = fun j_1 => [RV.int IntKind.i64 ((rowAt P j).getD j_1 (0 : Int))], (P.getD j []).length = (rowAt P j).length ∧ (fun j_1 => [RV.int IntKind.i64 ((P.getD j []).getD j_1 (0 : Int))]) = fun j_1 => [RV.int IntKind.i64 ((rowAt P j).getD j_1 (0 : Int))], (↑(P.getD j []).length : Int) = (↑(rowAt P j).length : Int), p = p, L.length = L.length ∧ (rws L) = (rws L), Dec (zerR L (rowAt P j)) true, (0 : Int) ≤ (↑j : Int) ∧ (↑j : Int) < (↑P.length : Int), Dec (decide ((↑j : Int) < (↑P.length : Int))) true], by kernel_rfl, ⟨?_, ?_, ?_, ?_, ?_, (dN d3), ?_, ?_, ?_, ?_, ?_, ?_, ?_, ?_, ?_, ?_, ?_, d2, ?_, d1⟩, MuG.out ?_, InG.out ?_⟩⟩)
           (fun d3 => ⟨[true, true, true], .inr ⟨[Dec ((IntKind.i64.wrap ((L.getD ((rowAt P j).getD (Int.toNat (0 : Int)) (0 : Int)).toNat Con.zero).oddity - dimR L (rowAt P j))).tmod (2 : Int) != (0 : Int)) true, (2 : Int) ≠ (0 : Int), (0 : Int) ≤ (rowAt P j).getD (Int.toNat (0 : Int)) (0 : Int) ∧ (rowAt P j).getD (Int.toNat (0 : Int)) (0 : Int) < (↑L.length : Int), (0 : Int) ≤ (0 : Int) ∧ (0 : Int) < (↑(rowAt P j).length : Int), P.length = P.length ∧ (fun i => [rI IntKind.i64 (P.getD i [])]) = fun i => [rI IntKind.i64 (P.getD i [])], (↑P.length : Int) = (↑P.length : Int), (↑j : Int) = (↑j : Int), (P.getD j []).length = (rowAt P j).length ∧ (fun j_1 => [RV.int IntKind.i64 ((P.getD j []).getD j_1 (0 : Int))]) = fun j_1 => [RV.int IntKind.i64 ((rowAt P j).getD j_1 (0 : Int))], (P.getD j []).length = (rowAt P j).length ∧ (fun j_1 => [RV.int IntKind.i64 ((P.getD j []).getD j_1 (0 : Int))]) = fun j_1 => [RV.int IntKind.i64 ((rowAt P j).getD j_1 (0 : Int))], (↑(P.getD j []).length : Int) = (↑(rowAt P j).length : Int), p = p, L.length = L.length ∧ (rws L) = (rws L), Dec (zerR L (rowAt P j)) true, (0 : Int) ≤ (↑j : Int) ∧ (↑j : Int) < (↑P.length : Int), Dec (decide ((↑j : Int) < (↑P.length : Int))) true], by kernel_rfl, ⟨(dN d3), ?_, ?_, ?_, ?_, ?_, ?_, ?_, ?_, ?_, ?_, ?_, d2, ?_, d1⟩, rfl⟩⟩))
           (fun d2 => ⟨[true, false], .inr ⟨[P.length = P.length ∧ (fun i => [rI IntKind.i64 (P.getD i [])]) = fun i => [rI IntKind.i64 (P.getD i [])], (↑P.length : Int) = (↑P.length : Int), (↑j : Int) = (↑j : Int), (P.getD j []).length = (rowAt P j).length ∧ (fun j_1 => [RV.int IntKind.i64 ((P.getD j []).getD j_1 (0 : Int))]) = fun j_1 => [RV.int IntKind.i64 ((rowAt P j).getD j_1 (0 : Int))], (P.getD j []).length = (rowAt P j).length ∧ (fun j_1 => [RV.int IntKind.i64 ((P.getD j []).getD j_1 (0 : Int))]) = fun j_1 => [RV.int IntKind.i64 ((rowAt P j).getD j_1 (0 : Int))], (↑(P.getD j []).length : Int) = (↑(rowAt P j).length : Int), p = p, L.length = L.length ∧ (rws L) = (rws L), Dec (zerR L (rowAt P j)) false, (0 : Int) ≤ (↑j : Int) ∧ (↑j : Int) < (↑P.length : Int), Dec (decide ((↑j : Int) < (↑P.length : Int))) true], by kernel_rfl, ⟨?_, ?_, ?_, ?_, ?_, ?_, ?_, ?_, d2, ?_, d1⟩, rfl⟩⟩))
           (fun d1 => CtG.no ?_)
      all_goals first | (refine MuG.mk ?_; (simp only [decide_eq_true_eq] at *; show P.length - (j + 1) < P.length - j; omega)) | (refine InG.mk ?_; (simp only [decide_eq_true_eq, Int.toNat_natCast, Int.toNat_zero] at *; have h0 := hP _ (rowAt_mem (P := P) (t := j) (by omega)); rw [allP_drop (by omega), fusR, d2, ← par_w hL h0.1 h0.2.1 (by omega)] at hs; refine ⟨by omega, ?_⟩; simp only [at_] at hs; first | (rw [d3] at hs; exact hs) | (simp only [Bool.not_eq_eq_eq_not, bne] at d3 hs; rw [d3] at hs; exact hs))) | (refine CtG.mk ?_; (simp only [decide_eq_true_eq, decide_eq_false_iff_not, Int.toNat_natCast, Int.toNat_zero] at *; first | (rw [List.drop_eq_nil_of_le (by omega)] at hs; cases hs; done) | (rw [allP_drop (by omega), fusR, d2] at hs; cases hs; done) | (have h0 := hP _ (rowAt_mem (P := P) (t := j) (by omega)); rw [allP_drop (by omega), fusR, d2, ← par_w hL h0.1 h0.2.1 (by omega)] at hs; simp only [at_] at hs; rw [d3] at hs; cases hs; done))) | (first | (with_reducible rfl) | exact ⟨rfl, rfl⟩ | decide | ((try simp only [ek, Int.toNat_natCast, Int.toNat_zero, decide_eq_true_eq, decide_eq_false_iff_not] at *) <;> first | omega | (have h0 := hP _ (rowAt_mem (P := P) (t := j) (by omega)); have h1 : 0 < (rowAt P j).length := List.length_pos_iff.2 h0.1; first | omega | (have h2 := h0.2.1.at (t := 0) h1; omega))))
    · -- d = true
      obtain ⟨ht, hs⟩ := hI
      have ht : j ≤ P.length := ht
      have hl1 := hL.1
      have ek : IntKind.i64.wrap ((j : Int) + 1) = ((j + 1 : Nat) : Int) := by rw [w64 (by omega) (by omega)]; omega
      refine Or.elim (Bool.eq_false_or_eq_true (decide ((↑j : Int) < (↑P.length : Int)))) (fun d1 => Or.elim (Bool.eq_false_or_eq_true (zerR L (rowAt P j))) (fun d2 => Or.elim (Bool.eq_false_or_eq_true ((IntKind.i64.wrap ((L.getD ((rowAt P j).getD (Int.toNat (0 : Int)) (0 : Int)).toNat Con.zero).oddity - dimR L (rowAt P j))).tmod (2 : Int) == (0 : Int))) (fun d3 => ⟨[true, true, false], .inl ⟨(j + 1), [P.length = P.length ∧ (fun i => [rI IntKind.i64 (P.getD i [])]) = fun i => [rI IntKind.i64 (P.getD i [])], (↑P.length : Int) = (↑P.length : Int), IntKind.i64.wrap ((↑j : Int) + (1 : Int)) = (↑(j + (1 : Nat)) : Int), p = p, L.length = L.length ∧ (rws L) = (rws L), Dec ((IntKind.i64.wrap ((L.getD ((rowAt P j).getD (Int.toNat (0 : Int)) (0 : Int)).toNat Con.zero).oddity - dimR L (rowAt P j))).tmod (2 : Int) != (0 : Int)) false, (2 : Int) ≠ (0 : Int), (0 : Int) ≤ (rowAt P j).getD (Int.toNat (0 : Int)) (0 : Int) ∧ (rowAt P j).getD (Int.toNat (0 : Int)) (0 : Int) < (↑L.length : Int), (0 : Int) ≤ (0 : Int) ∧ (0 : Int) < (↑(rowAt P j).length : Int), P.length = P.length ∧ (fun i => [rI IntKind.i64 (P.getD i [])]) = fun i => [rI IntKind.i64 (P.getD i [])], (↑P.length : Int) = (↑P.length : Int), (↑j : Int) = (↑j : Int), (P.getD j []).length = (rowAt P j).length ∧ (fun j_1 => [RV.int IntKind.i64 ((P.getD j []).getD j_1 (0 : Int))]) = fun j_1 => [RV.int IntKind.i64 ((rowAt P j).getD j_1 (0 : Int))], (P.getD j []).length = (rowAt P j).length ∧ (fun j_1 => [RV.int IntKind.i64 ((P.getD j []).getD j_1 (0 : Int))]) = fun j_1 => [RV.int IntKind.i64 ((rowAt P j).getD j_1 (0 : Int))], (↑(P.getD j []).length : Int) = (↑(rowAt P j).length : Int), p = p, L.length = L.length ∧ (rws L) = (rws L), Dec (zerR L (rowAt P j)) true, (0 : Int) ≤ (↑j : Int) ∧ (↑j : Int) < (↑P.length : Int), Dec (decide ((↑j : Int) < (↑P.length : Int))) true], by kernel_rfl, ⟨?_, ?_, ?_, ?_, ?_, (dN d3), ?_, ?_, ?_, ?_, ?_, ?_, ?_, ?_, ?_, ?_, ?_, d2, ?_, d1⟩, MuG.out ?_, InG.out ?_⟩⟩)
           (fun d3 => CtG.no ?_))
           (fun d2 => CtG.no ?_))
           (fun d1 => ⟨[false], .inr ⟨[Dec (decide ((↑j : Int) < (↑P.length : Int))) false], by kernel_rfl, d1, rfl⟩⟩)
      all_goals first | (refine MuG.mk ?_; (simp only [decide_eq_true_eq] at *; show P.length - (j + 1) < P.length - j; omega)) | (refine InG.mk ?_; (simp only [decide_eq_true_eq, Int.toNat_natCast, Int.toNat_zero] at *; have h0 := hP _ (rowAt_mem (P := P) (t := j) (by omega)); rw [allP_drop (by omega), fusR, d2, ← par_w hL h0.1 h0.2.1 (by omega)] at hs; refine ⟨by omega, ?_⟩; simp only [at_] at hs; first | (rw [d3] at hs; exact hs) | (simp only [Bool.not_eq_eq_eq_not, bne] at d3 hs; rw [d3] at hs; exact hs))) | (refine CtG.mk ?_; (simp only [decide_eq_true_eq, decide_eq_false_iff_not, Int.toNat_natCast, Int.toNat_zero] at *; first | (rw [List.drop_eq_nil_of_le (by omega)] at hs; cases hs; done) | (rw [allP_drop (by omega), fusR, d2] at hs; cases hs; done) | (have h0 := hP _ (rowAt_mem (P := P) (t := j) (by omega)); rw [allP_drop (by omega), fusR, d2, ← par_w hL h0.1 h0.2.1 (by omega)] at hs; simp only [at_] at hs; rw [d3] at hs; cases hs; done))) | (first | (with_reducible rfl) | exact ⟨rfl, rfl⟩ | decide | ((try simp only [ek, Int.toNat_natCast, Int.toNat_zero, decide_eq_true_eq, decide_eq_false_iff_not] at *) <;> first | omega | (have h0 := hP _ (rowAt_mem (P := P) (t := j) (by omega)); have h1 : 0 < (rowAt P j).length := List.length_pos_iff.2 h0.1; first | omega | (have h2 := h0.2.1.at (t := 0) h1; omega))))
theorem okL_sh {p : Int} {L : List Con} (h1 : shapeM p L = true) (h2 : L.all fusB = true) : okL L := by
  simp only [shapeM, Bool.and_eq_true] at h1
  obtain ⟨i1, i2, i3⟩ := sh_at (by decide) (by decide) h1.2.2
  have hne : L ≠ [] := by intro e; rw [e] at h1; cases h1.2.1
  have hd : dimS L ≤ 8 := by rcases i2 with i2 | i2; omega; exact absurd i2 hne
  refine ⟨by omega, fun c hc => ?_⟩
  have h4 := i1 c hc
  have h5 := fusB_iff.1 (List.all_eq_true.1 h2 c hc)
  exact ⟨⟨h4.1, by omega⟩, ⟨h4.2.2.1, by omega⟩, h5.1, h5.2.1⟩
noncomputable def entsVF : List OEnt := entsVC ++ entsVS
theorem entsVF_ok : ∀ e ∈ entsVF, EntOk Tryz.prog e := by
  intro e he
  rcases List.mem_append.1 he with he | he
  · exact entsVC_ok e he
  · exact entsVS_ok e he
theorem fusT_eq (p : Int) (L : List Con) : fusT p L = (shapeM p L && (L.all fusB && (partsM L).all (fusR L))) := rfl
set_option maxRecDepth 100000 in
theorem fused_1 (p : Int) (L : List Con) (hn : L.length ≤ 1000) (h1 : shapeM p L = false) : PureC Tryz.prog [] 35 [.agg [.int .i64 p, roC L]] (.bool (fusT p L)) := by
  have k1 : shapeM p (consR L.length fun i => (L.getD i Con.zero).rvs) = false := (by rw [consR_ro]; exact h1)
  have rr := fun (tp : List Bool) (ms : List Prop) h hm => pure_run evOk (callF_ok evOk (orcOf_ok entsVF_ok) 8) Tryz.func35 (A := [.agg [.int .i64 p, roC L]]) rfl none_ann rfl rfl evNg (tabs := []) (R := .bool (fusT p L)) (tp := tp) (ms := ms) h hm
  refine rr [true] [false = fusT p L, Dec (!shapeM p (consR L.length (rws L))) true, (∀ (i : Nat), i < L.length → (rws L) i = (Con.ofR ((rws L) i)).rvs) ∧ L.length ≤ (1000 : Nat)] (by kernel_rfl) ⟨?_, (dN k1), (?_ : (∀ (i : Nat), i < L.length → (rws L) i = (Con.ofR ((rws L) i)).rvs) ∧ L.length ≤ (1000 : Nat))⟩
  all_goals first | (first | (with_reducible rfl) | exact ⟨rfl, rfl⟩ | exact ⟨fun _ _ => rfl, hn⟩ | (rw [fusT_eq, h1]; rfl))
set_option maxRecDepth 100000 in
theorem fused_2 (p : Int) (L : List Con) (hn : L.length ≤ 1000) (h1 : shapeM p L = true) (h2 : L.all fusB = false) : PureC Tryz.prog [] 35 [.agg [.int .i64 p, roC L]] (.bool (fusT p L)) := by
  have k1 : shapeM p (consR L.length fun i => (L.getD i Con.zero).rvs) = true := (by rw [consR_ro]; exact h1)
  have rr := fun (tp : List Bool) (ms : List Prop) h hm => pure_run evOk (callF_ok evOk (orcOf_ok entsVF_ok) 8) Tryz.func35 (A := [.agg [.int .i64 p, roC L]]) (N := Nat.max 1 Tryz.f35.ntmps) rfl (one_ann (f1_loop p L hn)) rfl rfl evNg (tabs := []) (R := .bool (fusT p L)) (tp := tp) (ms := ms) h hm
  refine rr [false, false] [false = fusT p L, L.length = L.length ∧ (rws L) = (rws L), (↑L.length : Int) = (↑L.length : Int), p = p, L.length = L.length ∧ (rws L) = (rws L), Dec (L.all fusB) false, Dec (!shapeM p (consR L.length (rws L))) false, (∀ (i : Nat), i < L.length → (rws L) i = (Con.ofR ((rws L) i)).rvs) ∧ L.length ≤ (1000 : Nat)] (by kernel_rfl) ⟨?_, ?_, ?_, ?_, ?_, h2, (dN k1), (?_ : (∀ (i : Nat), i < L.length → (rws L) i = (Con.ofR ((rws L) i)).rvs) ∧ L.length ≤ (1000 : Nat))⟩
  all_goals first | (first | (with_reducible rfl) | exact ⟨rfl, rfl⟩ | exact ⟨fun _ _ => rfl, hn⟩ | (rw [fusT_eq, h1, h2]; rfl))
set_option maxRecDepth 100000 in
theorem fused_3 (p : Int) (L : List Con) (hn : L.length ≤ 1000) (hL : okL L) (h1 : shapeM p L = true) (h2 : L.all fusB = true) : PureC Tryz.prog [] 35 [.agg [.int .i64 p, roC L]] (.bool (fusT p L)) := by
  have k1 : shapeM p (consR L.length fun i => (L.getD i Con.zero).rvs) = true := (by rw [consR_ro]; exact h1)
  have rr := fun (tp : List Bool) (ms : List Prop) h hm => pure_run evOk (callF_ok evOk (orcOf_ok entsVF_ok) 8) Tryz.func35 (A := [.agg [.int .i64 p, roC L]]) (N := Nat.max 1 Tryz.f35.ntmps) rfl (cons_ann (f1_loop p L hn) (one_ann (f2_loop p L (partsM L) hL parts_rows (Nat.le_trans parts_len hn)))) rfl rfl evNg (tabs := []) (R := .bool (fusT p L)) (tp := tp) (ms := ms) h hm
  refine Or.elim (Bool.eq_false_or_eq_true ((partsM L).all (fusR L))) (fun d1 => rr [false, true, true] [true = fusT p L, (partsM (consR L.length (rws L))).length = (partsM L).length ∧ (fun i => [rI IntKind.i64 ((partsM (consR L.length (rws L))).getD i [])]) = fun i => [rI IntKind.i64 ((partsM L).getD i [])], (↑(partsM (consR L.length (rws L))).length : Int) = (↑(partsM L).length : Int), p = p, L.length = L.length ∧ (rws L) = (rws L), Dec ((partsM L).all (fusR L)) true, (∀ (i : Nat), i < L.length → (rws L) i = (Con.ofR ((rws L) i)).rvs) ∧ okE (consR L.length (rws L)), L.length = L.length ∧ (rws L) = (rws L), (↑L.length : Int) = (↑L.length : Int), p = p, L.length = L.length ∧ (rws L) = (rws L), Dec (L.all fusB) true, Dec (!shapeM p (consR L.length (rws L))) false, (∀ (i : Nat), i < L.length → (rws L) i = (Con.ofR ((rws L) i)).rvs) ∧ L.length ≤ (1000 : Nat)] (by kernel_rfl) ⟨?_, ?_, ?_, ?_, ?_, d1, ?_, ?_, ?_, ?_, ?_, h2, (dN k1), (?_ : (∀ (i : Nat), i < L.length → (rws L) i = (Con.ofR ((rws L) i)).rvs) ∧ L.length ≤ (1000 : Nat))⟩)
           (fun d1 => rr [false, true, false] [false = fusT p L, (partsM (consR L.length (rws L))).length = (partsM L).length ∧ (fun i => [rI IntKind.i64 ((partsM (consR L.length (rws L))).getD i [])]) = fun i => [rI IntKind.i64 ((partsM L).getD i [])], (↑(partsM (consR L.length (rws L))).length : Int) = (↑(partsM L).length : Int), p = p, L.length = L.length ∧ (rws L) = (rws L), Dec ((partsM L).all (fusR L)) false, (∀ (i : Nat), i < L.length → (rws L) i = (Con.ofR ((rws L) i)).rvs) ∧ okE (consR L.length (rws L)), L.length = L.length ∧ (rws L) = (rws L), (↑L.length : Int) = (↑L.length : Int), p = p, L.length = L.length ∧ (rws L) = (rws L), Dec (L.all fusB) true, Dec (!shapeM p (consR L.length (rws L))) false, (∀ (i : Nat), i < L.length → (rws L) i = (Con.ofR ((rws L) i)).rvs) ∧ L.length ≤ (1000 : Nat)] (by kernel_rfl) ⟨?_, ?_, ?_, ?_, ?_, d1, ?_, ?_, ?_, ?_, ?_, h2, (dN k1), (?_ : (∀ (i : Nat), i < L.length → (rws L) i = (Con.ofR ((rws L) i)).rvs) ∧ L.length ≤ (1000 : Nat))⟩)
  all_goals first | (first | (with_reducible rfl) | exact ⟨rfl, rfl⟩ | exact ⟨fun _ _ => rfl, hn⟩ | exact ⟨fun _ _ => rfl, by rw [consR_ro]; exact hL.e⟩ | (rw [consR_ro]; first | done | rfl | exact ⟨rfl, rfl⟩) | (rw [fusT_eq, h1, h2, d1]; rfl))
theorem tfused_pure (p : Int) (L : List Con) (hn : L.length ≤ 1000) : PureC Tryz.prog [] 35 [.agg [.int .i64 p, roC L]] (.bool (fusM p L)) := by
  rw [← fus_eq]
  cases h1 : shapeM p L with
  | false => exact fused_1 p L hn h1
  | true =>
    cases h2 : L.all fusB with
    | false => exact fused_2 p L hn h1 h2
    | true => exact fused_3 p L hn (okL_sh h1 h2) h1 h2
end Go.Proofs.YtcfdaddablojlaaGreatDoor.S

namespace Go.Proofs.YtcfdaddablojlaaGreatDoor.S
open Go.QfSy Go.RowKit
noncomputable def entsRF : List OEnt := entsP ++ (entsQ ++ entsL)
theorem entsRF_ok : ∀ e ∈ entsRF, EntOk Tryz.prog e := by
  intro e he
  rcases List.mem_append.1 he with he | he
  · exact entsP_ok e he
  · rcases List.mem_append.1 he with he | he
    · exact entsQ_ok e he
    · exact entsL_ok e he
theorem rng_drop {n k : Nat} (h : k < n) : (List.range n).drop k = k :: (List.range n).drop (k + 1) := by
  rw [List.drop_eq_getElem_cons (by simpa using h)]; simp
theorem rngA_drop {n k : Nat} (h : k < n) (q : Nat → Bool) : ((List.range n).drop k).all q = (q k && ((List.range n).drop (k + 1)).all q) := by
  rw [rng_drop h]; rfl
theorem rngA_end {n k : Nat} (h : n ≤ k) (q : Nat → Bool) : ((List.range n).drop k).all q = true := by
  rw [List.drop_eq_nil_of_le (by simpa using h)]; rfl
theorem fusI_iff {L : List Con} {i : Nat} : fusI L i = true ↔ (0 ≤ (at_ L i).oddity ∧ (at_ L i).oddity ≤ 7) ∧ ((at_ L i).odd = false → (at_ L i).dim.tmod 2 = 0 ∧ (at_ L i).oddity = 0) ∧ ((at_ L i).odd = true → (partM L i).getD 0 0 = (i : Int) ∨ (at_ L i).oddity = 0) := by
  simp only [fusI, fusC, oddB, tmod2]
  cases (at_ L i).odd <;> simp
theorem fusI_no {L : List Con} {i : Nat} (h : ¬ ((0 ≤ (at_ L i).oddity ∧ (at_ L i).oddity ≤ 7) ∧ ((at_ L i).odd = false → (at_ L i).dim.tmod 2 = 0 ∧ (at_ L i).oddity = 0) ∧ ((at_ L i).odd = true → (partM L i).getD 0 0 = (i : Int) ∨ (at_ L i).oddity = 0))) : fusI L i = false := by
  cases hf : fusI L i with
  | false => rfl
  | true => exact absurd (fusI_iff.1 hf) h
theorem part_pos {L : List Con} {i : Nat} (h : i < L.length) (ho : (L.getD i Con.zero).odd = true) : 0 < (partM L (i : Int)).length := by
  have := (partM_odd h (show oddB L i = true from ho)).2
  exact List.length_pos_iff.2 (fun e => by rw [e] at this; simp at this)
noncomputable def r1Ann (p : Int) (L : List Con) : Ann := ⟨⟨[(1, .ptr 1000 0), (20, (roC L).av), (21, .vint .i64 L.length), (22, .int .i64 0)], loH p L, 1020⟩, some ((List.range L.length).all (fusI L)), fun d => match d with
  | true => (.exit 0, ⟨[(1, .ptr 1000 0)], loH p L, 1020⟩)
  | false => (.ret, ⟨[(2, .bool false)], [], 1020⟩)⟩
set_option maxHeartbeats 2000000 in
set_option maxRecDepth 100000 in
theorem r1_loop (p : Int) (L : List Con) (hL : okE L) : AnnOk Tryz.prog EV.ng (Nat.max 1 Tryz.f40.ntmps) (bodyAt Tryz.f40 [0, 1, 0, 1, 1]) (r1Ann p L) := by
  refine ann_of evOk (callF_ok evOk (orcOf_ok entsRF_ok) 8) none_ann (by kernel_rfl) (by kernel_rfl) (fun i : Nat => (fun (k : Nat) => (⟨[(1, .ptr 1000 0), (20, (roC L).av), (21, .vint .i64 L.length), (22, .vint .i64 (k : Int))], loH p L, 1020⟩ : St)) i) (fun i : Nat => (fun (k : Nat) => (L.length - k : Nat)) i) (fun (d : Bool) (i : Nat) => (fun (k : Nat) => (k ≤ L.length ∧ ((List.range L.length).drop k).all (fusI L) = d : Prop)) i) ?_ ?_
  · intro d hd
    exact ⟨(0), [L.length = L.length ∧ (rws L) = (rws L), (↑L.length : Int) = (↑L.length : Int), (0 : Int) = (↑(0 : Nat) : Int), p = p, L.length = L.length ∧ (rws L) = (rws L)], by kernel_rfl, (by refine ⟨?_, ?_, ?_, ?_, (?_ : L.length = L.length ∧ (rws L) = (rws L))⟩ <;> (first | rfl | assumption | omega | simp_all)), (by exact ⟨Nat.zero_le _, hd⟩)⟩
  · rintro d hd k hI
    cases d
    · -- d = false
      obtain ⟨hk, hs⟩ := hI
      have hk : k ≤ L.length := hk
      have hl := hL.1
      have ek : IntKind.i64.wrap ((k : Int) + 1) = ((k + 1 : Nat) : Int) := by rw [w64 (by omega) (by omega)]; omega
      refine Or.elim (Bool.eq_false_or_eq_true (decide ((↑k : Int) < (↑L.length : Int)))) (fun d1 => Or.elim (Bool.eq_false_or_eq_true (decide ((L.getD k Con.zero).oddity < (0 : Int)))) (fun d2 => ⟨[true, true], .inr ⟨[Dec (decide ((L.getD k Con.zero).oddity < (0 : Int))) true, (0 : Int) ≤ (↑k : Int) ∧ (↑k : Int) < (↑L.length : Int), Dec (decide ((↑k : Int) < (↑L.length : Int))) true], by kernel_rfl, ⟨d2, ?_, d1⟩, rfl⟩⟩)
           (fun d2 => Or.elim (Bool.eq_false_or_eq_true (decide ((L.getD k Con.zero).oddity > (7 : Int)))) (fun d3 => ⟨[true, false, true], .inr ⟨[Dec (decide ((L.getD k Con.zero).oddity > (7 : Int))) true, Dec (decide ((L.getD k Con.zero).oddity < (0 : Int))) false, (0 : Int) ≤ (↑k : Int) ∧ (↑k : Int) < (↑L.length : Int), Dec (decide ((↑k : Int) < (↑L.length : Int))) true], by kernel_rfl, ⟨d3, d2, ?_, d1⟩, rfl⟩⟩)
           (fun d3 => Or.elim (Bool.eq_false_or_eq_true ((L.getD k Con.zero).odd)) (fun d4 => Or.elim (Bool.eq_false_or_eq_true ((partM (consR L.length (rws L)) (↑k : Int)).getD (Int.toNat (0 : Int)) (0 : Int) == (↑k : Int))) (fun d5 => ⟨[true, false, false, false, true, false], .inl ⟨(k + 1), [L.length = L.length ∧ (rws L) = (rws L), (↑L.length : Int) = (↑L.length : Int), IntKind.i64.wrap ((↑k : Int) + (1 : Int)) = (↑(k + (1 : Nat)) : Int), p = p, L.length = L.length ∧ (rws L) = (rws L), Dec ((partM (consR L.length (rws L)) (↑k : Int)).getD (Int.toNat (0 : Int)) (0 : Int) != (↑k : Int)) false, (0 : Int) ≤ (0 : Int) ∧ (0 : Int) < (↑(partM (consR L.length (rws L)) (↑k : Int)).length : Int), (∀ (i : Nat), i < L.length → (rws L) i = (Con.ofR ((rws L) i)).rvs) ∧ okE (consR L.length (rws L)), Dec (L.getD k Con.zero).odd true, Dec (!(L.getD k Con.zero).odd) false, Dec (decide ((L.getD k Con.zero).oddity > (7 : Int))) false, Dec (decide ((L.getD k Con.zero).oddity < (0 : Int))) false, (0 : Int) ≤ (↑k : Int) ∧ (↑k : Int) < (↑L.length : Int), Dec (decide ((↑k : Int) < (↑L.length : Int))) true], by kernel_rfl, ⟨?_, ?_, ?_, ?_, ?_, (dN d5), ?_, ?_, d4, (dN d4), d3, d2, ?_, d1⟩, MuG.out ?_, InG.out ?_⟩⟩)
           (fun d5 => Or.elim (Bool.eq_false_or_eq_true ((L.getD k Con.zero).oddity == (0 : Int))) (fun d6 => ⟨[true, false, false, false, true, true, false], .inl ⟨(k + 1), [L.length = L.length ∧ (rws L) = (rws L), (↑L.length : Int) = (↑L.length : Int), IntKind.i64.wrap ((↑k : Int) + (1 : Int)) = (↑(k + (1 : Nat)) : Int), p = p, L.length = L.length ∧ (rws L) = (rws L), Dec ((L.getD k Con.zero).oddity != (0 : Int)) false, Dec ((partM (consR L.length (rws L)) (↑k : Int)).getD (Int.toNat (0 : Int)) (0 : Int) != (↑k : Int)) true, (0 : Int) ≤ (0 : Int) ∧ (0 : Int) < (↑(partM (consR L.length (rws L)) (↑k : Int)).length : Int), (∀ (i : Nat), i < L.length → (rws L) i = (Con.ofR ((rws L) i)).rvs) ∧ okE (consR L.length (rws L)), Dec (L.getD k Con.zero).odd true, Dec (!(L.getD k Con.zero).odd) false, Dec (decide ((L.getD k Con.zero).oddity > (7 : Int))) false, Dec (decide ((L.getD k Con.zero).oddity < (0 : Int))) false, (0 : Int) ≤ (↑k : Int) ∧ (↑k : Int) < (↑L.length : Int), Dec (decide ((↑k : Int) < (↑L.length : Int))) true], by kernel_rfl, ⟨?_, ?_, ?_, ?_, ?_, (dN d6), (dN d5), ?_, ?_, d4, (dN d4), d3, d2, ?_, d1⟩, MuG.out ?_, InG.out ?_⟩⟩)
           (fun d6 => ⟨[true, false, false, false, true, true, true], .inr ⟨[Dec ((L.getD k Con.zero).oddity != (0 : Int)) true, Dec ((partM (consR L.length (rws L)) (↑k : Int)).getD (Int.toNat (0 : Int)) (0 : Int) != (↑k : Int)) true, (0 : Int) ≤ (0 : Int) ∧ (0 : Int) < (↑(partM (consR L.length (rws L)) (↑k : Int)).length : Int), (∀ (i : Nat), i < L.length → (rws L) i = (Con.ofR ((rws L) i)).rvs) ∧ okE (consR L.length (rws L)), Dec (L.getD k Con.zero).odd true, Dec (!(L.getD k Con.zero).odd) false, Dec (decide ((L.getD k Con.zero).oddity > (7 : Int))) false, Dec (decide ((L.getD k Con.zero).oddity < (0 : Int))) false, (0 : Int) ≤ (↑k : Int) ∧ (↑k : Int) < (↑L.length : Int), Dec (decide ((↑k : Int) < (↑L.length : Int))) true], by kernel_rfl, ⟨(dN d6), (dN d5), ?_, ?_, d4, (dN d4), d3, d2, ?_, d1⟩, rfl⟩⟩)))
           (fun d4 => Or.elim (Bool.eq_false_or_eq_true ((L.getD k Con.zero).dim.tmod (2 : Int) == (0 : Int))) (fun d5 => Or.elim (Bool.eq_false_or_eq_true ((L.getD k Con.zero).oddity == (0 : Int))) (fun d6 => ⟨[true, false, false, true, false, false, false], .inl ⟨(k + 1), [L.length = L.length ∧ (rws L) = (rws L), (↑L.length : Int) = (↑L.length : Int), IntKind.i64.wrap ((↑k : Int) + (1 : Int)) = (↑(k + (1 : Nat)) : Int), p = p, L.length = L.length ∧ (rws L) = (rws L), Dec (L.getD k Con.zero).odd false, Dec ((L.getD k Con.zero).oddity != (0 : Int)) false, Dec ((L.getD k Con.zero).dim.tmod (2 : Int) != (0 : Int)) false, (2 : Int) ≠ (0 : Int), Dec (!(L.getD k Con.zero).odd) true, Dec (decide ((L.getD k Con.zero).oddity > (7 : Int))) false, Dec (decide ((L.getD k Con.zero).oddity < (0 : Int))) false, (0 : Int) ≤ (↑k : Int) ∧ (↑k : Int) < (↑L.length : Int), Dec (decide ((↑k : Int) < (↑L.length : Int))) true], by kernel_rfl, ⟨?_, ?_, ?_, ?_, ?_, d4, (dN d6), (dN d5), ?_, (dN d4), d3, d2, ?_, d1⟩, MuG.out ?_, InG.out ?_⟩⟩)
           (fun d6 => ⟨[true, false, false, true, false, true], .inr ⟨[Dec ((L.getD k Con.zero).oddity != (0 : Int)) true, Dec ((L.getD k Con.zero).dim.tmod (2 : Int) != (0 : Int)) false, (2 : Int) ≠ (0 : Int), Dec (!(L.getD k Con.zero).odd) true, Dec (decide ((L.getD k Con.zero).oddity > (7 : Int))) false, Dec (decide ((L.getD k Con.zero).oddity < (0 : Int))) false, (0 : Int) ≤ (↑k : Int) ∧ (↑k : Int) < (↑L.length : Int), Dec (decide ((↑k : Int) < (↑L.length : Int))) true], by kernel_rfl, ⟨(dN d6), (dN d5), ?_, (dN d4), d3, d2, ?_, d1⟩, rfl⟩⟩))
           (fun d5 => ⟨[true, false, false, true, true], .inr ⟨[Dec ((L.getD k Con.zero).dim.tmod (2 : Int) != (0 : Int)) true, (2 : Int) ≠ (0 : Int), Dec (!(L.getD k Con.zero).odd) true, Dec (decide ((L.getD k Con.zero).oddity > (7 : Int))) false, Dec (decide ((L.getD k Con.zero).oddity < (0 : Int))) false, (0 : Int) ≤ (↑k : Int) ∧ (↑k : Int) < (↑L.length : Int), Dec (decide ((↑k : Int) < (↑L.length : Int))) true], by kernel_rfl, ⟨(dN d5), ?_, (dN d4), d3, d2, ?_, d1⟩, rfl⟩⟩)))))
           (fun d1 => CtG.no ?_)
      all_goals first | (refine MuG.mk ?_; (simp only [decide_eq_true_eq] at *; show L.length - (k + 1) < L.length - k; omega)) | (refine InG.mk ?_; (simp only [decide_eq_true_eq, decide_eq_false_iff_not, consR_ro, Int.toNat_natCast, Int.toNat_zero, beq_iff_eq, beq_eq_false_iff_ne, ne_eq, gt_iff_lt] at *; rw [rngA_drop (by omega)] at hs; rw [show fusI L k = true from fusI_iff.2 (by simp only [at_]; refine ⟨?_, ?_, ?_⟩ <;> first | omega | (intro ho; simp_all; done) | (simp_all; done))] at hs; exact ⟨by omega, hs⟩)) | (refine CtG.mk ?_; (simp only [decide_eq_true_eq, decide_eq_false_iff_not, consR_ro, Int.toNat_natCast, Int.toNat_zero, beq_iff_eq, beq_eq_false_iff_ne, ne_eq, gt_iff_lt] at *; first | (rw [rngA_end (by omega)] at hs; cases hs; done) | (rw [rngA_drop (by omega)] at hs; rw [show fusI L k = false from fusI_no (by simp only [at_]; first | (rintro ⟨q1, q2, q3⟩; omega) | (rintro ⟨q1, q2, q3⟩; simp_all; done))] at hs; cases hs; done))) | (first | (with_reducible rfl) | exact ⟨rfl, rfl⟩ | (exact (by decide : (2 : Int) ≠ 0)) | exact ⟨fun _ _ => rfl, by rw [consR_ro]; exact hL⟩ | ((try simp only [ek, consR_ro, Int.toNat_natCast, Int.toNat_zero, decide_eq_true_eq, decide_eq_false_iff_not] at *) <;> first | omega | (have h0 := part_pos (L := L) (i := k) (by omega) (by assumption); omega)))
    · -- d = true
      obtain ⟨hk, hs⟩ := hI
      have hk : k ≤ L.length := hk
      have hl := hL.1
      have ek : IntKind.i64.wrap ((k : Int) + 1) = ((k + 1 : Nat) : Int) := by rw [w64 (by omega) (by omega)]; omega
      refine Or.elim (Bool.eq_false_or_eq_true (decide ((↑k : Int) < (↑L.length : Int)))) (fun d1 => Or.elim (Bool.eq_false_or_eq_true (decide ((L.getD k Con.zero).oddity < (0 : Int)))) (fun d2 => CtG.no ?_)
           (fun d2 => Or.elim (Bool.eq_false_or_eq_true (decide ((L.getD k Con.zero).oddity > (7 : Int)))) (fun d3 => CtG.no ?_)
           (fun d3 => Or.elim (Bool.eq_false_or_eq_true ((L.getD k Con.zero).odd)) (fun d4 => Or.elim (Bool.eq_false_or_eq_true ((partM (consR L.length (rws L)) (↑k : Int)).getD (Int.toNat (0 : Int)) (0 : Int) == (↑k : Int))) (fun d5 => ⟨[true, false, false, false, true, false], .inl ⟨(k + 1), [L.length = L.length ∧ (rws L) = (rws L), (↑L.length : Int) = (↑L.length : Int), IntKind.i64.wrap ((↑k : Int) + (1 : Int)) = (↑(k + (1 : Nat)) : Int), p = p, L.length = L.length ∧ (rws L) = (rws L), Dec ((partM (consR L.length (rws L)) (↑k : Int)).getD (Int.toNat (0 : Int)) (0 : Int) != (↑k : Int)) false, (0 : Int) ≤ (0 : Int) ∧ (0 : Int) < (↑(partM (consR L.length (rws L)) (↑k : Int)).length : Int), (∀ (i : Nat), i < L.length → (rws L) i = (Con.ofR ((rws L) i)).rvs) ∧ okE (consR L.length (rws L)), Dec (L.getD k Con.zero).odd true, Dec (!(L.getD k Con.zero).odd) false, Dec (decide ((L.getD k Con.zero).oddity > (7 : Int))) false, Dec (decide ((L.getD k Con.zero).oddity < (0 : Int))) false, (0 : Int) ≤ (↑k : Int) ∧ (↑k : Int) < (↑L.length : Int), Dec (decide ((↑k : Int) < (↑L.length : Int))) true], by kernel_rfl, ⟨?_, ?_, ?_, ?_, ?_, (dN d5), ?_, ?_, d4, (dN d4), d3, d2, ?_, d1⟩, MuG.out ?_, InG.out ?_⟩⟩)
           (fun d5 => Or.elim (Bool.eq_false_or_eq_true ((L.getD k Con.zero).oddity == (0 : Int))) (fun d6 => ⟨[true, false, false, false, true, true, false], .inl ⟨(k + 1), [L.length = L.length ∧ (rws L) = (rws L), (↑L.length : Int) = (↑L.length : Int), IntKind.i64.wrap ((↑k : Int) + (1 : Int)) = (↑(k + (1 : Nat)) : Int), p = p, L.length = L.length ∧ (rws L) = (rws L), Dec ((L.getD k Con.zero).oddity != (0 : Int)) false, Dec ((partM (consR L.length (rws L)) (↑k : Int)).getD (Int.toNat (0 : Int)) (0 : Int) != (↑k : Int)) true, (0 : Int) ≤ (0 : Int) ∧ (0 : Int) < (↑(partM (consR L.length (rws L)) (↑k : Int)).length : Int), (∀ (i : Nat), i < L.length → (rws L) i = (Con.ofR ((rws L) i)).rvs) ∧ okE (consR L.length (rws L)), Dec (L.getD k Con.zero).odd true, Dec (!(L.getD k Con.zero).odd) false, Dec (decide ((L.getD k Con.zero).oddity > (7 : Int))) false, Dec (decide ((L.getD k Con.zero).oddity < (0 : Int))) false, (0 : Int) ≤ (↑k : Int) ∧ (↑k : Int) < (↑L.length : Int), Dec (decide ((↑k : Int) < (↑L.length : Int))) true], by kernel_rfl, ⟨?_, ?_, ?_, ?_, ?_, (dN d6), (dN d5), ?_, ?_, d4, (dN d4), d3, d2, ?_, d1⟩, MuG.out ?_, InG.out ?_⟩⟩)
           (fun d6 => CtG.no ?_)))
           (fun d4 => Or.elim (Bool.eq_false_or_eq_true ((L.getD k Con.zero).dim.tmod (2 : Int) == (0 : Int))) (fun d5 => Or.elim (Bool.eq_false_or_eq_true ((L.getD k Con.zero).oddity == (0 : Int))) (fun d6 => ⟨[true, false, false, true, false, false, false], .inl ⟨(k + 1), [L.length = L.length ∧ (rws L) = (rws L), (↑L.length : Int) = (↑L.length : Int), IntKind.i64.wrap ((↑k : Int) + (1 : Int)) = (↑(k + (1 : Nat)) : Int), p = p, L.length = L.length ∧ (rws L) = (rws L), Dec (L.getD k Con.zero).odd false, Dec ((L.getD k Con.zero).oddity != (0 : Int)) false, Dec ((L.getD k Con.zero).dim.tmod (2 : Int) != (0 : Int)) false, (2 : Int) ≠ (0 : Int), Dec (!(L.getD k Con.zero).odd) true, Dec (decide ((L.getD k Con.zero).oddity > (7 : Int))) false, Dec (decide ((L.getD k Con.zero).oddity < (0 : Int))) false, (0 : Int) ≤ (↑k : Int) ∧ (↑k : Int) < (↑L.length : Int), Dec (decide ((↑k : Int) < (↑L.length : Int))) true], by kernel_rfl, ⟨?_, ?_, ?_, ?_, ?_, d4, (dN d6), (dN d5), ?_, (dN d4), d3, d2, ?_, d1⟩, MuG.out ?_, InG.out ?_⟩⟩)
           (fun d6 => CtG.no ?_))
           (fun d5 => CtG.no ?_)))))
           (fun d1 => ⟨[false], .inr ⟨[p = p, L.length = L.length ∧ (fun i => (L.getD i Con.zero).rvs) = fun i => (L.getD i Con.zero).rvs, Dec (decide ((↑k : Int) < (↑L.length : Int))) false], by kernel_rfl, ⟨?_, ?_, d1⟩, rfl⟩⟩)
      all_goals first | (refine MuG.mk ?_; (simp only [decide_eq_true_eq] at *; show L.length - (k + 1) < L.length - k; omega)) | (refine InG.mk ?_; (simp only [decide_eq_true_eq, decide_eq_false_iff_not, consR_ro, Int.toNat_natCast, Int.toNat_zero, beq_iff_eq, beq_eq_false_iff_ne, ne_eq, gt_iff_lt] at *; rw [rngA_drop (by omega)] at hs; rw [show fusI L k = true from fusI_iff.2 (by simp only [at_]; refine ⟨?_, ?_, ?_⟩ <;> first | omega | (intro ho; simp_all; done) | (simp_all; done))] at hs; exact ⟨by omega, hs⟩)) | (refine CtG.mk ?_; (simp only [decide_eq_true_eq, decide_eq_false_iff_not, consR_ro, Int.toNat_natCast, Int.toNat_zero, beq_iff_eq, beq_eq_false_iff_ne, ne_eq, gt_iff_lt] at *; first | (rw [rngA_end (by omega)] at hs; cases hs; done) | (rw [rngA_drop (by omega)] at hs; rw [show fusI L k = false from fusI_no (by simp only [at_]; first | (rintro ⟨q1, q2, q3⟩; omega) | (rintro ⟨q1, q2, q3⟩; simp_all; done))] at hs; cases hs; done))) | (first | (with_reducible rfl) | exact ⟨rfl, rfl⟩ | (exact (by decide : (2 : Int) ≠ 0)) | exact ⟨fun _ _ => rfl, by rw [consR_ro]; exact hL⟩ | ((try simp only [ek, consR_ro, Int.toNat_natCast, Int.toNat_zero, decide_eq_true_eq, decide_eq_false_iff_not] at *) <;> first | omega | (have h0 := part_pos (L := L) (i := k) (by omega) (by assumption); omega)))
noncomputable def r3T (P : List (List Int)) (j : Nat) : List (Nat × AV) := [(1, .ptr 1000 0), (71, (roR .i64 P).av), (72, .vint .i64 P.length), (73, .vint .i64 (j : Int)), (6, (rI .i64 (rowAt P j)).av)]
noncomputable def r3Ann (p : Int) (L : List Con) (P : List (List Int)) (j : Nat) : Ann := ⟨⟨r3T P j ++ [(7, .int .i64 0), (77, (rI .i64 (rowAt P j)).av), (78, .vint .i64 (rowAt P j).length), (79, .int .i64 0)], loH p L, 1020⟩, none, fun _ =>
  (.exit 4, ⟨r3T P j ++ [(7, .vint .i64 (dimR L (rowAt P j)))], loH p L, 1020⟩)⟩
set_option maxRecDepth 100000 in
theorem r3_loop (p : Int) (L : List Con) (P : List (List Int)) (j : Nat) (hL : okL L) (hr : inR L.length (rowAt P j)) (hn : (rowAt P j).length ≤ 1000) : AnnOk Tryz.prog EV.ng (Nat.max 1 Tryz.f40.ntmps) (bodyAt Tryz.f40 [0, 1, 0, 1, 1, 0, 0, 1, 1, 0, 0, 1, 0, 1, 1, 1]) (r3Ann p L P j) := by
  refine ann_of evOk (callF_ok evOk (noOrc_ok _ _) 8) none_ann (by kernel_rfl) (by kernel_rfl) (fun i : Nat × Int => (fun (t : Nat) (n : Int) => (⟨r3T P j ++ [(7, .vint .i64 n), (77, (rI .i64 (rowAt P j)).av), (78, .vint .i64 (rowAt P j).length), (79, .vint .i64 (t : Int))], loH p L, 1020⟩ : St)) i.1 i.2) (fun i : Nat × Int => (fun (t : Nat) (n : Int) => ((rowAt P j).length - t : Nat)) i.1 i.2) (fun (d : Bool) (i : Nat × Int) => (fun (t : Nat) (n : Int) => (t ≤ (rowAt P j).length ∧ n = dimR L ((rowAt P j).take t) : Prop)) i.1 i.2) ?_ ?_
  · intro d hd
    exact ⟨(0, 0), [P.length = P.length ∧ (fun i => [rI IntKind.i64 (P.getD i [])]) = fun i => [rI IntKind.i64 (P.getD i [])], (↑P.length : Int) = (↑P.length : Int), (↑j : Int) = (↑j : Int), (rowAt P j).length = (rowAt P j).length ∧ (fun j_1 => [RV.int IntKind.i64 ((rowAt P j).getD j_1 (0 : Int))]) = fun j_1 => [RV.int IntKind.i64 ((rowAt P j).getD j_1 (0 : Int))], (0 : Int) = (0 : Int), (rowAt P j).length = (rowAt P j).length ∧ (fun j_1 => [RV.int IntKind.i64 ((rowAt P j).getD j_1 (0 : Int))]) = fun j_1 => [RV.int IntKind.i64 ((rowAt P j).getD j_1 (0 : Int))], (↑(rowAt P j).length : Int) = (↑(rowAt P j).length : Int), (0 : Int) = (↑(0 : Nat) : Int), p = p, L.length = L.length ∧ (rws L) = (rws L)], by kernel_rfl, (by refine ⟨?_, ?_, ?_, ?_, ?_, ?_, ?_, ?_, ?_, (?_ : L.length = L.length ∧ (rws L) = (rws L))⟩ <;> (first | rfl | assumption | omega | simp_all)), (by exact ⟨Nat.zero_le _, rfl⟩)⟩
  · rintro d hd ⟨t, n⟩ hI
    cases d
    · -- d = false
      exact Bool.noConfusion (show false = true from hd)
    · -- d = true
      obtain ⟨ht, hs⟩ := hI
      have ht : t ≤ (rowAt P j).length := ht
      have hs : n = dimR L ((rowAt P j).take t) := hs
      have ek : IntKind.i64.wrap ((t : Int) + 1) = ((t + 1 : Nat) : Int) := by rw [w64 (by omega) (by omega)]; omega
      have hb := dimR_b hL (l := (rowAt P j).take t) (fun x hx => hr x (List.mem_of_mem_take hx))
      have hb2 : (((rowAt P j).take t).length : Int) ≤ 1000 := by simp only [List.length_take]; omega
      refine Or.elim (Bool.eq_false_or_eq_true (decide ((↑t : Int) < (↑(rowAt P j).length : Int)))) (fun d1 => ⟨[true], .inl ⟨(t + 1, n + (at_ L ((rowAt P j).getD t 0).toNat).dim), [P.length = P.length ∧ (fun i => [rI IntKind.i64 (P.getD i [])]) = fun i => [rI IntKind.i64 (P.getD i [])], (↑P.length : Int) = (↑P.length : Int), (↑j : Int) = (↑j : Int), (rowAt P j).length = (rowAt P j).length ∧ (fun j_1 => [RV.int IntKind.i64 ((rowAt P j).getD j_1 (0 : Int))]) = fun j_1 => [RV.int IntKind.i64 ((rowAt P j).getD j_1 (0 : Int))], IntKind.i64.wrap (n + (L.getD ((rowAt P j).getD t (0 : Int)).toNat Con.zero).dim) = n + (at_ L ((rowAt P j).getD t (0 : Int)).toNat).dim, (rowAt P j).length = (rowAt P j).length ∧ (fun j_1 => [RV.int IntKind.i64 ((rowAt P j).getD j_1 (0 : Int))]) = fun j_1 => [RV.int IntKind.i64 ((rowAt P j).getD j_1 (0 : Int))], (↑(rowAt P j).length : Int) = (↑(rowAt P j).length : Int), IntKind.i64.wrap ((↑t : Int) + (1 : Int)) = (↑(t + (1 : Nat)) : Int), p = p, L.length = L.length ∧ (rws L) = (rws L), (0 : Int) ≤ (rowAt P j).getD t (0 : Int) ∧ (rowAt P j).getD t (0 : Int) < (↑L.length : Int), (0 : Int) ≤ (↑t : Int) ∧ (↑t : Int) < (↑(rowAt P j).length : Int), Dec (decide ((↑t : Int) < (↑(rowAt P j).length : Int))) true], by kernel_rfl, ⟨?_, ?_, ?_, ?_, ?_, ?_, ?_, ?_, ?_, ?_, ?_, ?_, d1⟩, MuG.out ?_, InG.out ?_⟩⟩)
           (fun d1 => ⟨[false], .inr ⟨[P.length = P.length ∧ (fun i => [rI IntKind.i64 (P.getD i [])]) = fun i => [rI IntKind.i64 (P.getD i [])], (↑P.length : Int) = (↑P.length : Int), (↑j : Int) = (↑j : Int), (rowAt P j).length = (rowAt P j).length ∧ (fun j_1 => [RV.int IntKind.i64 ((rowAt P j).getD j_1 (0 : Int))]) = fun j_1 => [RV.int IntKind.i64 ((rowAt P j).getD j_1 (0 : Int))], n = dimR L (rowAt P j), p = p, L.length = L.length ∧ (rws L) = (rws L), Dec (decide ((↑t : Int) < (↑(rowAt P j).length : Int))) false], by kernel_rfl, ⟨?_, ?_, ?_, ?_, ?_, ?_, ?_, d1⟩, rfl⟩⟩)
      all_goals first | (refine MuG.mk ?_; (simp only [decide_eq_true_eq] at *; show (rowAt P j).length - (t + 1) < (rowAt P j).length - t; omega)) | (refine InG.mk ?_; (simp only [decide_eq_true_eq, decide_eq_false_iff_not, Int.toNat_natCast, gt_iff_lt] at *; exact ⟨by omega, by rw [dimR_take (by omega), hs]⟩)) | (refine CtG.mk ?_; (simp_all)) | (first | (with_reducible rfl) | exact ⟨rfl, rfl⟩ | ((try simp only [ek, Int.toNat_natCast, decide_eq_true_eq, decide_eq_false_iff_not, gt_iff_lt] at *) <;> first | omega | (have h1 := hr.at (t := t) (by omega); omega) | (have h2 := dim_b (t := t) hL hr (by omega); simp only [at_] at h2 ⊢; exact w64 (by omega) (by omega)) | (rw [hs, List.take_of_length_le (by omega)]; done)))
noncomputable def r2Ann (p : Int) (L : List Con) (P : List (List Int)) : Ann := ⟨⟨[(1, .ptr 1000 0), (71, (roR .i64 P).av), (72, .vint .i64 P.length), (73, .int .i64 0)], loH p L, 1020⟩, some (P.all (parR L)), fun d => match d with
  | true => (.exit 2, ⟨[], [], 1020⟩)
  | false => (.ret, ⟨[(2, .bool false)], [], 1020⟩)⟩
set_option maxRecDepth 100000 in
theorem r2_loop (p : Int) (L : List Con) (P : List (List Int)) (hL : okL L) (hP : ∀ l ∈ P, l ≠ [] ∧ inR L.length l ∧ l.length ≤ L.length) (hm : P.length ≤ 1000) : AnnOk Tryz.prog EV.ng (Nat.max 1 Tryz.f40.ntmps) (bodyAt Tryz.f40 [0, 1, 0, 1, 1, 1]) (r2Ann p L P) := by
  refine ann_ofI evOk (callF_ok evOk (noOrc_ok _ _) 8) (by kernel_rfl) (by kernel_rfl) (fun i : Nat => (fun (j : Nat) => (⟨[(1, .ptr 1000 0), (71, (roR .i64 P).av), (72, .vint .i64 P.length), (73, .vint .i64 (j : Int))], loH p L, 1020⟩ : St)) i) (fun i : Nat => (fun (j : Nat) => (P.length - j : Nat)) i) (fun (d : Bool) (i : Nat) => (fun (j : Nat) => (j ≤ P.length ∧ (P.drop j).all (parR L) = d : Prop)) i) (fun i : Nat => (fun (j : Nat) => ([([0, 1, 0, 1, 1, 0, 0, 1, 1, 0, 0, 1, 0, 1, 1, 1], r3Ann p L P j)] : List (List Nat × Ann))) i) ?_ ?_ ?_
  · rintro d hd j hI
    exact one_ann (r3_loop p L P j hL (by rcases Nat.lt_or_ge j P.length with h | h; exact (hP _ (rowAt_mem h)).2.1; intro x hx; simp [rowAt, h] at hx) (by have := hL.1; rcases Nat.lt_or_ge j P.length with h | h; have := (hP _ (rowAt_mem h)).2.2; omega; simp [rowAt, h]))
  · intro d hd
    exact ⟨(0), [P.length = P.length ∧ (fun i => [rI IntKind.i64 (P.getD i [])]) = fun i => [rI IntKind.i64 (P.getD i [])], (↑P.length : Int) = (↑P.length : Int), (0 : Int) = (↑(0 : Nat) : Int), p = p, L.length = L.length ∧ (rws L) = (rws L)], by kernel_rfl, (by refine ⟨?_, ?_, ?_, ?_, (?_ : L.length = L.length ∧ (rws L) = (rws L))⟩ <;> (first | rfl | assumption | omega | simp_all)), (by exact ⟨Nat.zero_le _, hd⟩)⟩
  · rintro d hd j hI
    cases d
    · -- d = false
      obtain ⟨ht, hs⟩ := hI
      have ht : j ≤ P.length := ht
      have hl1 := hL.1
      have ek : IntKind.i64.wrap ((j : Int) + 1) = ((j + 1 : Nat) : Int) := by rw [w64 (by omega) (by omega)]; omega
      refine Or.elim (Bool.eq_false_or_eq_true (decide ((↑j : Int) < (↑P.length : Int)))) (fun d1 => Or.elim (Bool.eq_false_or_eq_true ((IntKind.i64.wrap ((L.getD ((rowAt P j).getD (Int.toNat (0 : Int)) (0 : Int)).toNat Con.zero).oddity - dimR L (rowAt P j))).tmod (2 : Int) == (0 : Int))) (fun d2 => ⟨[true, false], .inl ⟨(j + 1), [P.length = P.length ∧ (fun i => [rI IntKind.i64 (P.getD i [])]) = fun i => [rI IntKind.i64 (P.getD i [])], (↑P.length : Int) = (↑P.length : Int), IntKind.i64.wrap ((↑j : Int) + (1 : Int)) = (↑(j + (1 : Nat)) : Int), p = p, L.length = L.length ∧ (rws L) = (rws L), Dec ((IntKind.i64.wrap ((L.getD ((rowAt P j).getD (Int.toNat (0 : Int)) (0 : Int)).toNat Con.zero).oddity - dimR L (rowAt P j))).tmod (2 : Int) != (0 : Int)) false, (2 : Int) ≠ (0 : Int), (0 : Int) ≤ (rowAt P j).getD (Int.toNat (0 : Int)) (0 : Int) ∧ (rowAt P j).getD (Int.toNat (0 : Int)) (0 : Int) < (↑L.length : Int), (0 : Int) ≤ (0 : Int) ∧ (0 : Int) < (↑(rowAt P j).length : Int), P.length = P.length ∧ (fun i => [rI IntKind.i64 (P.getD i [])]) = fun i => [rI IntKind.i64 (P.getD i [])], (↑P.length : Int) = (↑P.length : Int), (↑j : Int) = (↑j : Int), (P.getD j []).length = (rowAt P j).length ∧ (fun j_1 => [RV.int IntKind.i64 ((P.getD j []).getD j_1 (0 : Int))]) = fun j_1 => [RV.int IntKind.i64 ((rowAt P j).getD j_1 (0 : Int))], (P.getD j []).length = (rowAt P j).length ∧ (fun j_1 => [RV.int IntKind.i64 ((P.getD j []).getD j_1 (0 : Int))]) = fun j_1 => [RV.int IntKind.i64 ((rowAt P j).getD j_1 (0 : Int))], (↑(P.getD j []).length : Int) = (↑(rowAt P j).length : Int), p = p, L.length = L.length ∧ (rws L) = (rws L), (0 : Int) ≤ (↑j : Int) ∧ (↑j : Int) < (↑P.length : Int), Dec (decide ((↑j : Int) < (↑P.length : Int))) true], by kernel_rfl, ⟨?_, ?_, ?_, ?_, ?_, (dN d2), ?_, ?_, ?_, ?_, ?_, ?_, ?_, ?_, ?_, ?_, ?_, ?_, d1⟩, MuG.out ?_, InG.out ?_⟩⟩)
           (fun d2 => ⟨[true, true], .inr ⟨[Dec ((IntKind.i64.wrap ((L.getD ((rowAt P j).getD (Int.toNat (0 : Int)) (0 : Int)).toNat Con.zero).oddity - dimR L (rowAt P j))).tmod (2 : Int) != (0 : Int)) true, (2 : Int) ≠ (0 : Int), (0 : Int) ≤ (rowAt P j).getD (Int.toNat (0 : Int)) (0 : Int) ∧ (rowAt P j).getD (Int.toNat (0 : Int)) (0 : Int) < (↑L.length : Int), (0 : Int) ≤ (0 : Int) ∧ (0 : Int) < (↑(rowAt P j).length : Int), P.length = P.length ∧ (fun i => [rI IntKind.i64 (P.getD i [])]) = fun i => [rI IntKind.i64 (P.getD i [])], (↑P.length : Int) = (↑P.length : Int), (↑j : Int) = (↑j : Int), (P.getD j []).length = (rowAt P j).length ∧ (fun j_1 => [RV.int IntKind.i64 ((P.getD j []).getD j_1 (0 : Int))]) = fun j_1 => [RV.int IntKind.i64 ((rowAt P j).getD j_1 (0 : Int))], (P.getD j []).length = (rowAt P j).length ∧ (fun j_1 => [RV.int IntKind.i64 ((P.getD j []).getD j_1 (0 : Int))]) = fun j_1 => [RV.int IntKind.i64 ((rowAt P j).getD j_1 (0 : Int))], (↑(P.getD j []).length : Int) = (↑(rowAt P j).length : Int), p = p, L.length = L.length ∧ (rws L) = (rws L), (0 : Int) ≤ (↑j : Int) ∧ (↑j : Int) < (↑P.length : Int), Dec (decide ((↑j : Int) < (↑P.length : Int))) true], by kernel_rfl, ⟨(dN d2), ?_, ?_, ?_, ?_, ?_, ?_, ?_, ?_, ?_, ?_, ?_, ?_, d1⟩, rfl⟩⟩))
           (fun d1 => CtG.no ?_)
      all_goals first | (refine MuG.mk ?_; (simp only [decide_eq_true_eq] at *; show P.length - (j + 1) < P.length - j; omega)) | (refine InG.mk ?_; (simp only [decide_eq_true_eq, Int.toNat_natCast, Int.toNat_zero] at *; have h0 := hP _ (rowAt_mem (P := P) (t := j) (by omega)); rw [allP_drop (by omega), ← par_w hL h0.1 h0.2.1 (by omega)] at hs; refine ⟨by omega, ?_⟩; simp only [at_] at hs; rw [d2] at hs; exact hs)) | (refine CtG.mk ?_; (simp only [decide_eq_true_eq, decide_eq_false_iff_not, Int.toNat_natCast, Int.toNat_zero] at *; first | (rw [List.drop_eq_nil_of_le (by omega)] at hs; cases hs; done) | (have h0 := hP _ (rowAt_mem (P := P) (t := j) (by omega)); rw [allP_drop (by omega), ← par_w hL h0.1 h0.2.1 (by omega)] at hs; simp only [at_] at hs; rw [d2] at hs; cases hs; done))) | (first | (with_reducible rfl) | exact ⟨rfl, rfl⟩ | (exact (by decide : (2 : Int) ≠ 0)) | ((try simp only [ek, Int.toNat_natCast, Int.toNat_zero, decide_eq_true_eq, decide_eq_false_iff_not] at *) <;> first | omega | (have h0 := hP _ (rowAt_mem (P := P) (t := j) (by omega)); have h1 : 0 < (P.getD j []).length := List.length_pos_iff.2 h0.1; have h2 : 0 ≤ (P.getD j []).getD 0 0 ∧ (P.getD j []).getD 0 0 < (L.length : Int) := h0.2.1.at (t := 0) h1; have h3 : 0 < (rowAt P j).length := h1; have h4 : 0 ≤ (rowAt P j).getD 0 0 ∧ (rowAt P j).getD 0 0 < (L.length : Int) := h2; omega)))
    · -- d = true
      obtain ⟨ht, hs⟩ := hI
      have ht : j ≤ P.length := ht
      have hl1 := hL.1
      have ek : IntKind.i64.wrap ((j : Int) + 1) = ((j + 1 : Nat) : Int) := by rw [w64 (by omega) (by omega)]; omega
      refine Or.elim (Bool.eq_false_or_eq_true (decide ((↑j : Int) < (↑P.length : Int)))) (fun d1 => Or.elim (Bool.eq_false_or_eq_true ((IntKind.i64.wrap ((L.getD ((rowAt P j).getD (Int.toNat (0 : Int)) (0 : Int)).toNat Con.zero).oddity - dimR L (rowAt P j))).tmod (2 : Int) == (0 : Int))) (fun d2 => ⟨[true, false], .inl ⟨(j + 1), [P.length = P.length ∧ (fun i => [rI IntKind.i64 (P.getD i [])]) = fun i => [rI IntKind.i64 (P.getD i [])], (↑P.length : Int) = (↑P.length : Int), IntKind.i64.wrap ((↑j : Int) + (1 : Int)) = (↑(j + (1 : Nat)) : Int), p = p, L.length = L.length ∧ (rws L) = (rws L), Dec ((IntKind.i64.wrap ((L.getD ((rowAt P j).getD (Int.toNat (0 : Int)) (0 : Int)).toNat Con.zero).oddity - dimR L (rowAt P j))).tmod (2 : Int) != (0 : Int)) false, (2 : Int) ≠ (0 : Int), (0 : Int) ≤ (rowAt P j).getD (Int.toNat (0 : Int)) (0 : Int) ∧ (rowAt P j).getD (Int.toNat (0 : Int)) (0 : Int) < (↑L.length : Int), (0 : Int) ≤ (0 : Int) ∧ (0 : Int) < (↑(rowAt P j).length : Int), P.length = P.length ∧ (fun i => [rI IntKind.i64 (P.getD i [])]) = fun i => [rI IntKind.i64 (P.getD i [])], (↑P.length : Int) = (↑P.length : Int), (↑j : Int) = (↑j : Int), (P.getD j []).length = (rowAt P j).length ∧ (fun j_1 => [RV.int IntKind.i64 ((P.getD j []).getD j_1 (0 : Int))]) = fun j_1 => [RV.int IntKind.i64 ((rowAt P j).getD j_1 (0 : Int))], (P.getD j []).length = (rowAt P j).length ∧ (fun j_1 => [RV.int IntKind.i64 ((P.getD j []).getD j_1 (0 : Int))]) = fun j_1 => [RV.int IntKind.i64 ((rowAt P j).getD j_1 (0 : Int))], (↑(P.getD j []).length : Int) = (↑(rowAt P j).length : Int), p = p, L.length = L.length ∧ (rws L) = (rws L), (0 : Int) ≤ (↑j : Int) ∧ (↑j : Int) < (↑P.length : Int), Dec (decide ((↑j : Int) < (↑P.length : Int))) true], by kernel_rfl, ⟨?_, ?_, ?_, ?_, ?_, (dN d2), ?_, ?_, ?_, ?_, ?_, ?_, ?_, ?_, ?_, ?_, ?_, ?_, d1⟩, MuG.out ?_, InG.out ?_⟩⟩)
           (fun d2 => CtG.no ?_))
           (fun d1 => ⟨[false], .inr ⟨[Dec (decide ((↑j : Int) < (↑P.length : Int))) false], by kernel_rfl, d1, rfl⟩⟩)
      all_goals first | (refine MuG.mk ?_; (simp only [decide_eq_true_eq] at *; show P.length - (j + 1) < P.length - j; omega)) | (refine InG.mk ?_; (simp only [decide_eq_true_eq, Int.toNat_natCast, Int.toNat_zero] at *; have h0 := hP _ (rowAt_mem (P := P) (t := j) (by omega)); rw [allP_drop (by omega), ← par_w hL h0.1 h0.2.1 (by omega)] at hs; refine ⟨by omega, ?_⟩; simp only [at_] at hs; rw [d2] at hs; exact hs)) | (refine CtG.mk ?_; (simp only [decide_eq_true_eq, decide_eq_false_iff_not, Int.toNat_natCast, Int.toNat_zero] at *; first | (rw [List.drop_eq_nil_of_le (by omega)] at hs; cases hs; done) | (have h0 := hP _ (rowAt_mem (P := P) (t := j) (by omega)); rw [allP_drop (by omega), ← par_w hL h0.1 h0.2.1 (by omega)] at hs; simp only [at_] at hs; rw [d2] at hs; cases hs; done))) | (first | (with_reducible rfl) | exact ⟨rfl, rfl⟩ | (exact (by decide : (2 : Int) ≠ 0)) | ((try simp only [ek, Int.toNat_natCast, Int.toNat_zero, decide_eq_true_eq, decide_eq_false_iff_not] at *) <;> first | omega | (have h0 := hP _ (rowAt_mem (P := P) (t := j) (by omega)); have h1 : 0 < (P.getD j []).length := List.length_pos_iff.2 h0.1; have h2 : 0 ≤ (P.getD j []).getD 0 0 ∧ (P.getD j []).getD 0 0 < (L.length : Int) := h0.2.1.at (t := 0) h1; have h3 : 0 < (rowAt P j).length := h1; have h4 : 0 ≤ (rowAt P j).getD 0 0 ∧ (rowAt P j).getD 0 0 < (L.length : Int) := h2; omega)))
theorem ord_at {L : List Con} (h : orderV L = true) : L.length ≤ 8 ∧ ∀ c ∈ L, (0 ≤ c.exp ∧ c.exp ≤ 60) ∧ (1 ≤ c.dim ∧ c.dim ≤ 8) ∧ (c.sign = 1 ∨ c.sign = -1) := by
  rw [order_sh] at h
  simp only [Bool.and_eq_true] at h
  obtain ⟨⟨h1, h2⟩, h3⟩ := h
  obtain ⟨i1, i2, i3⟩ := sh_at (by decide) (by decide) h2
  have hne : L ≠ [] := by intro e; rw [e] at h1; cases h1
  have hd : dimS L ≤ 8 := by rcases i2 with i2 | i2; omega; exact absurd i2 hne
  refine ⟨by omega, fun c hc => ?_⟩
  have h4 := i1 c hc
  exact ⟨⟨h4.1, h4.2.1⟩, h4.2.2, of_decide_eq_true (List.all_eq_true.1 h3 c hc)⟩
theorem okE_ord {L : List Con} (h : orderV L = true) : okE L := by
  obtain ⟨h1, h2⟩ := ord_at h
  exact ⟨by omega, fun c hc => ⟨(h2 c hc).1.1, by have := (h2 c hc).1.2; omega⟩⟩
theorem okL_ord {L : List Con} (h : orderV L = true) (hf : (List.range L.length).all (fusI L) = true) : okL L := by
  obtain ⟨h1, h2⟩ := ord_at h
  refine ⟨by omega, fun c hc => ?_⟩
  obtain ⟨k, hk, rfl⟩ := List.getElem_of_mem hc
  have h3 := fusI_iff.1 (List.all_eq_true.1 hf k (by simpa using hk))
  rw [show at_ L k = L[k] by simp [at_, hk]] at h3
  have := h2 _ hc
  exact ⟨⟨this.1.1, by omega⟩, ⟨this.2.1.1, by omega⟩, this.2.2, h3.1⟩
set_option maxRecDepth 100000 in
theorem rfused_0 (p : Int) (L : List Con) (hn : L.length ≤ 1000) (h1 : orderV L = false) : PureC Tryz.prog [] 40 [.agg [.int .i64 p, roC L]] (.bool (fusM p L)) := by
  have k1 : orderV (consR L.length fun i => (L.getD i Con.zero).rvs) = false := (by rw [consR_ro]; exact h1)
  have rr := fun (tp : List Bool) (ms : List Prop) h hm => pure_run evOk (callF_ok evOk (orcOf_ok entsRF_ok) 8) Tryz.func40 (A := [.agg [.int .i64 p, roC L]]) rfl none_ann rfl rfl evNg (tabs := []) (R := .bool (fusM p L)) (tp := tp) (ms := ms) h hm
  refine Or.elim (Bool.eq_false_or_eq_true (p == (2 : Int))) (fun d1 => rr [false, true] [false = fusM p L, Dec (!orderV (consR L.length (rws L))) true, (∀ (i : Nat), i < L.length → (rws L) i = (Con.ofR ((rws L) i)).rvs) ∧ L.length ≤ (1000 : Nat), Dec (p != (2 : Int)) false] (by kernel_rfl) ⟨?_, (dN k1), ?_, (dN d1)⟩)
           (fun d1 => rr [true] [false = fusM p L, Dec (p != (2 : Int)) true] (by kernel_rfl) ⟨?_, (dN d1)⟩)
  all_goals first | (first | (with_reducible rfl) | exact ⟨rfl, rfl⟩ | exact ⟨fun _ _ => rfl, hn⟩ | (unfold fusM; rw [h1]; simp; done))
set_option maxRecDepth 100000 in
theorem rfused_1 (p : Int) (L : List Con) (hn : L.length ≤ 1000) (h1 : orderV L = true) (h2 : (List.range L.length).all (fusI L) = false) : PureC Tryz.prog [] 40 [.agg [.int .i64 p, roC L]] (.bool (fusM p L)) := by
  have k1 : orderV (consR L.length fun i => (L.getD i Con.zero).rvs) = true := (by rw [consR_ro]; exact h1)
  have rr := fun (tp : List Bool) (ms : List Prop) h hm => pure_run evOk (callF_ok evOk (orcOf_ok entsRF_ok) 8) Tryz.func40 (A := [.agg [.int .i64 p, roC L]]) (N := Nat.max 1 Tryz.f40.ntmps) rfl (one_ann (r1_loop p L (okE_ord h1))) rfl rfl evNg (tabs := []) (R := .bool (fusM p L)) (tp := tp) (ms := ms) h hm
  refine Or.elim (Bool.eq_false_or_eq_true (p == (2 : Int))) (fun d1 => rr [false, false, false] [false = fusM p L, L.length = L.length ∧ (rws L) = (rws L), (↑L.length : Int) = (↑L.length : Int), p = p, L.length = L.length ∧ (rws L) = (rws L), Dec ((List.range L.length).all (fusI L)) false, Dec (!orderV (consR L.length (rws L))) false, (∀ (i : Nat), i < L.length → (rws L) i = (Con.ofR ((rws L) i)).rvs) ∧ L.length ≤ (1000 : Nat), Dec (p != (2 : Int)) false] (by kernel_rfl) ⟨?_, ?_, ?_, ?_, ?_, h2, (dN k1), ?_, (dN d1)⟩)
           (fun d1 => rr [true] [false = fusM p L, Dec (p != (2 : Int)) true] (by kernel_rfl) ⟨?_, (dN d1)⟩)
  all_goals first | (first | (with_reducible rfl) | exact ⟨rfl, rfl⟩ | exact ⟨fun _ _ => rfl, hn⟩ | (unfold fusM; rw [h2]; simp; done))
set_option maxRecDepth 100000 in
theorem rfused_2 (p : Int) (L : List Con) (hn : L.length ≤ 1000) (h1 : orderV L = true) (h2 : (List.range L.length).all (fusI L) = true) : PureC Tryz.prog [] 40 [.agg [.int .i64 p, roC L]] (.bool (fusM p L)) := by
  have k1 : orderV (consR L.length fun i => (L.getD i Con.zero).rvs) = true := (by rw [consR_ro]; exact h1)
  have rr := fun (tp : List Bool) (ms : List Prop) h hm => pure_run evOk (callF_ok evOk (orcOf_ok entsRF_ok) 8) Tryz.func40 (A := [.agg [.int .i64 p, roC L]]) (N := Nat.max 1 Tryz.f40.ntmps) rfl (cons_ann (r1_loop p L (okE_ord h1)) (one_ann (r2_loop p L (partsM L) (okL_ord h1 h2) parts_rows (Nat.le_trans parts_len hn)))) rfl rfl evNg (tabs := []) (R := .bool (fusM p L)) (tp := tp) (ms := ms) h hm
  refine Or.elim (Bool.eq_false_or_eq_true (p == (2 : Int))) (fun d1 => Or.elim (Bool.eq_false_or_eq_true ((partsM L).all (parR L))) (fun d2 => rr [false, false, true, true] [true = fusM p L, (partsM (consR L.length (rws L))).length = (partsM L).length ∧ (fun i => [rI IntKind.i64 ((partsM (consR L.length (rws L))).getD i [])]) = fun i => [rI IntKind.i64 ((partsM L).getD i [])], (↑(partsM (consR L.length (rws L))).length : Int) = (↑(partsM L).length : Int), p = p, L.length = L.length ∧ (rws L) = (rws L), Dec ((partsM L).all (parR L)) true, (∀ (i : Nat), i < L.length → (rws L) i = (Con.ofR ((rws L) i)).rvs) ∧ okE (consR L.length (rws L)), L.length = L.length ∧ (rws L) = (rws L), (↑L.length : Int) = (↑L.length : Int), p = p, L.length = L.length ∧ (rws L) = (rws L), Dec ((List.range L.length).all (fusI L)) true, Dec (!orderV (consR L.length (rws L))) false, (∀ (i : Nat), i < L.length → (rws L) i = (Con.ofR ((rws L) i)).rvs) ∧ L.length ≤ (1000 : Nat), Dec (p != (2 : Int)) false] (by kernel_rfl) ⟨?_, ?_, ?_, ?_, ?_, d2, ?_, ?_, ?_, ?_, ?_, h2, (dN k1), ?_, (dN d1)⟩)
           (fun d2 => rr [false, false, true, false] [false = fusM p L, (partsM (consR L.length (rws L))).length = (partsM L).length ∧ (fun i => [rI IntKind.i64 ((partsM (consR L.length (rws L))).getD i [])]) = fun i => [rI IntKind.i64 ((partsM L).getD i [])], (↑(partsM (consR L.length (rws L))).length : Int) = (↑(partsM L).length : Int), p = p, L.length = L.length ∧ (rws L) = (rws L), Dec ((partsM L).all (parR L)) false, (∀ (i : Nat), i < L.length → (rws L) i = (Con.ofR ((rws L) i)).rvs) ∧ okE (consR L.length (rws L)), L.length = L.length ∧ (rws L) = (rws L), (↑L.length : Int) = (↑L.length : Int), p = p, L.length = L.length ∧ (rws L) = (rws L), Dec ((List.range L.length).all (fusI L)) true, Dec (!orderV (consR L.length (rws L))) false, (∀ (i : Nat), i < L.length → (rws L) i = (Con.ofR ((rws L) i)).rvs) ∧ L.length ≤ (1000 : Nat), Dec (p != (2 : Int)) false] (by kernel_rfl) ⟨?_, ?_, ?_, ?_, ?_, d2, ?_, ?_, ?_, ?_, ?_, h2, (dN k1), ?_, (dN d1)⟩))
           (fun d1 => rr [true] [false = fusM p L, Dec (p != (2 : Int)) true] (by kernel_rfl) ⟨?_, (dN d1)⟩)
  all_goals first | (first | (with_reducible rfl) | exact ⟨rfl, rfl⟩ | exact ⟨fun _ _ => rfl, hn⟩ | exact ⟨fun _ _ => rfl, by rw [consR_ro]; exact okE_ord h1⟩ | (rw [consR_ro]; first | done | rfl | exact ⟨rfl, rfl⟩) | (unfold fusM; rw [h1, h2]; simp_all; done))
theorem rfused_pure (p : Int) (L : List Con) (hn : L.length ≤ 1000) : PureC Tryz.prog [] 40 [.agg [.int .i64 p, roC L]] (.bool (fusM p L)) := by
  cases h1 : orderV L with
  | false => exact rfused_0 p L hn h1
  | true =>
    cases h2 : (List.range L.length).all (fusI L) with
    | false => exact rfused_1 p L hn h1 h2
    | true => exact rfused_2 p L hn h1 h2
end Go.Proofs.YtcfdaddablojlaaGreatDoor.S

namespace Go.Proofs.YtcfdaddablojlaaGreatDoor.S
open Go.QfSy Go.RowKit
end Go.Proofs.YtcfdaddablojlaaGreatDoor.S

