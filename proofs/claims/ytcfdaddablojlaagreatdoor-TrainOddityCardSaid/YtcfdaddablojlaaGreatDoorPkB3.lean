/- A part of the proof of the laws: YD, YK, TE, TG, TH, TI, RB, RC, TJ, RD, VC, YW, VD, YL, VQ, VE. -/
import Derived.Test.YtcfdaddablojlaaGreatDoorPkB2
import Derived.Test.YtcfdaddablojlaaGreatDoorPkB1
import Derived.Test.YtcfdaddablojlaaGreatDoorChecked
import Derived.WalkKit
import Derived.Lib.Hide
import Derived.Laws.Rows
import Derived.WalkMore
import Derived.Below
import Derived.BigQuiet
import Derived.Deep.QuietTactic
import Derived.Deep.RegionWith
import Derived.Deep.RegionHeld3
import Derived.Laws.StructEq
set_option linter.unusedSimpArgs false
set_option linter.unusedVariables false
/- (quadformscene.Symbol).list. -/
set_option linter.unusedSimpArgs false
set_option linter.unusedVariables false
namespace Go.Proofs.YtcfdaddablojlaaGreatDoor.S
open Go.QfSy Go.RowKit

abbrev atP (X : List Prt) (i : Nat) : Prt := X.getD i Prt.zero
theorem dropP {X : List Prt} {k : Nat} (h : k < X.length) : X.drop k = atP X k :: X.drop (k + 1) := by
  rw [List.drop_eq_getElem_cons h]
  simp [atP, h]
theorem okP {X : List Prt} (hX : ∀ p ∈ X, p.ok) (k : Nat) : (atP X k).ok := by
  unfold atP
  rcases Nat.lt_or_ge k X.length with h | h
  · have : X.getD k Prt.zero = X[k] := by simp [h]
    rw [this]
    exact hX _ (List.getElem_mem h)
  · have : X.getD k Prt.zero = Prt.zero := by simp [h]
    rw [this]
    refine ⟨?_, ?_, ?_, ?_, ?_⟩ <;> (unfold U8 Prt.zero; decide)
def expM (p : Prt) (e : Int) : Int := e + (1 + p.x0 % 4 % 3)
theorem expM_b {p : Prt} (e : Int) : e + 1 ≤ expM p e ∧ expM p e ≤ e + 3 := by unfold expM; omega
theorem raw_exp {p : Prt} (hp : p.ok) {e : Int} (h1 : -1 ≤ e) (h2 : e ≤ 1000000000) : IntKind.i64.wrap (e + IntKind.i64.wrap ((1 : Int) + ((IntKind.i64.wrap p.x0).tmod (4 : Int)).tmod (3 : Int))) = expM p e := by
  obtain ⟨⟨a, b⟩, _⟩ := hp
  rw [w64 (n := p.x0) (by omega) (by omega), Int.tmod_eq_emod_of_nonneg a, Int.tmod_eq_emod_of_nonneg (by omega)]
  unfold expM
  rw [w64 (n := 1 + p.x0 % 4 % 3) (by omega) (by omega), w64 (by omega) (by omega)]

noncomputable def listM (most : Int) (two : Bool) : List Prt → Int → Int → List Con
  | [], _, _ => []
  | p :: X, e, n => if n ≥ most then [] else conM p (expM p e) (most - n) two :: listM most two X (expM p e) (n + dimM p (most - n))
noncomputable def listF (most : Int) (two : Bool) (X : List Prt) : List Con := listM most two X (-1) 0
noncomputable def listV (most : Int) (two : Bool) (X : List Prt) : List Con := bif (listF most two X).isEmpty then [conM Prt.zero 0 1 two] else listF most two X

noncomputable def entsC : List OEnt := [
  ⟨80, [], fun A => match A with
    | [.agg [.int .u8 x0, .int .u8 x1, .int .u8 x2, .int .u8 x3, .int .u8 x4], .int .i64 e, .int .i64 r, .bool two] => some (.agg (conM ⟨x0, x1, x2, x3, x4⟩ e r two).rvs, [(⟨x0, x1, x2, x3, x4⟩ : Prt).ok ∧ 1 ≤ r ∧ r ≤ 100])
    | _ => none⟩]
theorem entsC_ok : ∀ e ∈ entsC, EntOk Tryz.prog e := by
  intro e he
  simp only [entsC, List.mem_cons, List.not_mem_nil, or_false] at he
  subst he
  intro A R ms h hm
  simp only at h
  split at h
  · cases h
    obtain ⟨h1, h2, h3⟩ := all_one hm
    exact constituentF _ _ _ _ h1 h2 h3
  · cases h

noncomputable def listA (most : Int) (two : Bool) (X : List Prt) : Ann := ⟨⟨[(1, .vint .i64 most), (2, .vbool two), (7, .nils), (8, .int .i64 (-1)), (9, .int .i64 0), (14, (roP X).av), (15, .vint .i64 X.length), (16, .int .i64 0)], [], 1001⟩, some (listF most two X).isEmpty, fun d => match d with
  | true => (.exit 0, ⟨[(2, .vbool two), (7, .nils), (9, .int .i64 0)], [], 1001⟩)
  | false => (.exit 0, ⟨[(2, .vbool two), (7, .lo 1001 (listF most two X).length), (9, .vint .i64 (dimS (listF most two X)))], [(1001, ⟨.con (listF most two X), 49, 5, true, true⟩)], 1002⟩)⟩
noncomputable def listS (most : Int) (two : Bool) (X : List Prt) : Nat × Int × Int × List Con → St
  | (k, e, n, []) => ⟨[(1, .vint .i64 most), (2, .vbool two), (7, .nils), (8, .vint .i64 e), (9, .vint .i64 n), (14, (roP X).av), (15, .vint .i64 X.length), (16, .vint .i64 (k : Int))], [], 1002⟩
  | (k, e, n, c :: l) => ⟨[(1, .vint .i64 most), (2, .vbool two), (7, .lo 1001 (l.length + 1)), (8, .vint .i64 e), (9, .vint .i64 n), (14, (roP X).av), (15, .vint .i64 X.length), (16, .vint .i64 (k : Int))], [(1001, ⟨.con (c :: l), 49, 5, true, true⟩)], 1002⟩

theorem dimS_nonneg {L : List Con} (h : ∀ c ∈ L, 1 ≤ c.dim) : 0 ≤ dimS L ∧ (L ≠ [] → 1 ≤ dimS L) := by
  induction L with
  | nil => simp [dimS]
  | cons c l ih =>
    have h1 := h c (by simp)
    have h2 := (ih (fun x hx => h x (by simp [hx]))).1
    simp only [dimS]
    exact ⟨by omega, fun _ => by omega⟩

/-- What holds at the head of the loop. -/
def listI (most : Int) (two : Bool) (X : List Prt) (i : Nat × Int × Int × List Con) : Prop :=
  i.1 ≤ X.length ∧ -1 ≤ i.2.1 ∧ i.2.1 ≤ 3 * (i.1 : Int) ∧ 0 ≤ i.2.2.1 ∧ i.2.2.1 ≤ most ∧ i.2.2.1 = dimS i.2.2.2 ∧ i.2.2.2.length ≤ i.1 ∧ (∀ c ∈ i.2.2.2, 1 ≤ c.dim) ∧ i.2.2.2 ++ listM most two (X.drop i.1) i.2.1 i.2.2.1 = listF most two X
theorem listI_next {most : Int} {two : Bool} {X : List Prt} (hX : ∀ p ∈ X, p.ok) {k : Nat} {e n : Int} {acc : List Con} (h : listI most two X (k, e, n, acc)) (hk : k < X.length) (hn : n < most) :
    listI most two X (k + 1, expM (atP X k) e, n + dimM (atP X k) (most - n), acc ++ [conM (atP X k) (expM (atP X k) e) (most - n) two]) := by
  obtain ⟨a1, a2, a3, a4, a5, a6, a7, a8, a9⟩ := h
  simp only at a1 a2 a3 a4 a5 a6 a7 a8 a9
  have hb := expM_b (p := atP X k) e
  have hd := dimM_b (okP hX k) (r := most - n) (by omega)
  refine ⟨hk, ?_, ?_, ?_, ?_, ?_, ?_, ?_, ?_⟩
  · show -1 ≤ expM (atP X k) e
    omega
  · show expM (atP X k) e ≤ 3 * ((k + 1 : Nat) : Int)
    omega
  · show 0 ≤ n + dimM (atP X k) (most - n)
    omega
  · show n + dimM (atP X k) (most - n) ≤ most
    omega
  · show n + dimM (atP X k) (most - n) = dimS (acc ++ [_])
    rw [dimS_append, ← a6]
    simp [dimS, conM]
  · show (acc ++ [_]).length ≤ k + 1
    simp; omega
  · intro c hc
    rcases List.mem_append.1 hc with hc | hc
    · exact a8 c hc
    · rw [List.mem_singleton.1 hc]; exact hd.1
  · show (acc ++ [_]) ++ listM most two (X.drop (k + 1)) (expM (atP X k) e) (n + dimM (atP X k) (most - n)) = _
    rw [← a9, dropP hk]
    simp only [listM]
    rw [if_neg (by omega)]
    simp
theorem listI_end {most : Int} {two : Bool} {X : List Prt} {k : Nat} {e n : Int} {acc : List Con} (h : listI most two X (k, e, n, acc)) (hk : X.length ≤ k ∨ most ≤ n) : acc = listF most two X := by
  obtain ⟨a1, a2, a3, a4, a5, a6, a7, a8, a9⟩ := h
  simp only at a9
  rw [← a9]
  have : listM most two (X.drop k) e n = [] := by
    rcases hk with hk | hk
    · rw [List.drop_eq_nil_of_le hk]; rfl
    · cases hd : X.drop k with
      | nil => rfl
      | cons p l => simp only [listM]; rw [if_pos (by omega)]
  rw [this]; simp

set_option maxRecDepth 100000 in
theorem list_loop (most : Int) (two : Bool) (X : List Prt) (hX : ∀ p ∈ X, p.ok) (hm1 : 1 ≤ most) (hm2 : most ≤ 100) (hn : X.length ≤ 1000) : AnnOk Tryz.prog EV.ng (Nat.max 3 Tryz.f59.ntmps) (bodyAt Tryz.f59 [0, 1, 0, 1, 1, 1]) (listA most two X) := by
  refine ann_of evOk (callF_ok evOk (orcOf_ok entsC_ok) 8) none_ann (by kernel_rfl) (by kernel_rfl) (listS most two X) (fun i => X.length - i.1) (fun d i => listI most two X i ∧ d = (listF most two X).isEmpty) ?_ ?_
  · intro d hd
    exact ⟨(0, -1, 0, []), [most = most, two = two, (-1 : Int) = (-1 : Int), (0 : Int) = (0 : Int), X.length = X.length ∧ (fun i => (X.getD i Prt.zero).rvs) = fun i => (X.getD i Prt.zero).rvs, (↑X.length : Int) = (↑X.length : Int), (0 : Int) = (↑(0 : Nat) : Int)], by kernel_rfl, (by refine ⟨?_, ?_, ?_, ?_, ?_, ?_, (?_ : (0 : Int) = (↑(0 : Nat) : Int))⟩ <;> (first | rfl | assumption | omega | simp_all)), (by exact ⟨⟨Nat.zero_le _, by decide, by decide, by decide, by show (0 : Int) ≤ most; omega, rfl, Nat.le_refl _, by simp, rfl⟩, hd.symm⟩)⟩
  · rintro d hd ⟨k, e, n, acc⟩ hI
    cases d
    · -- d = false
      obtain ⟨hI, hD⟩ := hI
      have hI' := hI
      obtain ⟨a1, a2, a3, a4, a5, a6, a7, a8, a9⟩ := hI'
      simp only at a1 a2 a3 a4 a5 a6 a7 a8 a9
      have er := raw_exp (okP hX k) (e := e) (by omega) (by omega)
      have ek : IntKind.i64.wrap ((k : Int) + 1) = ((k + 1 : Nat) : Int) := by rw [w64 (by omega) (by omega)]; omega
      have em : IntKind.i64.wrap (most - n) = most - n := w64 (by omega) (by omega)
      have hempty : ∀ a, a = listF most two X → a.isEmpty = (listF most two X).isEmpty := fun a h => by rw [h]
      rcases acc with _ | ⟨c, l⟩
      · -- 1
        refine Or.elim (Bool.eq_false_or_eq_true (decide ((↑k : Int) < (↑X.length : Int)))) (fun d1 => Or.elim (Bool.eq_false_or_eq_true (decide (n ≥ most))) (fun d2 => CtG.no ?_)
           (fun d2 => ⟨[true, false], .inl ⟨(k + 1, expM (atP X k) e, n + dimM (atP X k) (most - n), [conM (atP X k) (expM (atP X k) e) (most - n) two]), [most = most, two = two, (1 : Nat) = (0 : Nat) + (1 : Nat), IntKind.i64.wrap (e + IntKind.i64.wrap ((1 : Int) + ((IntKind.i64.wrap (X.getD k Prt.zero).x0).tmod (4 : Int)).tmod (3 : Int))) = expM (atP X k) e, IntKind.i64.wrap (n + (conM (X.getD k Prt.zero) (IntKind.i64.wrap (e + IntKind.i64.wrap ((1 : Int) + ((IntKind.i64.wrap (X.getD k Prt.zero).x0).tmod (4 : Int)).tmod (3 : Int)))) (IntKind.i64.wrap (most - n)) two).dim) = n + dimM (atP X k) (most - n), X.length = X.length ∧ (fun i => (X.getD i Prt.zero).rvs) = fun i => (X.getD i Prt.zero).rvs, (↑X.length : Int) = (↑X.length : Int), IntKind.i64.wrap ((↑k : Int) + (1 : Int)) = (↑(k + (1 : Nat)) : Int), [conM (X.getD k Prt.zero) (IntKind.i64.wrap (e + IntKind.i64.wrap ((1 : Int) + ((IntKind.i64.wrap (X.getD k Prt.zero).x0).tmod (4 : Int)).tmod (3 : Int)))) (IntKind.i64.wrap (most - n)) two] = [conM (atP X k) (expM (atP X k) e) (most - n) two], (0 : Nat) < (1 : Nat) ∧ (1 : Nat) ≤ (1000000 : Nat), (X.getD k Prt.zero).ok ∧ (1 : Int) ≤ IntKind.i64.wrap (most - n) ∧ IntKind.i64.wrap (most - n) ≤ (100 : Int), (3 : Int) ≠ (0 : Int), (4 : Int) ≠ (0 : Int), Dec (decide (n ≥ most)) false, (0 : Int) ≤ (↑k : Int) ∧ (↑k : Int) < (↑X.length : Int), Dec (decide ((↑k : Int) < (↑X.length : Int))) true], by kernel_rfl, ⟨?_, ?_, ?_, ?_, ?_, ?_, ?_, ?_, ?_, ?_, ?_, ?_, ?_, d2, ?_, d1⟩, MuG.out ?_, InG.out ?_⟩⟩))
           (fun d1 => CtG.no ?_)
        all_goals first | (refine MuG.mk ?_; (simp only [decide_eq_true_eq, decide_eq_false_iff_not] at *; show X.length - (k + 1) < X.length - k; omega)) | (refine InG.mk ?_; (simp only [decide_eq_true_eq, decide_eq_false_iff_not] at *; exact ⟨listI_next hX hI (by omega) (by omega), hD⟩)) | (refine CtG.mk ?_; (simp only [decide_eq_true_eq, decide_eq_false_iff_not] at *; have := hempty _ (listI_end hI (by omega)); rw [← hD] at this; cases this)) | (first | rfl | exact ⟨rfl, rfl⟩ | ((try simp only [Int.toNat_natCast, er, em, ek, decide_eq_true_eq, decide_eq_false_iff_not, View.num] at *) <;> first | omega | exact a6 | exact ⟨okP hX k, by omega, by omega⟩ | (have hdm := dimM_b (okP hX k) (r := most - n) (by omega); show IntKind.i64.wrap (n + dimM (atP X k) (most - n)) = _; rw [w64 (by omega) (by omega)]) | (rw [← listI_end hI (by omega)]; rfl) | (have := listI_end hI (by omega); simp_all; done) | (rw [a6]; rw [listI_end hI (by omega)]; done) | (simp at a7 ⊢; omega) | rfl | simp))
      · -- 2
        refine Or.elim (Bool.eq_false_or_eq_true (decide ((↑k : Int) < (↑X.length : Int)))) (fun d1 => Or.elim (Bool.eq_false_or_eq_true (decide (n ≥ most))) (fun d2 => ⟨[true, true], .inr ⟨[two = two, l.length + (1 : Nat) = (listF most two X).length, n = dimS (listF most two X), c :: l = listF most two X, Dec (decide (n ≥ most)) true, (0 : Int) ≤ (↑k : Int) ∧ (↑k : Int) < (↑X.length : Int), Dec (decide ((↑k : Int) < (↑X.length : Int))) true], by kernel_rfl, ⟨?_, ?_, ?_, ?_, d2, ?_, d1⟩, rfl⟩⟩)
           (fun d2 => ⟨[true, false], .inl ⟨(k + 1, expM (atP X k) e, n + dimM (atP X k) (most - n), c :: (l ++ [conM (atP X k) (expM (atP X k) e) (most - n) two])), [most = most, two = two, l.length + (1 : Nat) + (1 : Nat) = (l ++ [conM (atP X k) (expM (atP X k) e) (most - n) two]).length + (1 : Nat), IntKind.i64.wrap (e + IntKind.i64.wrap ((1 : Int) + ((IntKind.i64.wrap (X.getD k Prt.zero).x0).tmod (4 : Int)).tmod (3 : Int))) = expM (atP X k) e, IntKind.i64.wrap (n + (conM (X.getD k Prt.zero) (IntKind.i64.wrap (e + IntKind.i64.wrap ((1 : Int) + ((IntKind.i64.wrap (X.getD k Prt.zero).x0).tmod (4 : Int)).tmod (3 : Int)))) (IntKind.i64.wrap (most - n)) two).dim) = n + dimM (atP X k) (most - n), X.length = X.length ∧ (fun i => (X.getD i Prt.zero).rvs) = fun i => (X.getD i Prt.zero).rvs, (↑X.length : Int) = (↑X.length : Int), IntKind.i64.wrap ((↑k : Int) + (1 : Int)) = (↑(k + (1 : Nat)) : Int), c :: l ++ [conM (X.getD k Prt.zero) (IntKind.i64.wrap (e + IntKind.i64.wrap ((1 : Int) + ((IntKind.i64.wrap (X.getD k Prt.zero).x0).tmod (4 : Int)).tmod (3 : Int)))) (IntKind.i64.wrap (most - n)) two] = c :: (l ++ [conM (atP X k) (expM (atP X k) e) (most - n) two]), (View.con (c :: l)).num = l.length + (1 : Nat) ∧ l.length + (1 : Nat) + (1 : Nat) ≤ (1000000 : Nat), (X.getD k Prt.zero).ok ∧ (1 : Int) ≤ IntKind.i64.wrap (most - n) ∧ IntKind.i64.wrap (most - n) ≤ (100 : Int), (3 : Int) ≠ (0 : Int), (4 : Int) ≠ (0 : Int), Dec (decide (n ≥ most)) false, (0 : Int) ≤ (↑k : Int) ∧ (↑k : Int) < (↑X.length : Int), Dec (decide ((↑k : Int) < (↑X.length : Int))) true], by kernel_rfl, ⟨?_, ?_, ?_, ?_, ?_, ?_, ?_, ?_, ?_, ?_, ?_, ?_, ?_, d2, ?_, d1⟩, MuG.out ?_, InG.out ?_⟩⟩))
           (fun d1 => ⟨[false], .inr ⟨[two = two, l.length + (1 : Nat) = (listF most two X).length, n = dimS (listF most two X), c :: l = listF most two X, Dec (decide ((↑k : Int) < (↑X.length : Int))) false], by kernel_rfl, ⟨?_, ?_, ?_, ?_, d1⟩, rfl⟩⟩)
        all_goals first | (refine MuG.mk ?_; (simp only [decide_eq_true_eq, decide_eq_false_iff_not] at *; show X.length - (k + 1) < X.length - k; omega)) | (refine InG.mk ?_; (simp only [decide_eq_true_eq, decide_eq_false_iff_not] at *; exact ⟨listI_next hX hI (by omega) (by omega), hD⟩)) | (refine CtG.mk ?_; (simp only [decide_eq_true_eq, decide_eq_false_iff_not] at *; have := hempty _ (listI_end hI (by omega)); rw [← hD] at this; cases this)) | (first | rfl | exact ⟨rfl, rfl⟩ | ((try simp only [Int.toNat_natCast, er, em, ek, decide_eq_true_eq, decide_eq_false_iff_not, View.num] at *) <;> first | omega | exact a6 | exact ⟨okP hX k, by omega, by omega⟩ | (have hdm := dimM_b (okP hX k) (r := most - n) (by omega); show IntKind.i64.wrap (n + dimM (atP X k) (most - n)) = _; rw [w64 (by omega) (by omega)]) | (rw [← listI_end hI (by omega)]; rfl) | (have := listI_end hI (by omega); simp_all; done) | (rw [a6]; rw [listI_end hI (by omega)]; done) | (simp at a7 ⊢; omega) | rfl | simp))
    · -- d = true
      obtain ⟨hI, hD⟩ := hI
      have hI' := hI
      obtain ⟨a1, a2, a3, a4, a5, a6, a7, a8, a9⟩ := hI'
      simp only at a1 a2 a3 a4 a5 a6 a7 a8 a9
      have er := raw_exp (okP hX k) (e := e) (by omega) (by omega)
      have ek : IntKind.i64.wrap ((k : Int) + 1) = ((k + 1 : Nat) : Int) := by rw [w64 (by omega) (by omega)]; omega
      have em : IntKind.i64.wrap (most - n) = most - n := w64 (by omega) (by omega)
      have hempty : ∀ a, a = listF most two X → a.isEmpty = (listF most two X).isEmpty := fun a h => by rw [h]
      rcases acc with _ | ⟨c, l⟩
      · -- 1
        refine Or.elim (Bool.eq_false_or_eq_true (decide ((↑k : Int) < (↑X.length : Int)))) (fun d1 => Or.elim (Bool.eq_false_or_eq_true (decide (n ≥ most))) (fun d2 => ⟨[true, true], .inr ⟨[two = two, n = (0 : Int), Dec (decide (n ≥ most)) true, (0 : Int) ≤ (↑k : Int) ∧ (↑k : Int) < (↑X.length : Int), Dec (decide ((↑k : Int) < (↑X.length : Int))) true], by kernel_rfl, ⟨?_, ?_, d2, ?_, d1⟩, rfl⟩⟩)
           (fun d2 => ⟨[true, false], .inl ⟨(k + 1, expM (atP X k) e, n + dimM (atP X k) (most - n), [conM (atP X k) (expM (atP X k) e) (most - n) two]), [most = most, two = two, (1 : Nat) = (0 : Nat) + (1 : Nat), IntKind.i64.wrap (e + IntKind.i64.wrap ((1 : Int) + ((IntKind.i64.wrap (X.getD k Prt.zero).x0).tmod (4 : Int)).tmod (3 : Int))) = expM (atP X k) e, IntKind.i64.wrap (n + (conM (X.getD k Prt.zero) (IntKind.i64.wrap (e + IntKind.i64.wrap ((1 : Int) + ((IntKind.i64.wrap (X.getD k Prt.zero).x0).tmod (4 : Int)).tmod (3 : Int)))) (IntKind.i64.wrap (most - n)) two).dim) = n + dimM (atP X k) (most - n), X.length = X.length ∧ (fun i => (X.getD i Prt.zero).rvs) = fun i => (X.getD i Prt.zero).rvs, (↑X.length : Int) = (↑X.length : Int), IntKind.i64.wrap ((↑k : Int) + (1 : Int)) = (↑(k + (1 : Nat)) : Int), [conM (X.getD k Prt.zero) (IntKind.i64.wrap (e + IntKind.i64.wrap ((1 : Int) + ((IntKind.i64.wrap (X.getD k Prt.zero).x0).tmod (4 : Int)).tmod (3 : Int)))) (IntKind.i64.wrap (most - n)) two] = [conM (atP X k) (expM (atP X k) e) (most - n) two], (0 : Nat) < (1 : Nat) ∧ (1 : Nat) ≤ (1000000 : Nat), (X.getD k Prt.zero).ok ∧ (1 : Int) ≤ IntKind.i64.wrap (most - n) ∧ IntKind.i64.wrap (most - n) ≤ (100 : Int), (3 : Int) ≠ (0 : Int), (4 : Int) ≠ (0 : Int), Dec (decide (n ≥ most)) false, (0 : Int) ≤ (↑k : Int) ∧ (↑k : Int) < (↑X.length : Int), Dec (decide ((↑k : Int) < (↑X.length : Int))) true], by kernel_rfl, ⟨?_, ?_, ?_, ?_, ?_, ?_, ?_, ?_, ?_, ?_, ?_, ?_, ?_, d2, ?_, d1⟩, MuG.out ?_, InG.out ?_⟩⟩))
           (fun d1 => ⟨[false], .inr ⟨[two = two, n = (0 : Int), Dec (decide ((↑k : Int) < (↑X.length : Int))) false], by kernel_rfl, ⟨?_, ?_, d1⟩, rfl⟩⟩)
        all_goals first | (refine MuG.mk ?_; (simp only [decide_eq_true_eq, decide_eq_false_iff_not] at *; show X.length - (k + 1) < X.length - k; omega)) | (refine InG.mk ?_; (simp only [decide_eq_true_eq, decide_eq_false_iff_not] at *; exact ⟨listI_next hX hI (by omega) (by omega), hD⟩)) | (refine CtG.mk ?_; (simp only [decide_eq_true_eq, decide_eq_false_iff_not] at *; have := hempty _ (listI_end hI (by omega)); rw [← hD] at this; cases this)) | (first | rfl | exact ⟨rfl, rfl⟩ | ((try simp only [Int.toNat_natCast, er, em, ek, decide_eq_true_eq, decide_eq_false_iff_not, View.num] at *) <;> first | omega | exact a6 | exact ⟨okP hX k, by omega, by omega⟩ | (have hdm := dimM_b (okP hX k) (r := most - n) (by omega); show IntKind.i64.wrap (n + dimM (atP X k) (most - n)) = _; rw [w64 (by omega) (by omega)]) | (rw [← listI_end hI (by omega)]; rfl) | (have := listI_end hI (by omega); simp_all; done) | (rw [a6]; rw [listI_end hI (by omega)]; done) | (simp at a7 ⊢; omega) | rfl | simp))
      · -- 2
        refine Or.elim (Bool.eq_false_or_eq_true (decide ((↑k : Int) < (↑X.length : Int)))) (fun d1 => Or.elim (Bool.eq_false_or_eq_true (decide (n ≥ most))) (fun d2 => CtG.no ?_)
           (fun d2 => ⟨[true, false], .inl ⟨(k + 1, expM (atP X k) e, n + dimM (atP X k) (most - n), c :: (l ++ [conM (atP X k) (expM (atP X k) e) (most - n) two])), [most = most, two = two, l.length + (1 : Nat) + (1 : Nat) = (l ++ [conM (atP X k) (expM (atP X k) e) (most - n) two]).length + (1 : Nat), IntKind.i64.wrap (e + IntKind.i64.wrap ((1 : Int) + ((IntKind.i64.wrap (X.getD k Prt.zero).x0).tmod (4 : Int)).tmod (3 : Int))) = expM (atP X k) e, IntKind.i64.wrap (n + (conM (X.getD k Prt.zero) (IntKind.i64.wrap (e + IntKind.i64.wrap ((1 : Int) + ((IntKind.i64.wrap (X.getD k Prt.zero).x0).tmod (4 : Int)).tmod (3 : Int)))) (IntKind.i64.wrap (most - n)) two).dim) = n + dimM (atP X k) (most - n), X.length = X.length ∧ (fun i => (X.getD i Prt.zero).rvs) = fun i => (X.getD i Prt.zero).rvs, (↑X.length : Int) = (↑X.length : Int), IntKind.i64.wrap ((↑k : Int) + (1 : Int)) = (↑(k + (1 : Nat)) : Int), c :: l ++ [conM (X.getD k Prt.zero) (IntKind.i64.wrap (e + IntKind.i64.wrap ((1 : Int) + ((IntKind.i64.wrap (X.getD k Prt.zero).x0).tmod (4 : Int)).tmod (3 : Int)))) (IntKind.i64.wrap (most - n)) two] = c :: (l ++ [conM (atP X k) (expM (atP X k) e) (most - n) two]), (View.con (c :: l)).num = l.length + (1 : Nat) ∧ l.length + (1 : Nat) + (1 : Nat) ≤ (1000000 : Nat), (X.getD k Prt.zero).ok ∧ (1 : Int) ≤ IntKind.i64.wrap (most - n) ∧ IntKind.i64.wrap (most - n) ≤ (100 : Int), (3 : Int) ≠ (0 : Int), (4 : Int) ≠ (0 : Int), Dec (decide (n ≥ most)) false, (0 : Int) ≤ (↑k : Int) ∧ (↑k : Int) < (↑X.length : Int), Dec (decide ((↑k : Int) < (↑X.length : Int))) true], by kernel_rfl, ⟨?_, ?_, ?_, ?_, ?_, ?_, ?_, ?_, ?_, ?_, ?_, ?_, ?_, d2, ?_, d1⟩, MuG.out ?_, InG.out ?_⟩⟩))
           (fun d1 => CtG.no ?_)
        all_goals first | (refine MuG.mk ?_; (simp only [decide_eq_true_eq, decide_eq_false_iff_not] at *; show X.length - (k + 1) < X.length - k; omega)) | (refine InG.mk ?_; (simp only [decide_eq_true_eq, decide_eq_false_iff_not] at *; exact ⟨listI_next hX hI (by omega) (by omega), hD⟩)) | (refine CtG.mk ?_; (simp only [decide_eq_true_eq, decide_eq_false_iff_not] at *; have := hempty _ (listI_end hI (by omega)); rw [← hD] at this; cases this)) | (first | rfl | exact ⟨rfl, rfl⟩ | ((try simp only [Int.toNat_natCast, er, em, ek, decide_eq_true_eq, decide_eq_false_iff_not, View.num] at *) <;> first | omega | exact a6 | exact ⟨okP hX k, by omega, by omega⟩ | (have hdm := dimM_b (okP hX k) (r := most - n) (by omega); show IntKind.i64.wrap (n + dimM (atP X k) (most - n)) = _; rw [w64 (by omega) (by omega)]) | (rw [← listI_end hI (by omega)]; rfl) | (have := listI_end hI (by omega); simp_all; done) | (rw [a6]; rw [listI_end hI (by omega)]; done) | (simp at a7 ⊢; omega) | rfl | simp))
theorem listM_dims {most : Int} {two : Bool} {X : List Prt} (hX : ∀ p ∈ X, p.ok) : ∀ {e n : Int}, ∀ c ∈ listM most two X e n, 1 ≤ c.dim := by
  induction X with
  | nil => intro e n c hc; simp [listM] at hc
  | cons p l ih =>
    intro e n c hc
    simp only [listM] at hc
    split at hc
    · simp at hc
    · rcases List.mem_cons.1 hc with hc | hc
      · rw [hc]; exact (dimM_b (hX p (by simp)) (r := most - n) (by omega)).1
      · exact ih (fun x hx => hX x (by simp [hx])) c hc
theorem listF_pos {most : Int} {two : Bool} {X : List Prt} (hX : ∀ p ∈ X, p.ok) (h : (listF most two X).isEmpty = false) : 1 ≤ dimS (listF most two X) := by
  refine (dimS_nonneg (listM_dims hX)).2 ?_
  intro h0
  unfold listF at h
  rw [h0] at h
  cases h

set_option maxRecDepth 100000 in
theorem list_pure (pr : Int) (X : List Prt) (most : Int) (two : Bool) (hX : ∀ p ∈ X, p.ok) (hm1 : 1 ≤ most) (hm2 : most ≤ 100) (hn : X.length ≤ 1000) : PureC Tryz.prog [] 59 [.agg [.int .u8 pr, roP X], .int .i64 most, .bool two] (roC (listV most two X)) := by
  have rr := fun (tp : List Bool) (ms : List Prop) h hm => pure_run evOk (callF_ok evOk (orcOf_ok entsC_ok) 8) Tryz.func59 (A := [.agg [.int .u8 pr, roP X], .int .i64 most, .bool two]) (N := Nat.max 1 Tryz.f59.ntmps) rfl (one_ann (list_loop most two X hX hm1 hm2 hn)) rfl rfl evNg (tabs := []) (R := roC (listV most two X)) (tp := tp) (ms := ms) h hm
  refine Or.elim (Bool.eq_false_or_eq_true ((listF most two X).isEmpty)) (fun d1 => rr [true] [(1 : Nat) = (listV most two X).length ∧ (1 : Nat) = [conM (Prt.mk (0 : Int) (0 : Int) (0 : Int) (0 : Int) (0 : Int)) (0 : Int) (1 : Int) two].length ∧ ∀ (i : Nat), i < (1 : Nat) → (fun i => ((listV most two X).getD i Con.zero).rvs) i = ([conM (Prt.mk (0 : Int) (0 : Int) (0 : Int) (0 : Int) (0 : Int)) (0 : Int) (1 : Int) two].getD i Con.zero).rvs, (0 : Nat) < (1 : Nat) ∧ (1 : Nat) ≤ (1000000 : Nat), (Prt.mk (0 : Int) (0 : Int) (0 : Int) (0 : Int) (0 : Int)).ok ∧ (1 : Int) ≤ (1 : Int) ∧ (1 : Int) ≤ (100 : Int), most = most, two = two, X.length = X.length ∧ (fun i => (X.getD i Prt.zero).rvs) = fun i => (X.getD i Prt.zero).rvs, (↑X.length : Int) = (↑X.length : Int), Dec (listF most two X).isEmpty true] (by kernel_rfl) ⟨?_, ?_, ?_, ?_, ?_, ?_, ?_, d1⟩)
           (fun d1 => Or.elim (Bool.eq_false_or_eq_true (dimS (listF most two X) == (0 : Int))) (fun d2 => rr [false, true] [(listF most two X).length + (1 : Nat) = (listV most two X).length ∧ (listF most two X).length + (1 : Nat) = (listF most two X ++ [conM (Prt.mk (0 : Int) (0 : Int) (0 : Int) (0 : Int) (0 : Int)) (0 : Int) (1 : Int) two]).length ∧ ∀ (i : Nat), i < (listF most two X).length + (1 : Nat) → (fun i => ((listV most two X).getD i Con.zero).rvs) i = ((listF most two X ++ [conM (Prt.mk (0 : Int) (0 : Int) (0 : Int) (0 : Int) (0 : Int)) (0 : Int) (1 : Int) two]).getD i Con.zero).rvs, (View.con (listF most two X)).num = (listF most two X).length ∧ (listF most two X).length + (1 : Nat) ≤ (1000000 : Nat), (Prt.mk (0 : Int) (0 : Int) (0 : Int) (0 : Int) (0 : Int)).ok ∧ (1 : Int) ≤ (1 : Int) ∧ (1 : Int) ≤ (100 : Int), Dec (dimS (listF most two X) == (0 : Int)) true, most = most, two = two, X.length = X.length ∧ (fun i => (X.getD i Prt.zero).rvs) = fun i => (X.getD i Prt.zero).rvs, (↑X.length : Int) = (↑X.length : Int), Dec (listF most two X).isEmpty false] (by kernel_rfl) ⟨?_, ?_, ?_, d2, ?_, ?_, ?_, ?_, d1⟩)
           (fun d2 => rr [false, false] [(listF most two X).length = (listV most two X).length ∧ (listF most two X).length = (listF most two X).length ∧ ∀ (i : Nat), i < (listF most two X).length → (fun i => ((listV most two X).getD i Con.zero).rvs) i = ((listF most two X).getD i Con.zero).rvs, Dec (dimS (listF most two X) == (0 : Int)) false, most = most, two = two, X.length = X.length ∧ (fun i => (X.getD i Prt.zero).rvs) = fun i => (X.getD i Prt.zero).rvs, (↑X.length : Int) = (↑X.length : Int), Dec (listF most two X).isEmpty false] (by kernel_rfl) ⟨?_, d2, ?_, ?_, ?_, ?_, d1⟩))
  all_goals first | (first | rfl | exact ⟨rfl, rfl⟩ | decide | (exfalso; have h0 := listF_pos hX d1; simp at d2; omega) | (simp only [listV, d1, cond_true, cond_false]; exact ⟨rfl, rfl, fun i _ => rfl⟩) | (rw [show listV most two X = listF most two X from by simp only [listV, d1, cond_false]]; exact ⟨rfl, rfl, fun i _ => rfl⟩) | (simp [Prt.ok, U8]; done))
end Go.Proofs.YtcfdaddablojlaaGreatDoor.S

/- Plain: the lists of symbols that are made are in order; those for 2 are legal. -/
set_option linter.unusedSimpArgs false
set_option linter.unusedVariables false
namespace Go.Proofs.YtcfdaddablojlaaGreatDoor.S
open Go.QfSy Go.RowKit

theorem ord_listM {most : Int} (hm : most ≤ 8) {two : Bool} : ∀ {X : List Prt} {e n : Int}, (∀ p ∈ X, p.ok) → -1 ≤ e → 0 ≤ n → n ≤ most → e + 3 * (most - n) ≤ 60 → ordL (listM most two X e n) e n = true
  | [], e, n, _, _, _, _, _ => rfl
  | p :: X, e, n, hX, h1, h2, h3, h4 => by
    simp only [listM]
    split
    · rfl
    · have hp := hX p (by simp)
      have hd := dimM_b hp (r := most - n) (by omega)
      have he := expM_b (p := p) e
      have hs := signM_b hp
      simp only [ordL, Bool.and_eq_true]
      refine ⟨?_, ?_⟩
      · unfold okO
        rw [decide_eq_true_eq]
        show 0 ≤ expM p e ∧ expM p e ≤ 60 ∧ e < expM p e ∧ (signM p = 1 ∨ signM p = -1) ∧ 1 ≤ dimM p (most - n) ∧ dimM p (most - n) ≤ 8 - n
        omega
      · show ordL (listM most two X (expM p e) (n + dimM p (most - n))) (expM p e) (n + dimM p (most - n)) = true
        exact ord_listM hm (fun x hx => hX x (by simp [hx])) (by omega) (by omega) (by omega) (by omega)
theorem zero_ok : Prt.zero.ok := by refine ⟨?_, ?_, ?_, ?_, ?_⟩ <;> (unfold U8 Prt.zero; decide)
theorem ord_listV {most : Int} (h1 : 1 ≤ most) (hm : most ≤ 8) {two : Bool} {X : List Prt} (hX : ∀ p ∈ X, p.ok) : orderV (listV most two X) = true := by
  unfold listV
  cases he : (listF most two X).isEmpty with
  | false =>
    simp only [cond_false]
    unfold orderV
    rw [Bool.and_eq_true]
    refine ⟨ord_listM hm hX (by decide) (by decide) (by omega) (by omega), ?_⟩
    have := listF_pos hX he
    simp; omega
  | true =>
    simp only [cond_true]
    have hd := dimM_b zero_ok (r := 1) (by decide)
    have hs := signM_b zero_ok
    unfold orderV
    have e1 : (conM Prt.zero 0 1 two).exp = 0 := rfl
    have e2 : (conM Prt.zero 0 1 two).dim = dimM Prt.zero 1 := rfl
    have e3 : (conM Prt.zero 0 1 two).sign = signM Prt.zero := rfl
    rw [Bool.and_eq_true, decide_eq_true_eq]
    simp only [ordL, okO, dimS, Bool.and_true, decide_eq_true_eq, e1, e2, e3]
    omega

theorem oddF_mod (d s k : Int) (hk : 0 ≤ k) : oddityF_v d s k = oddityF_v d s (k % 8) := by
  have h : (k % 8).tmod 8 = k.tmod 8 := by
    rw [Int.tmod_eq_emod_of_nonneg hk, Int.tmod_eq_emod_of_nonneg (by omega)]; omega
  unfold oddityF_v
  rw [h]
set_option maxRecDepth 100000 in
theorem oddF_tab : ∀ d ∈ ([1, 2, 3] : List Int), ∀ s ∈ ([1, -1] : List Int), ∀ t ∈ ([0, 1, 2, 3, 4, 5, 6, 7] : List Int), legalB ⟨0, d, s, true, oddityF_v d s t⟩ = true := by
  decide +kernel
theorem legal_con {p : Prt} {e r : Int} (hp : p.ok) (hr : 1 ≤ r) (h0 : 0 ≤ e) (h1 : e ≤ 60) : legalB (conM p e r true) = true := by
  have hd := dimM_b hp hr
  have hs := signM_b hp
  have hx := hp.2.2.2.2
  unfold legalB
  rw [decide_eq_true_eq]
  cases ho : oddM p r true with
  | false =>
    have h2 : dimM p r % 2 = 0 := by
      unfold oddM at ho
      simp only [cond_true] at ho
      cases hb : (dimM p r % 2 == 1) with
      | true => rw [hb] at ho; cases ho
      | false => have := beq_eq_false_iff_ne.1 hb; omega
    have e1 : conM p e r true = ⟨e, dimM p r, signM p, false, 0⟩ := by unfold conM; rw [ho]; rfl
    rw [e1]
    exact ⟨⟨h0, h1⟩, ⟨hd.1, by show dimM p r ≤ 8; omega⟩, hs, ⟨(by decide : (0 : Int) ≤ 0), (by decide : (0 : Int) ≤ 7)⟩, fun _ => ⟨h2, rfl⟩, fun h => by cases h⟩
  | true =>
    have e1 : conM p e r true = ⟨e, dimM p r, signM p, true, oddityF_v (dimM p r) (signM p) p.x4⟩ := by unfold conM; rw [ho]; rfl
    rw [e1, oddF_mod _ _ _ hx.1]
    have h3 : dimM p r ∈ ([1, 2, 3] : List Int) := by simp; omega
    have h4 : signM p ∈ ([1, -1] : List Int) := by simp; exact hs
    have h5 : p.x4 % 8 ∈ ([0, 1, 2, 3, 4, 5, 6, 7] : List Int) := by simp; omega
    have := oddF_tab _ h3 _ h4 _ h5
    unfold legalB at this
    rw [decide_eq_true_eq] at this
    exact ⟨⟨h0, h1⟩, this.2⟩
theorem legal_listM {most : Int} (hm : most ≤ 8) : ∀ {X : List Prt} {e n : Int}, (∀ p ∈ X, p.ok) → -1 ≤ e → 0 ≤ n → n ≤ most → e + 3 * (most - n) ≤ 60 → (listM most true X e n).all legalB = true
  | [], e, n, _, _, _, _, _ => rfl
  | p :: X, e, n, hX, h1, h2, h3, h4 => by
    simp only [listM]
    split
    · rfl
    · have hp := hX p (by simp)
      have hd := dimM_b hp (r := most - n) (by omega)
      have he := expM_b (p := p) e
      simp only [List.all_cons, Bool.and_eq_true]
      exact ⟨legal_con hp (by omega) (by omega) (by omega), legal_listM hm (fun x hx => hX x (by simp [hx])) (by omega) (by omega) (by omega) (by omega)⟩
theorem legal_listV {most : Int} (h1 : 1 ≤ most) (hm : most ≤ 8) {X : List Prt} (hX : ∀ p ∈ X, p.ok) : (listV most true X).all legalB = true := by
  unfold listV
  cases he : (listF most true X).isEmpty with
  | false => exact legal_listM hm hX (by decide) (by decide) (by omega) (by omega)
  | true => simp only [cond_true, List.all_cons, List.all_nil, Bool.and_true]; exact legal_con zero_ok (by decide) (by decide) (by decide)
theorem even_listM {most : Int} : ∀ {X : List Prt} {e n : Int}, ∀ c ∈ listM most false X e n, c.odd = false ∧ c.oddity = 0
  | [], e, n, c, hc => by simp [listM] at hc
  | p :: X, e, n, c, hc => by
    simp only [listM] at hc
    split at hc
    · simp at hc
    · rcases List.mem_cons.1 hc with h | h
      · subst h; exact ⟨rfl, rfl⟩
      · exact even_listM c h
theorem even_listV {most : Int} {X : List Prt} : ∀ c ∈ listV most false X, c.odd = false ∧ c.oddity = 0 := by
  unfold listV
  cases (listF most false X).isEmpty with
  | false => exact even_listM
  | true => intro c hc; rw [List.mem_singleton.1 hc]; exact ⟨rfl, rfl⟩
theorem val2_listV {most : Int} (h1 : 1 ≤ most) (hm : most ≤ 8) {X : List Prt} (hX : ∀ p ∈ X, p.ok) : val2M 2 (listV most true X) = true := by
  unfold val2M
  rw [ord_listV h1 hm hX, legal_listV h1 hm hX]; rfl

/- what lists in order are like -/
theorem ordL_len : ∀ {L : List Con} {l s : Int}, s ≤ 8 → ordL L l s = true → (L.length : Int) + s ≤ 8
  | [], l, s, h, _ => by simp; omega
  | c :: L, l, s, h, ho => by
    simp only [ordL, okO, Bool.and_eq_true, decide_eq_true_eq] at ho
    have := ordL_len (L := L) (by omega) ho.2
    simp only [List.length_cons]
    omega
theorem ordL_mem : ∀ {L : List Con} {l s : Int}, 0 ≤ s → ordL L l s = true → ∀ c ∈ L, (0 ≤ c.exp ∧ c.exp ≤ 60) ∧ (1 ≤ c.dim ∧ c.dim ≤ 8) ∧ (c.sign = 1 ∨ c.sign = -1)
  | [], l, s, h, _, c, hc => by simp at hc
  | c :: L, l, s, h, ho, x, hx => by
    simp only [ordL, okO, Bool.and_eq_true, decide_eq_true_eq] at ho
    rcases List.mem_cons.1 hx with e | hx
    · subst e; omega
    · exact ordL_mem (by omega) ho.2 x hx
theorem orderV_parts {L : List Con} (h : orderV L = true) : ordL L (-1) 0 = true ∧ 0 < L.length ∧ L.length ≤ 8 := by
  unfold orderV at h
  rw [Bool.and_eq_true, decide_eq_true_eq] at h
  refine ⟨h.1, ?_, ?_⟩
  · cases L with
    | nil => simp [dimS] at h
    | cons c l => simp
  · have := ordL_len (by decide) h.1; omega
theorem val2_ok {L : List Con} (h : val2M 2 L = true) : okL L ∧ (∀ c ∈ L, fits c) ∧ 0 < L.length ∧ L.length ≤ 8 := by
  unfold val2M at h
  simp only [Bool.and_eq_true] at h
  obtain ⟨_, h1, h2⟩ := h
  obtain ⟨h3, h4, h5⟩ := orderV_parts h1
  have key : ∀ c ∈ L, legalP c := fun c hc => of_decide_eq_true (List.all_eq_true.1 h2 c hc)
  refine ⟨⟨by omega, fun c hc => ?_⟩, fun c hc => ?_, h4, h5⟩
  · obtain ⟨a, b, d, e, _⟩ := key c hc
    exact ⟨⟨a.1, by omega⟩, ⟨b.1, by omega⟩, d, e⟩
  · obtain ⟨a, b, d, e, _⟩ := key c hc
    unfold fits I64
    omega
end Go.Proofs.YtcfdaddablojlaaGreatDoor.S

/- Plain: the shapes of raw and fused symbols, as package train and as the reference test them. -/
set_option linter.unusedSimpArgs false
set_option linter.unusedVariables false
namespace Go.Proofs.YtcfdaddablojlaaGreatDoor.S
open Go.QfSy Go.RowKit

def shO (c : Con) (last s : Int) : Bool := decide (last < c.exp ∧ c.exp ≤ 60 ∧ 1 ≤ c.dim ∧ c.dim ≤ 8 - s)
def shL : List Con → Int → Int → Bool
  | [], _, _ => true
  | c :: l, last, s => shO c last s && shL l c.exp (s + c.dim)
def shapeM (p : Int) (L : List Con) : Bool := (p == 2) && (!L.isEmpty && shL L (-1) 0)
def sgB (c : Con) : Bool := decide (c.sign = 1 ∨ c.sign = -1)
theorem ord_sh : ∀ {L : List Con} {l s : Int}, -1 ≤ l → ordL L l s = (shL L l s && L.all sgB)
  | [], _, _, _ => rfl
  | c :: L, l, s, h => by
    rw [Bool.eq_iff_iff]
    simp only [ordL, shL, okO, shO, sgB, List.all_cons, Bool.and_eq_true, decide_eq_true_eq]
    constructor
    · rintro ⟨h1, h2⟩
      rw [ord_sh (by omega), Bool.and_eq_true] at h2
      exact ⟨⟨⟨h1.2.2.1, h1.2.1, h1.2.2.2.2.1, h1.2.2.2.2.2⟩, h2.1⟩, h1.2.2.2.1, h2.2⟩
    · rintro ⟨⟨h1, h2⟩, h3, h4⟩
      refine ⟨⟨by omega, h1.2.1, h1.1, h3, h1.2.2.1, h1.2.2.2⟩, ?_⟩
      rw [ord_sh (by omega), Bool.and_eq_true]
      exact ⟨h2, h4⟩
theorem sh_pos : ∀ {L : List Con} {l s : Int}, shL L l s = true → 0 ≤ dimS L ∧ (L ≠ [] → 0 < dimS L)
  | [], _, _, _ => by simp [dimS]
  | c :: L, l, s, h => by
    simp only [shL, shO, Bool.and_eq_true, decide_eq_true_eq] at h
    have := sh_pos h.2
    simp only [dimS]
    exact ⟨by omega, fun _ => by omega⟩
theorem order_sh (L : List Con) : orderV L = (!L.isEmpty && shL L (-1) 0 && L.all sgB) := by
  unfold orderV
  rw [ord_sh (by decide)]
  cases hs : shL L (-1) 0 with
  | false => simp
  | true =>
    have hp := sh_pos hs
    cases L with
    | nil => simp [dimS]
    | cons c l =>
      have := hp.2 (by simp)
      simp [this]
theorem val2_sh (p : Int) (L : List Con) : val2M p L = (shapeM p L && L.all legalB) := by
  unfold val2M shapeM
  rw [order_sh]
  have hl : L.all legalB = true → L.all sgB = true := by
    intro h
    rw [List.all_eq_true] at h ⊢
    intro c hc
    have := of_decide_eq_true (h c hc)
    exact decide_eq_true this.2.2.1
  cases h1 : L.all legalB with
  | false => simp
  | true => rw [hl h1]; simp

/- fused lists -/
def fusC (c : Con) : Bool := decide (0 ≤ c.oddity ∧ c.oddity ≤ 7) && (c.odd || (decide (c.dim % 2 = 0) && decide (c.oddity = 0)))
def fusI (L : List Con) (i : Nat) : Bool := fusC (at_ L i) && !(oddB L i && (!((partM L i).getD 0 0 == (i : Int)) && !((at_ L i).oddity == 0)))
def dimR (L : List Con) : List Int → Int
  | [] => 0
  | i :: l => (at_ L i.toNat).dim + dimR L l
def parR (L : List Con) (l : List Int) : Bool := decide (((at_ L (l.getD 0 0).toNat).oddity - dimR L l) % 2 = 0)
def zerR (L : List Con) (l : List Int) : Bool := l.tail.all fun i => (at_ L i.toNat).oddity == 0
/- as the reference has it, and as package train has it -/
def fusM (p : Int) (L : List Con) : Bool := (p == 2) && (orderV L && ((List.range L.length).all (fusI L) && (partsM L).all (parR L)))
def fusT (p : Int) (L : List Con) : Bool := shapeM p L && (L.all (fun c => sgB c && fusC c) && (partsM L).all (fun l => zerR L l && parR L l))
theorem tail_ivN {s n : Nat} : (ivN s (n + 1)).tail = ivN (s + 1) n := rfl
theorem fus_rows {L : List Con} : (∀ i, i < L.length → oddB L i = true → (partM L i).getD 0 0 ≠ (i : Int) → (at_ L i).oddity = 0) ↔ (∀ l ∈ partsM L, zerR L l = true) := by
  constructor
  · intro h l hl
    obtain ⟨s, n, e, hs, hr⟩ := part_row hl
    have hin := (parts_rows l hl).2.1
    unfold zerR
    rw [List.all_eq_true]
    intro x hx
    rw [e, tail_ivN, mem_ivN] at hx
    have hx2 : x ∈ l := by rw [e, mem_ivN]; omega
    have hlt := hin x hx2
    obtain ⟨h1, h2⟩ := hr (x.toNat - s) (by omega)
    rw [show s + (x.toNat - s) = x.toNat by omega] at h1 h2
    have h3 := h x.toNat (by omega) h1 (fun e2 => by rw [part_first (by omega) h1, h2 (by omega)] at e2; cases e2)
    rw [h3]; rfl
  · intro h i hi ho hne
    obtain ⟨s, n, t, e, h1, h2, h3, h4⟩ := part_iv hi ho
    have hz := h _ (partM_odd hi ho).1
    unfold zerR at hz
    rw [List.all_eq_true] at hz
    have ht : 0 < t := by
      rcases Nat.eq_zero_or_pos t with h0 | h0
      · subst h0
        rw [Nat.add_zero] at h1
        exact absurd ((part_first hi ho).2 (by rw [h1]; exact h3)) hne
      · exact h0
    have := hz (i : Int) (by rw [e, tail_ivN, mem_ivN]; omega)
    simpa using this
theorem all_at {L : List Con} (q : Con → Bool) : L.all q = true ↔ ∀ i, i < L.length → q (at_ L i) = true := by
  rw [List.all_eq_true]
  constructor
  · intro h i hi
    have : at_ L i = L[i] := by simp [at_, hi]
    rw [this]; exact h _ (List.getElem_mem hi)
  · intro h c hc
    obtain ⟨i, hi, rfl⟩ := List.getElem_of_mem hc
    have : at_ L i = L[i] := by simp [at_, hi]
    rw [← this]; exact h i hi
theorem fus_eq (p : Int) (L : List Con) : fusT p L = fusM p L := by
  rw [Bool.eq_iff_iff]
  unfold fusT fusM shapeM
  rw [order_sh]
  simp only [Bool.and_eq_true, List.all_eq_true (l := partsM L), List.all_eq_true (l := List.range L.length), List.mem_range, all_at]
  have key : (∀ i, i < L.length → fusI L i = true) ↔ (∀ i, i < L.length → fusC (at_ L i) = true) ∧ (∀ l ∈ partsM L, zerR L l = true) := by
    rw [← fus_rows]
    constructor
    · intro h
      refine ⟨fun i hi => ?_, fun i hi ho hne => ?_⟩
      · have := h i hi
        unfold fusI at this
        rw [Bool.and_eq_true] at this
        exact this.1
      · have := h i hi
        unfold fusI at this
        simp only [ho, Bool.and_eq_true, Bool.true_and, Bool.not_eq_true', Bool.and_eq_false_iff, Bool.not_eq_false', beq_iff_eq] at this
        rcases this.2 with h1 | h1
        · exact absurd h1 hne
        · exact h1
    · rintro ⟨h1, h2⟩ i hi
      unfold fusI
      rw [Bool.and_eq_true]
      refine ⟨h1 i hi, ?_⟩
      cases ho : oddB L i with
      | false => rfl
      | true =>
        by_cases hf : (partM L i).getD 0 0 = (i : Int)
        · rw [beq_iff_eq.2 hf]; rfl
        · rw [beq_iff_eq.2 (h2 i hi ho hf)]; simp only [Bool.not_true, Bool.and_false, Bool.not_false]
  constructor
  · rintro ⟨⟨h1, h2, h3⟩, h4, h5⟩
    exact ⟨h1, ⟨⟨h2, h3⟩, fun i hi => (h4 i hi).1⟩, key.2 ⟨fun i hi => (h4 i hi).2, fun l hl => (h5 l hl).1⟩, fun l hl => (h5 l hl).2⟩
  · rintro ⟨h1, ⟨⟨h2, h3⟩, h4⟩, h5, h6⟩
    have := key.1 h5
    exact ⟨⟨h1, h2, h3⟩, fun i hi => ⟨h4 i hi, this.1 i hi⟩, fun l hl => ⟨this.2 l hl, h6 l hl⟩⟩
end Go.Proofs.YtcfdaddablojlaaGreatDoor.S

/- Plain: links are kept by steps; fused lists stay fused. -/
set_option linter.unusedSimpArgs false
set_option linter.unusedVariables false
namespace Go.Proofs.YtcfdaddablojlaaGreatDoor.S
open Go.QfSy Go.RowKit

theorem sumO_mod {L M : List Con} {m : Int} (h : ∀ k, k < L.length → ((at_ L k).oddity - (at_ M k).oddity) % 4 = 0) : ∀ {l : List Int}, inR L.length l → (sumO L l - sumO M l) % 4 = 0
  | [], _ => rfl
  | x :: l, hl => by
    have h1 := hl x (by simp)
    have h2 := h x.toNat (by omega)
    have ih := sumO_mod (m := m) h (l := l) (fun y hy => hl y (by simp [hy]))
    simp only [sumO]
    omega
theorem bad_same {L M : List Con} (hs : sameT L M) (h : ∀ k, k < L.length → ((at_ L k).oddity - (at_ M k).oddity) % 4 = 0) {l : List Int} (hl : inR L.length l) : badM L l = badM M l := by
  have h1 := sumO_mod (m := 0) h hl
  unfold badM totM
  by_cases hn : l.length = 2
  · have a0 := hl.at (t := 0) (by omega)
    have a1 := hl.at (t := 1) (by omega)
    rw [(hs.2 (l.getD 0 0).toNat (by omega)).2.2, (hs.2 (l.getD 1 0).toNat (by omega)).2.2]
    have e : (sumO L l % 8 % 4 == 0) = (sumO M l % 8 % 4 == 0) := by
      rw [Bool.eq_iff_iff, beq_iff_eq, beq_iff_eq]
      omega
    rw [e]
  · simp [hn]
theorem link_same {L M : List Con} (hs : sameT L M) (h : ∀ k, k < L.length → ((at_ L k).oddity - (at_ M k).oddity) % 4 = 0) {k : Nat} (hk : k < L.length) : linkM L k = linkM M k := by
  unfold linkM
  rw [(hs.2 k hk).1, (hs.2 k hk).2.1, (hs.2 (k - 1) (by omega)).1, (hs.2 (k - 1) (by omega)).2.1, partM_same hs, bad_same hs h (by rw [← partM_same hs]; exact partM_ok.1)]
theorem step_mod {L : List Con} {i : Nat} (h1 : 1 ≤ i) (h2 : i < L.length) : ∀ k, k < (stepM L i).length → ((at_ (stepM L i) k).oddity - (at_ L k).oddity) % 4 = 0 := by
  intro k hk
  rw [stepM_len] at hk
  rw [step_at h1 h2 hk]
  unfold stepC
  cases hitB L i k
  · simp
  · simp only [cond_true]; omega
theorem link_step {L : List Con} {i k : Nat} (h1 : 1 ≤ i) (h2 : i < L.length) (hk : k < L.length) : linkM (stepM L i) k = linkM L k := link_same (step_same h1 h2) (step_mod h1 h2) (by rw [stepM_len]; exact hk)

/- fused lists -/
theorem shL_same : ∀ {L M : List Con} {l s : Int}, L.length = M.length → (∀ k, k < L.length → (at_ L k).exp = (at_ M k).exp ∧ (at_ L k).dim = (at_ M k).dim) → shL L l s = shL M l s
  | [], [], _, _, _, _ => rfl
  | [], _ :: _, _, _, h, _ => by simp at h
  | _ :: _, [], _, _, h, _ => by simp at h
  | a :: L, b :: M, l, s, h, hk => by
    have h0 := hk 0 (by simp)
    have e1 : a.exp = b.exp := h0.1
    have e2 : a.dim = b.dim := h0.2
    simp only [shL, shO]
    rw [e1, e2, shL_same (by simpa using h) (fun k hk2 => by have := hk (k + 1) (by simp; omega); simpa [at_] using this)]
theorem shape_same {p : Int} {L M : List Con} (hs : sameT L M) : shapeM p L = shapeM p M := by
  unfold shapeM
  rw [shL_same hs.1 (fun k hk => ⟨(hs.2 k hk).1, (hs.2 k hk).2.2⟩)]
  have : L.isEmpty = M.isEmpty := by
    have := hs.1
    cases L <;> cases M <;> simp_all
  rw [this]
theorem dimR_same {L M : List Con} (hs : sameT L M) : ∀ {l : List Int}, inR L.length l → dimR L l = dimR M l
  | [], _ => rfl
  | x :: l, hl => by
    have h1 := hl x (by simp)
    simp only [dimR]
    rw [(hs.2 x.toNat (by omega)).2.2, dimR_same hs (fun y hy => hl y (by simp [hy]))]
/- oddities are changed at the first index of a compartment alone -/
theorem hit_first {L : List Con} {i k : Nat} (h1 : 1 ≤ i) (h2 : i < L.length) (h : hitB L i k = true) : k < L.length ∧ oddB L k = true ∧ joinB L k = false := by
  have key : ∀ a : Nat, a < L.length → 0 < (partM L (a : Int)).length → ((partM L (a : Int)).getD 0 0).toNat = k → k < L.length ∧ oddB L k = true ∧ joinB L k = false := by
    intro a ha hp hk
    have ho : oddB L a = true := by
      cases ho : oddB L a with
      | true => rfl
      | false => rw [partM_even (fun h => by rw [h.2] at ho; cases ho)] at hp; simp at hp
    obtain ⟨s, n, t, e, e1, e2, e3, e4⟩ := part_iv ha ho
    rw [e, getD_ivN (by omega)] at hk
    have : k = s := by omega
    subst this
    exact ⟨by omega, by simpa using (e4 0 (by omega)).1, e3⟩
  unfold hitB at h
  rw [Bool.or_eq_true, Bool.and_eq_true, Bool.and_eq_true, decide_eq_true_eq, decide_eq_true_eq, beq_iff_eq, beq_iff_eq] at h
  rcases h with ⟨a, b⟩ | ⟨a, b⟩
  · have e0 : ((i - 1 : Nat) : Int) = (i : Int) - 1 := by omega
    exact key (i - 1) (by omega) (by rw [e0]; exact a) (by rw [e0]; exact b)
  · exact key i h2 a b
theorem fus_step {p : Int} {L : List Con} (hf : fusM p L = true) {i : Nat} (h1 : 1 ≤ i) (h2 : i < L.length) : fusM p (stepM L i) = true := by
  have hs := step_same h1 h2
  rw [← fus_eq] at hf ⊢
  unfold fusT at hf ⊢
  rw [Bool.and_eq_true, Bool.and_eq_true, all_at, List.all_eq_true] at hf ⊢
  simp only [Bool.and_eq_true] at hf ⊢
  obtain ⟨g1, g2, g3⟩ := hf
  rw [stepM_len]
  refine ⟨by rw [shape_same hs]; exact g1, fun k hk => ?_, fun l hl => ?_⟩
  · obtain ⟨a, b⟩ := g2 k hk
    rw [step_at h1 h2 hk]
    unfold sgB at a ⊢
    unfold fusC at b ⊢
    unfold stepC
    rw [decide_eq_true_eq] at a ⊢
    rw [Bool.and_eq_true, decide_eq_true_eq, Bool.or_eq_true] at b ⊢
    refine ⟨?_, ?_, ?_⟩
    · cases (k == i || k == i - 1) <;> simp only [cond_true, cond_false] <;> omega
    · cases hitB L i k <;> simp only [cond_true, cond_false] <;> omega
    · cases hh : hitB L i k with
      | false => exact b.2
      | true => exact .inl (hit_first h1 h2 hh).2.1
  · rw [parts_same hs] at hl
    obtain ⟨z, pr⟩ := g3 l hl
    have hr := part_row hl
    have hin := (parts_rows l hl).2.1
    obtain ⟨s, n, e, e3, e4⟩ := hr
    refine ⟨?_, ?_⟩
    · unfold zerR at z ⊢
      rw [List.all_eq_true] at z ⊢
      intro x hx
      have hz := z x hx
      rw [e, tail_ivN, mem_ivN] at hx
      have hx2 : x ∈ l := by rw [e, mem_ivN]; omega
      have hlt := hin x hx2
      rw [step_at h1 h2 (by omega)]
      unfold stepC
      cases hh : hitB L i x.toNat with
      | false => exact hz
      | true =>
        have := (hit_first h1 h2 hh).2.2
        have h5 := (e4 (x.toNat - s) (by omega)).2 (by omega)
        rw [show s + (x.toNat - s) = x.toNat by omega, this] at h5
        cases h5
    · unfold parR at pr ⊢
      rw [decide_eq_true_eq] at pr ⊢
      have hne : 0 < l.length := by rw [e, ivN_len]; omega
      have h0 := hin.at hne
      rw [dimR_same hs (by rw [stepM_len]; exact hin), step_at h1 h2 (by omega)]
      unfold stepC
      cases hitB L i (l.getD 0 0).toNat <;> simp only [cond_true, cond_false] <;> omega
end Go.Proofs.YtcfdaddablojlaaGreatDoor.S

/- Plain: a fused list is fused, and its compartments are those of the raw list. -/
set_option linter.unusedSimpArgs false
set_option linter.unusedVariables false
namespace Go.Proofs.YtcfdaddablojlaaGreatDoor.S
open Go.QfSy Go.RowKit

theorem sameT.refl (L : List Con) : sameT L L := ⟨rfl, fun _ _ => ⟨rfl, rfl, rfl⟩⟩
theorem sameT.trans {A B C : List Con} (h : sameT A B) (k : sameT B C) : sameT A C :=
  ⟨h.1.trans k.1, fun i hi => ⟨((h.2 i hi).1).trans (k.2 i (by rw [← h.1]; exact hi)).1, ((h.2 i hi).2.1).trans (k.2 i (by rw [← h.1]; exact hi)).2.1, ((h.2 i hi).2.2).trans (k.2 i (by rw [← h.1]; exact hi)).2.2⟩⟩
theorem at_setO' {L : List Con} {i t : Int} {k : Nat} : at_ (setO L i t) k = if i.toNat = k ∧ k < L.length then { at_ L k with oddity := t } else at_ L k := by
  unfold setO
  rw [at_set]
  split
  · rename_i h; rw [h.1]
  · rfl
theorem setO_same {L : List Con} {i t : Int} : sameT (setO L i t) L := by
  refine ⟨setO_len, fun k _ => ?_⟩
  rw [at_setO']
  split <;> exact ⟨rfl, rfl, rfl⟩
theorem zeroP_same : ∀ {l : List Int} {L : List Con}, sameT (zeroP L l) L
  | [], L => sameT.refl L
  | i :: l, L => (zeroP_same (l := l) (L := setO L i 0)).trans setO_same
theorem fuseP_same {L0 L : List Con} {l : List Int} : sameT (fuseP L0 L l) L := setO_same.trans zeroP_same
theorem fuseG_same {L0 : List Con} : ∀ {P : List (List Int)} {L : List Con}, sameT (fuseG L0 L P) L
  | [], L => sameT.refl L
  | l :: P, L => (fuseG_same (P := P) (L := fuseP L0 L l)).trans fuseP_same
theorem fuseM_same {L : List Con} : sameT (fuseM L) L := fuseG_same
theorem sign_setO {L : List Con} {i t : Int} {k : Nat} : (at_ (setO L i t) k).sign = (at_ L k).sign := by
  rw [at_setO']; split <;> rfl
theorem sign_zeroP : ∀ {l : List Int} {L : List Con} {k : Nat}, (at_ (zeroP L l) k).sign = (at_ L k).sign
  | [], _, _ => rfl
  | i :: l, L, k => by simp only [zeroP]; rw [sign_zeroP, sign_setO]
theorem sign_fuseG {L0 : List Con} : ∀ {P : List (List Int)} {L : List Con} {k : Nat}, (at_ (fuseG L0 L P) k).sign = (at_ L k).sign
  | [], _, _ => rfl
  | l :: P, L, k => by simp only [fuseG]; rw [sign_fuseG]; unfold fuseP; rw [sign_setO, sign_zeroP]
theorem sign_fuseM {L : List Con} {k : Nat} : (at_ (fuseM L) k).sign = (at_ L k).sign := sign_fuseG
/- outside the rows nothing changes -/
theorem at_fuseG {L0 : List Con} : ∀ {P : List (List Int)} {L : List Con} {k : Nat}, (∀ l ∈ P, l ≠ []) → (∀ x ∈ P.flatten, k ≠ x.toNat) → at_ (fuseG L0 L P) k = at_ L k
  | [], _, _, _, _ => rfl
  | l :: P, L, k, hne, h => by
    simp only [List.flatten_cons, List.mem_append] at h
    simp only [fuseG]
    rw [at_fuseG (fun m hm => hne m (by simp [hm])) (fun x hx => h x (.inr hx)), at_fuseP (hne l (by simp)) (fun x hx => h x (.inl hx))]
theorem zero_at : ∀ {l : List Int} {L : List Con} {k : Nat}, k < L.length → (k : Int) ∈ l → (∀ x ∈ l, 0 ≤ x) → (at_ (zeroP L l) k).oddity = 0
  | [], _, _, _, h, _ => by simp at h
  | i :: l, L, k, hk, h, h0 => by
    simp only [zeroP]
    by_cases hl : (k : Int) ∈ l
    · exact zero_at (by rw [setO_len]; exact hk) hl (fun x hx => h0 x (by simp [hx]))
    · have e : (k : Int) = i := by
        rcases List.mem_cons.1 h with h | h
        · exact h
        · exact absurd h hl
      have hx : ∀ x ∈ l, k ≠ x.toNat := by
        intro x hx e2
        have := h0 x (by simp [hx])
        exact hl (by rw [show (k : Int) = x by omega]; exact hx)
      rw [at_zeroP hx, at_setO', if_pos ⟨by omega, hk⟩]
/- in a row: the sum at its first index, nothing elsewhere -/
theorem fuse_at {L0 : List Con} : ∀ {P : List (List Int)} {L : List Con}, P.flatten.Nodup → (∀ l ∈ P, l ≠ [] ∧ inR L.length l) → ∀ l ∈ P, ∀ k : Nat, (k : Int) ∈ l → (at_ (fuseG L0 L P) k).oddity = (if (k : Int) = l.getD 0 0 then totM L0 l else 0)
  | [], _, _, _, l, hl, _, _ => by simp at hl
  | m :: P, L, hn, hr, l, hl, k, hk => by
    simp only [List.flatten_cons] at hn
    have hd := List.nodup_append.1 hn
    simp only [fuseG]
    rcases List.mem_cons.1 hl with e | hl
    · subst e
      have hlr := hr l (by simp)
      have hkl := hlr.2 _ hk
      rw [at_fuseG (fun m hm => (hr m (by simp [hm])).1) (fun x hx e2 => ?_)]
      · unfold fuseP
        rw [at_setO', zeroP_len]
        have h0 := hlr.2.at (t := 0) (List.length_pos_iff.2 hlr.1)
        by_cases e3 : (k : Int) = l.getD 0 0
        · rw [if_pos ⟨by omega, by omega⟩, if_pos e3]
        · rw [if_neg (by intro h; omega), if_neg e3, zero_at (by omega) hk (fun x hx => (hlr.2 x hx).1)]
      · obtain ⟨m, hm, hxm⟩ := List.mem_flatten.1 hx
        have := (hr m (by simp [hm])).2 x hxm
        exact hd.2.2 _ hk x hx (by omega)
    · exact fuse_at hd.2.1 (fun m hm => by rw [fuseP_len]; exact hr m (by simp [hm])) l hl k hk
theorem fuseM_at {L : List Con} {l : List Int} (hl : l ∈ partsM L) {k : Nat} (hk : (k : Int) ∈ l) : (at_ (fuseM L) k).oddity = (if (k : Int) = l.getD 0 0 then totM L l else 0) :=
  fuse_at (parts_nodup L) (fun m hm => ⟨(parts_rows m hm).1, (parts_rows m hm).2.1⟩) l hl k hk
theorem fuseM_even {L : List Con} {k : Nat} (h : oddB L k = false) (hk : k < L.length) : at_ (fuseM L) k = at_ L k := by
  refine at_fuseG (fun l hl => (parts_rows l hl).1) (fun x hx e => ?_)
  obtain ⟨l, h1, h2⟩ := List.mem_flatten.1 hx
  have h3 := (parts_rows l h1).2.1 x h2
  have : (k : Int) ∈ (partsM L).flatten := by rw [show (k : Int) = x by omega]; exact hx
  rw [(mem_parts.1 this).2] at h; cases h
end Go.Proofs.YtcfdaddablojlaaGreatDoor.S

/- Plain: the fused list of a raw list has the shape of a fused one. -/
set_option linter.unusedSimpArgs false
set_option linter.unusedVariables false
namespace Go.Proofs.YtcfdaddablojlaaGreatDoor.S
open Go.QfSy Go.RowKit

theorem sum_par {L : List Con} (h : ∀ k, k < L.length → oddB L k = true → ((at_ L k).oddity - (at_ L k).dim) % 2 = 0) : ∀ {l : List Int}, (∀ x ∈ l, 0 ≤ x ∧ x < (L.length : Int) ∧ oddB L x.toNat = true) → (sumO L l - dimR L l) % 2 = 0
  | [], _ => rfl
  | x :: l, hl => by
    have h1 := hl x (by simp)
    have h2 := h x.toNat (by omega) h1.2.2
    have ih := sum_par h (l := l) (fun y hy => hl y (by simp [hy]))
    simp only [sumO, dimR]
    omega
theorem val2_parts {L : List Con} (h : val2M 2 L = true) : shapeM 2 L = true ∧ ∀ k, k < L.length → legalP (at_ L k) := by
  rw [val2_sh, Bool.and_eq_true, all_at] at h
  exact ⟨h.1, fun k hk => of_decide_eq_true (h.2 k hk)⟩
theorem row_odd {L : List Con} {l : List Int} (hl : l ∈ partsM L) : ∀ x ∈ l, 0 ≤ x ∧ x < (L.length : Int) ∧ oddB L x.toNat = true := by
  intro x hx
  have h1 := (parts_rows l hl).2.1 x hx
  have h2 : ((x.toNat : Nat) : Int) ∈ (partsM L).flatten := by
    rw [show ((x.toNat : Nat) : Int) = x by omega]
    exact List.mem_flatten.2 ⟨l, hl, hx⟩
  exact ⟨h1.1, h1.2, (mem_parts.1 h2).2⟩
theorem fus_fuse {L : List Con} (h : val2M 2 L = true) : fusM 2 (fuseM L) = true := by
  obtain ⟨hsh, hleg⟩ := val2_parts h
  have hs := fuseM_same (L := L)
  rw [← fus_eq]
  unfold fusT
  rw [Bool.and_eq_true, Bool.and_eq_true, all_at, List.all_eq_true]
  simp only [Bool.and_eq_true]
  rw [fuseM_len, shape_same hs, parts_same hs]
  refine ⟨hsh, fun k hk => ⟨?_, ?_⟩, fun l hl => ⟨?_, ?_⟩⟩
  · unfold sgB
    rw [decide_eq_true_eq, sign_fuseM]
    exact (hleg k hk).2.2.1
  · cases ho : oddB L k with
    | false =>
      rw [fuseM_even ho hk]
      obtain ⟨_, _, _, h4, h5, _⟩ := hleg k hk
      have h6 := h5 ho
      unfold fusC
      rw [Bool.and_eq_true, decide_eq_true_eq, Bool.or_eq_true, Bool.and_eq_true, decide_eq_true_eq, decide_eq_true_eq]
      exact ⟨h4, .inr h6⟩
    | true =>
      have hm := partM_odd hk ho
      have hv := fuseM_at hm.1 hm.2
      have hb := totM_b L (partM L k)
      have hodd : (at_ (fuseM L) k).odd = true := by rw [(hs.2 k (by rw [fuseM_len]; exact hk)).2.1]; exact ho
      unfold fusC
      rw [Bool.and_eq_true, decide_eq_true_eq, Bool.or_eq_true]
      refine ⟨?_, .inl hodd⟩
      rw [hv]
      split <;> omega
  · obtain ⟨s, n, e, e3, e4⟩ := part_row hl
    unfold zerR
    rw [List.all_eq_true]
    intro x hx
    rw [e, tail_ivN, mem_ivN] at hx
    have hx2 : ((x.toNat : Nat) : Int) ∈ l := by rw [show ((x.toNat : Nat) : Int) = x by omega, e, mem_ivN]; omega
    rw [fuseM_at hl hx2, if_neg]
    · rfl
    · rw [e, getD_ivN (by omega)]; omega
  · have hne : 0 < l.length := List.length_pos_iff.2 (parts_rows l hl).1
    have hin := (parts_rows l hl).2.1
    have h0 := hin.at hne
    have hx : (((l.getD 0 0).toNat : Nat) : Int) ∈ l := by
      rw [show (((l.getD 0 0).toNat : Nat) : Int) = l.getD 0 0 by omega]
      cases l with
      | nil => simp at hne
      | cons a l => simp
    have hp := sum_par (fun k hk ho => ((hleg k hk).2.2.2.2.2 ho).1) (row_odd hl)
    unfold parR
    rw [decide_eq_true_eq, fuseM_at hl hx, if_pos (by omega), dimR_same hs (by rw [fuseM_len]; exact hin)]
    unfold totM
    omega
end Go.Proofs.YtcfdaddablojlaaGreatDoor.S

/- Plain: choosing oddities that add up, as the reference and as package train do it. -/
set_option linter.unusedSimpArgs false
set_option linter.unusedVariables false
namespace Go.Proofs.YtcfdaddablojlaaGreatDoor.S
open Go.QfSy Go.RowKit

def wO (c : Con) (t : Int) : Con := { c with oddity := t }
/- whether the constituents of l can have legal oddities with a sum -/
def canR (L : List Con) : List Int → Int → Bool
  | [] => fun tot => tot == 0
  | i :: l => fun tot => (List.range 8).any fun t => legalB (wO (at_ L i.toNat) (t : Int)) && canR L l ((tot + 8 - (t : Int)) % 8)
/- the reference: the oddities are tried one after the other -/
def tryF (g : Int → List Con → Bool × List Con) (i tot : Int) : Nat → Nat → List Con → Bool × List Con
  | 0, _, M => (false, M)
  | n + 1, t, M => bif legalB (at_ (setO M i (t : Int)) i.toNat) then
      (bif (g ((tot + 8 - (t : Int)) % 8) (setO M i (t : Int))).1 then (true, (g ((tot + 8 - (t : Int)) % 8) (setO M i (t : Int))).2) else tryF g i tot n (t + 1) (g ((tot + 8 - (t : Int)) % 8) (setO M i (t : Int))).2)
    else tryF g i tot n (t + 1) (setO M i (t : Int))
def refF : List Int → Int → List Con → Bool × List Con
  | [] => fun tot M => (tot == 0, M)
  | i :: l => fun tot M => tryF (refF l) i tot 8 0 M
/- package train: the least oddity for which the rest can have the sum that is left -/
def findT (p : Nat → Bool) : Nat → Nat → Option Nat
  | 0, _ => none
  | n + 1, t => bif p t then some t else findT p n (t + 1)
def lstP (M : List Con) (i : Int) (l : List Int) (tot : Int) (t : Nat) : Bool := legalB (wO (at_ M i.toNat) (t : Int)) && canR M l ((tot - (t : Int) + 8) % 8)
def trF : List Int → Int → List Con → Option (List Con)
  | [] => fun _ M => some M
  | i :: l => fun tot M => match findT (lstP M i l tot) 8 0 with
    | none => none
    | some t => trF l ((tot - (t : Int) + 8) % 8) (setO M i (t : Int))

/- lists that differ in the oddities of l alone -/
structure agr (l : List Int) (A B : List Con) : Prop where
  len : A.length = B.length
  eq : ∀ k, wO (at_ A k) 0 = wO (at_ B k) 0
  out : ∀ k : Nat, (k : Int) ∉ l → at_ A k = at_ B k
theorem agr.refl (l : List Int) (A : List Con) : agr l A A := ⟨rfl, fun _ => rfl, fun _ _ => rfl⟩
theorem agr.trans {l : List Int} {A B C : List Con} (h : agr l A B) (k : agr l B C) : agr l A C := ⟨h.len.trans k.len, fun j => (h.eq j).trans (k.eq j), fun j hj => (h.out j hj).trans (k.out j hj)⟩
theorem agr.symm {l : List Int} {A B : List Con} (h : agr l A B) : agr l B A := ⟨h.len.symm, fun j => (h.eq j).symm, fun j hj => (h.out j hj).symm⟩
theorem agr.mono {l l' : List Int} {A B : List Con} (h : agr l A B) (k : ∀ x ∈ l, x ∈ l') : agr l' A B := ⟨h.len, h.eq, fun j hj => h.out j (fun hm => hj (k _ hm))⟩
theorem wO_wO (c : Con) (s t : Int) : wO (wO c s) t = wO c t := rfl
theorem wO_eq {c d : Con} (h : wO c 0 = wO d 0) (t : Int) : wO c t = wO d t := by
  have : wO (wO c 0) t = wO (wO d 0) t := by rw [h]
  exact this
theorem setO_agr {l : List Int} {A : List Con} {i t : Int} (h0 : 0 ≤ i) (hi : i ∈ l) : agr l (setO A i t) A := by
  refine ⟨setO_len, fun k => ?_, fun k hk => ?_⟩
  · rw [at_setO']
    split
    · rfl
    · rfl
  · exact at_setO (fun e => hk (by rw [e]; rw [Int.toNat_of_nonneg h0]; exact hi))
theorem setO_agr2 {l : List Int} {A B : List Con} {i t : Int} (h0 : 0 ≤ i) (h : agr (i :: l) A B) : agr l (setO A i t) (setO B i t) := by
  refine ⟨by rw [setO_len, setO_len]; exact h.len, fun k => ?_, fun k hk => ?_⟩
  · rw [at_setO', at_setO', h.len]
    split
    · exact h.eq k
    · exact h.eq k
  · rw [at_setO', at_setO', h.len]
    by_cases hk' : i.toNat = k
    · by_cases hl : k < B.length
      · rw [if_pos ⟨hk', hl⟩, if_pos ⟨hk', hl⟩]
        exact wO_eq (h.eq k) t
      · rw [if_neg (fun e => hl e.2), if_neg (fun e => hl e.2)]
        have e1 : at_ A k = Con.zero := by have := h.len; simp [at_, List.getD_eq_getElem?_getD, List.getElem?_eq_none (show A.length ≤ k by omega)]
        have e2 : at_ B k = Con.zero := by simp [at_, List.getD_eq_getElem?_getD, List.getElem?_eq_none (show B.length ≤ k by omega)]
        rw [e1, e2]
    · rw [if_neg (fun e => hk' e.1), if_neg (fun e => hk' e.1)]
      refine h.out k (fun hm => ?_)
      rcases List.mem_cons.1 hm with e | e
      · exact hk' (by rw [← e]; rfl)
      · exact hk e
theorem canR_agr {A B : List Con} (h : ∀ k, wO (at_ A k) 0 = wO (at_ B k) 0) : ∀ {l : List Int} {tot : Int}, canR A l tot = canR B l tot
  | [], _ => rfl
  | i :: l, tot => by
    simp only [canR]
    congr 1
    funext t
    rw [wO_eq (h i.toNat) t, canR_agr h]
theorem lstP_agr {A B : List Con} (h : ∀ k, wO (at_ A k) 0 = wO (at_ B k) 0) (i : Int) (l : List Int) (tot : Int) : lstP A i l tot = lstP B i l tot := by
  funext t
  unfold lstP
  rw [wO_eq (h i.toNat) t, canR_agr h]
theorem findT_any {p : Nat → Bool} : ∀ {n t : Nat}, (findT p n t).isSome = (List.range' t n).any p
  | 0, _ => rfl
  | n + 1, t => by
    simp only [findT, List.range'_succ, List.any_cons]
    cases p t with
    | true => rfl
    | false => simp only [cond_false, Bool.false_or]; exact findT_any
theorem lst_sum (tot : Int) (t : Nat) : (tot - (t : Int) + 8) % 8 = (tot + 8 - (t : Int)) % 8 := by congr 1; omega
theorem canR_find (M : List Con) (i : Int) (l : List Int) (tot : Int) : canR M (i :: l) tot = (findT (lstP M i l tot) 8 0).isSome := by
  rw [findT_any, ← List.range_eq_range']
  simp only [canR]
  congr 1
  funext t
  unfold lstP
  rw [lst_sum]
theorem at_own {M : List Con} {i t : Int} (hi : i.toNat < M.length) : at_ (setO M i t) i.toNat = wO (at_ M i.toNat) t := by
  rw [at_setO', if_pos ⟨rfl, hi⟩]; rfl

theorem tryF_spec {l : List Int} {i tot : Int} {M : List Con} (h0 : 0 ≤ i) (hi : i.toNat < M.length)
    (ih1 : ∀ tot M0, M0.length = M.length → (refF l tot M0).1 = canR M0 l tot) (ih2 : ∀ tot M0, M0.length = M.length → agr l (refF l tot M0).2 M0) : ∀ {n t : Nat} {M0 : List Con}, agr (i :: l) M0 M →
    agr (i :: l) (tryF (refF l) i tot n t M0).2 M ∧ (match findT (lstP M i l tot) n t with
      | none => (tryF (refF l) i tot n t M0).1 = false
      | some t0 => (tryF (refF l) i tot n t M0).1 = true ∧ ∃ M1, agr l M1 (setO M i (t0 : Int)) ∧ canR M1 l ((tot + 8 - (t0 : Int)) % 8) = true ∧ (tryF (refF l) i tot n t M0).2 = (refF l ((tot + 8 - (t0 : Int)) % 8) M1).2)
  | 0, t, M0, hM => ⟨hM, rfl⟩
  | n + 1, t, M0, hM => by
    have hi0 : i.toNat < M0.length := by rw [hM.len]; exact hi
    have hs : agr (i :: l) (setO M0 i (t : Int)) M := (setO_agr h0 List.mem_cons_self).trans hM
    have e1 : legalB (at_ (setO M0 i (t : Int)) i.toNat) = legalB (wO (at_ M i.toNat) (t : Int)) := by rw [at_own hi0, wO_eq (hM.eq _)]
    have e2 : (refF l ((tot + 8 - (t : Int)) % 8) (setO M0 i (t : Int))).1 = canR M l ((tot + 8 - (t : Int)) % 8) := by rw [ih1 _ _ hs.len, canR_agr hs.eq]
    have e3 : lstP M i l tot t = (legalB (wO (at_ M i.toNat) (t : Int)) && canR M l ((tot + 8 - (t : Int)) % 8)) := by unfold lstP; rw [lst_sum]
    have hlen : (setO M0 i (t : Int)).length = M.length := hs.len
    have h2 : agr (i :: l) (refF l ((tot + 8 - (t : Int)) % 8) (setO M0 i (t : Int))).2 M := ((ih2 _ _ hlen).mono (fun x hx => List.mem_cons_of_mem _ hx)).trans hs
    simp only [tryF, findT, e1, e2, e3]
    cases hl : legalB (wO (at_ M i.toNat) (t : Int)) with
    | false =>
      simp only [cond_false, Bool.false_and]
      exact tryF_spec h0 hi ih1 ih2 hs
    | true =>
      cases hc : canR M l ((tot + 8 - (t : Int)) % 8) with
      | false =>
        simp only [cond_false, cond_true, Bool.and_false]
        exact tryF_spec h0 hi ih1 ih2 h2
      | true =>
        simp only [cond_true, Bool.and_true]
        exact ⟨h2, by trivial, setO M0 i (t : Int), setO_agr2 h0 hM, by rw [canR_agr hs.eq]; exact hc, by trivial⟩

theorem ref_spec : ∀ {l : List Int} {n : Nat}, inR n l → (∀ tot M, M.length = n → (refF l tot M).1 = canR M l tot) ∧ (∀ tot M, M.length = n → agr l (refF l tot M).2 M) ∧
    (∀ tot M M', M.length = n → canR M l tot = true → agr l M' M → trF l tot M' = some (refF l tot M).2)
  | [], n, _ => ⟨fun _ _ _ => rfl, fun _ _ _ => .refl _ _, fun tot M M' hn _ h => by
      simp only [trF, refF]
      congr 1
      refine list_ext h.len (fun k _ => h.out k (by simp))⟩
  | i :: l, n, hl => by
    obtain ⟨a1, a2, a3⟩ := ref_spec (l := l) (n := n) (fun x hx => hl x (List.mem_cons_of_mem _ hx))
    have hi := hl i List.mem_cons_self
    have b1 : ∀ M : List Con, M.length = n → ∀ tot M0, M0.length = M.length → (refF l tot M0).1 = canR M0 l tot := fun M hM tot M0 h => a1 tot M0 (h.trans hM)
    have b2 : ∀ M : List Con, M.length = n → ∀ tot M0, M0.length = M.length → agr l (refF l tot M0).2 M0 := fun M hM tot M0 h => a2 tot M0 (h.trans hM)
    refine ⟨fun tot M hn => ?_, fun tot M hn => ?_, fun tot M M' hn hc h => ?_⟩
    · have := (tryF_spec (tot := tot) hi.1 (by omega) (b1 M hn) (b2 M hn) (n := 8) (t := 0) (agr.refl _ M)).2
      rw [canR_find]
      show (tryF (refF l) i tot 8 0 M).1 = _
      revert this
      cases findT (lstP M i l tot) 8 0 with
      | none => exact fun h => h
      | some t0 => exact fun h => h.1
    · exact (tryF_spec (tot := tot) hi.1 (by omega) (b1 M hn) (b2 M hn) (n := 8) (t := 0) (agr.refl _ M)).1
    · have := (tryF_spec (tot := tot) hi.1 (by omega) (b1 M hn) (b2 M hn) (n := 8) (t := 0) (agr.refl _ M)).2
      rw [canR_find] at hc
      simp only [trF]
      rw [lstP_agr h.eq]
      revert this hc
      cases findT (lstP M i l tot) 8 0 with
      | none => intro hc; cases hc
      | some t0 =>
        rintro _ ⟨_, M1, h1, h2, h3⟩
        show trF l ((tot - (t0 : Int) + 8) % 8) (setO M' i (t0 : Int)) = some (tryF (refF l) i tot 8 0 M).2
        rw [h3, lst_sum]
        exact a3 _ M1 _ (by rw [h1.len, setO_len]; exact hn) h2 ((setO_agr2 hi.1 h).trans h1.symm)

/- the whole list, row by row -/
def refG (L0 : List Con) : List (List Int) → List Con → Option (List Con)
  | [], M => some M
  | l :: P, M => bif (refF l (totM L0 l) M).1 then refG L0 P (refF l (totM L0 l) M).2 else none
def trG : List (List Int) → List Con → Option (List Con)
  | [], M => some M
  | l :: P, M => match trF l (at_ M (l.getD 0 0).toNat).oddity M with
    | none => none
    | some M1 => trG P M1
theorem trF_none {l : List Int} {tot : Int} {M : List Con} (hne : l ≠ []) (h : canR M l tot = false) : trF l tot M = none := by
  cases l with
  | nil => exact absurd rfl hne
  | cons i l =>
    rw [canR_find] at h
    simp only [trF]
    cases hf : findT (lstP M i l tot) 8 0 with
    | none => rfl
    | some t => rw [hf] at h; cases h
theorem trG_eq {L0 : List Con} : ∀ {P : List (List Int)} {M : List Con}, M.length = L0.length → P.flatten.Nodup → (∀ l ∈ P, l ≠ [] ∧ inR L0.length l ∧ totM L0 l = (at_ L0 (l.getD 0 0).toNat).oddity) → (∀ x ∈ P.flatten, at_ M x.toNat = at_ L0 x.toNat) → trG P M = refG L0 P M
  | [], M, _, _, _, _ => rfl
  | l :: P, M, hn, hd, hP, hM => by
    obtain ⟨h1, h2, h3⟩ := hP l List.mem_cons_self
    obtain ⟨a1, a2, a3⟩ := ref_spec (l := l) (n := L0.length) h2
    have hmem : l.getD 0 0 ∈ l := by cases l with | nil => exact absurd rfl h1 | cons a l => simp
    have e : (at_ M (l.getD 0 0).toNat).oddity = totM L0 l := by rw [h3, hM _ (by simp only [List.flatten_cons, List.mem_append]; exact .inl hmem)]
    simp only [trG, refG]
    rw [e, a1 _ _ hn]
    cases hc : canR M l (totM L0 l) with
    | false => rw [trF_none h1 hc]; rfl
    | true =>
      rw [a3 _ M M hn hc (.refl _ _)]
      simp only [cond_true]
      simp only [List.flatten_cons, List.nodup_append] at hd
      have g := a2 (totM L0 l) M hn
      refine trG_eq (g.len.trans hn) hd.2.1 (fun x hx => hP x (List.mem_cons_of_mem _ hx)) (fun x hx => ?_)
      have hx0 : 0 ≤ x := by
        obtain ⟨q, hq, hxq⟩ := List.mem_flatten.1 hx
        exact ((hP q (List.mem_cons_of_mem _ hq)).2.1 x hxq).1
      rw [g.out x.toNat (fun hm => by rw [Int.toNat_of_nonneg hx0] at hm; exact hd.2.2 x hm x hx rfl)]
      exact hM x (by simp only [List.flatten_cons, List.mem_append]; exact .inr hx)
theorem sumO_zero {L : List Con} : ∀ {l : List Int}, (l.all fun i => (at_ L i.toNat).oddity == 0) = true → sumO L l = 0
  | [], _ => rfl
  | i :: l, h => by
    simp only [List.all_cons, Bool.and_eq_true, beq_iff_eq] at h
    simp only [sumO, h.1, sumO_zero h.2]; rfl
/- in a fused list the total of a compartment lies at its first index -/
theorem fus_tot {p : Int} {L : List Con} (h : fusM p L = true) : ∀ l ∈ partsM L, l ≠ [] ∧ inR L.length l ∧ totM L l = (at_ L (l.getD 0 0).toNat).oddity := by
  intro l hl
  obtain ⟨h1, h2, _⟩ := parts_rows l hl
  refine ⟨h1, h2, ?_⟩
  rw [← fus_eq] at h
  simp only [fusT, Bool.and_eq_true] at h
  obtain ⟨_, h3, h4⟩ := h
  have h5 := List.all_eq_true.1 h4 l hl
  simp only [Bool.and_eq_true] at h5
  cases l with
  | nil => exact absurd rfl h1
  | cons i l =>
    have hz : sumO L l = 0 := sumO_zero h5.1
    have hi := h2 i List.mem_cons_self
    have hf := (all_at _).1 h3 i.toNat (by omega)
    simp only [Bool.and_eq_true, fusC, decide_eq_true_eq] at hf
    show (sumO L (i :: l)) % 8 = (at_ L i.toNat).oddity
    simp only [sumO, hz]
    have := hf.2.1
    omega
def refM (L : List Con) : Option (List Con) := refG L (partsM L) L
theorem trG_refM {p : Int} {L : List Con} (h : fusM p L = true) : trG (partsM L) L = refM L :=
  trG_eq rfl (parts_nodup L) (fus_tot h) (fun _ _ => rfl)
end Go.Proofs.YtcfdaddablojlaaGreatDoor.S

/- Plain: which totals the oddities of a compartment can have. -/
set_option linter.unusedSimpArgs false
set_option linter.unusedVariables false
namespace Go.Proofs.YtcfdaddablojlaaGreatDoor.S
open Go.QfSy Go.RowKit

def lgB (d s t : Int) : Bool := legalB ⟨0, d, s, true, t⟩
def lgN (d : Nat) (s : Bool) (t : Nat) : Bool := Nat.beq ((t + d) % 2) 0 && (bif Nat.beq d 1 then (bif s then Nat.beq t 1 || Nat.beq t 7 else Nat.beq t 3 || Nat.beq t 5) else bif Nat.beq d 2 then (bif s then !Nat.beq t 4 else !Nat.beq t 0) else true)
def sg (s : Bool) : Int := bif s then 1 else -1
theorem lgB_tab : ((List.range 8).all fun d => [true, false].all fun s => (List.range 8).all fun t => lgB ((d + 1 : Nat) : Int) (sg s) ((t : Nat) : Int) == lgN (d + 1) s t) = true := by kernel_rfl
theorem lgN_tab : ((List.range 7).all fun d => (List.range 7).all fun e => (!Nat.ble (d + e + 2) 8) || ([true, false].all fun s => [true, false].all fun r => (List.range 8).all fun tot => ((List.range 8).any fun t => lgN (d + 1) s t && lgN (e + 1) r ((tot + 8 - t) % 8)) == lgN (d + e + 2) (s == r) tot)) = true := by kernel_rfl
theorem lgB_N {d t : Nat} {s : Bool} (h1 : 1 ≤ d) (h2 : d ≤ 8) (ht : t < 8) : lgB (d : Int) (sg s) (t : Int) = lgN d s t := by
  have h := lgB_tab
  rw [List.all_eq_true] at h
  have h := h (d - 1) (by simp; omega)
  rw [List.all_eq_true] at h
  have h := h s (by cases s <;> simp)
  rw [List.all_eq_true] at h
  have h := h t (by simp; omega)
  rw [show d - 1 + 1 = d by omega] at h
  exact beq_iff_eq.1 h
theorem lg_two {d e tot : Nat} {s r : Bool} (h1 : 1 ≤ d) (h2 : 1 ≤ e) (h3 : d + e ≤ 8) (ht : tot < 8) : ((List.range 8).any fun t => lgN d s t && lgN e r ((tot + 8 - t) % 8)) = lgN (d + e) (s == r) tot := by
  have h := lgN_tab
  rw [List.all_eq_true] at h
  have h := h (d - 1) (by simp; omega)
  rw [List.all_eq_true] at h
  have h := h (e - 1) (by simp; omega)
  have h4 : Nat.ble (d - 1 + (e - 1) + 2) 8 = true := Nat.ble_eq_true_of_le (by omega)
  rw [h4] at h
  simp only [Bool.not_true, Bool.false_or] at h
  rw [List.all_eq_true] at h
  have h := h s (by cases s <;> simp)
  rw [List.all_eq_true] at h
  have h := h r (by cases r <;> simp)
  rw [List.all_eq_true] at h
  have h := h tot (by simp; omega)
  rw [show d - 1 + 1 = d by omega, show e - 1 + 1 = e by omega, show d - 1 + (e - 1) + 2 = d + e by omega] at h
  exact beq_iff_eq.1 h
theorem sg_of {s : Int} (h : s = 1 ∨ s = -1) : ∃ b, s = sg b := by
  rcases h with h | h
  · exact ⟨true, h⟩
  · exact ⟨false, h⟩
theorem sg_mul (a b : Bool) : sg a * sg b = sg (a == b) := by cases a <;> cases b <;> rfl
theorem lgB_two {d e s r tot : Int} (hd : 1 ≤ d) (he : 1 ≤ e) (hde : d + e ≤ 8) (hs : s = 1 ∨ s = -1) (hr : r = 1 ∨ r = -1) (ht : 0 ≤ tot ∧ tot < 8) :
    ((List.range 8).any fun t => lgB d s (t : Int) && lgB e r ((tot + 8 - (t : Int)) % 8)) = lgB (d + e) (s * r) tot := by
  obtain ⟨b, rfl⟩ := sg_of hs
  obtain ⟨c, rfl⟩ := sg_of hr
  obtain ⟨D, rfl⟩ : ∃ D : Nat, d = D := ⟨d.toNat, by omega⟩
  obtain ⟨E, rfl⟩ : ∃ E : Nat, e = E := ⟨e.toNat, by omega⟩
  obtain ⟨T, rfl⟩ : ∃ T : Nat, tot = T := ⟨tot.toNat, by omega⟩
  rw [sg_mul, show (D : Int) + (E : Int) = ((D + E : Nat) : Int) by omega, lgB_N (by omega) (by omega) (by omega), ← lg_two (by omega) (by omega) (by omega) (by omega)]
  rw [Bool.eq_iff_iff, List.any_eq_true, List.any_eq_true]
  refine exists_congr fun t => and_congr_right fun hm => ?_
  have hm : t < 8 := by simpa using hm
  rw [lgB_N (by omega) (by omega) hm, show ((T : Int) + 8 - (t : Int)) % 8 = (((T + 8 - t) % 8 : Nat) : Int) by omega, lgB_N (by omega) (by omega) (by omega)]

def sgnR (L : List Con) : List Int → Int
  | [] => 1
  | i :: l => (at_ L i.toNat).sign * sgnR L l
def oddOk (c : Con) : Prop := (0 ≤ c.exp ∧ c.exp ≤ 60) ∧ 1 ≤ c.dim ∧ (c.sign = 1 ∨ c.sign = -1) ∧ c.odd = true
theorem legal_lg {c : Con} (h : oddOk c) (t : Int) : legalB (wO c t) = lgB c.dim c.sign t := by
  obtain ⟨h1, h2, h3, h4⟩ := h
  rw [Bool.eq_iff_iff]
  simp only [lgB, legalB, decide_eq_true_eq, legalP, wO, h4]
  constructor
  · rintro ⟨_, h⟩; exact ⟨by omega, h⟩
  · rintro ⟨_, h⟩; exact ⟨h1, h⟩
theorem sgnR_pm {L : List Con} : ∀ {l : List Int}, (∀ x ∈ l, oddOk (at_ L x.toNat)) → sgnR L l = 1 ∨ sgnR L l = -1
  | [], _ => .inl rfl
  | i :: l, h => by
    have h1 := (h i List.mem_cons_self).2.2.1
    have ih := sgnR_pm (l := l) (fun x hx => h x (List.mem_cons_of_mem _ hx))
    simp only [sgnR]
    rcases h1 with h1 | h1 <;> rcases ih with ih | ih <;> rw [h1, ih] <;> simp
theorem dimR_pos {L : List Con} : ∀ {l : List Int}, l ≠ [] → (∀ x ∈ l, oddOk (at_ L x.toNat)) → 1 ≤ dimR L l
  | [], h, _ => absurd rfl h
  | [i], _, h => by have := (h i List.mem_cons_self).2.1; simp only [dimR]; omega
  | i :: j :: l, _, h => by
    have h1 := (h i List.mem_cons_self).2.1
    have ih := dimR_pos (L := L) (l := j :: l) (by simp) (fun x hx => h x (List.mem_cons_of_mem _ hx))
    simp only [dimR] at ih ⊢
    omega
theorem canR_lg {L : List Con} : ∀ {l : List Int} {tot : Int}, l ≠ [] → (∀ x ∈ l, oddOk (at_ L x.toNat)) → dimR L l ≤ 8 → 0 ≤ tot ∧ tot < 8 → canR L l tot = lgB (dimR L l) (sgnR L l) tot
  | [], _, h, _, _, _ => absurd rfl h
  | [i], tot, _, h, hd, ht => by
    have h1 := h i List.mem_cons_self
    simp only [canR, dimR, sgnR, Int.mul_one, Int.add_zero]
    rw [Bool.eq_iff_iff, List.any_eq_true]
    constructor
    · rintro ⟨t, hm, h2⟩
      have hm : t < 8 := by simpa using hm
      simp only [Bool.and_eq_true, beq_iff_eq] at h2
      rw [legal_lg h1] at h2
      have : (t : Int) = tot := by omega
      rw [← this]; exact h2.1
    · intro h2
      refine ⟨tot.toNat, by simp; omega, ?_⟩
      simp only [Bool.and_eq_true, beq_iff_eq]
      rw [legal_lg h1, show ((tot.toNat : Nat) : Int) = tot by omega]
      exact ⟨h2, by omega⟩
  | i :: j :: l, tot, _, h, hd, ht => by
    have h1 := h i List.mem_cons_self
    have h2 : ∀ x ∈ j :: l, oddOk (at_ L x.toNat) := fun x hx => h x (List.mem_cons_of_mem _ hx)
    have hp := dimR_pos (l := j :: l) (by simp) h2
    have e1 : dimR L (i :: j :: l) = (at_ L i.toNat).dim + dimR L (j :: l) := rfl
    have e2 : sgnR L (i :: j :: l) = (at_ L i.toNat).sign * sgnR L (j :: l) := rfl
    have e3 : canR L (i :: j :: l) tot = (List.range 8).any fun t => legalB (wO (at_ L i.toNat) (t : Int)) && canR L (j :: l) ((tot + 8 - (t : Int)) % 8) := rfl
    have h3 := h1.2.1
    rw [e1] at hd
    rw [e1, e2, e3, ← lgB_two h3 hp hd h1.2.2.1 (sgnR_pm h2) ht]
    congr 1
    funext t
    rw [legal_lg h1, canR_lg (by simp) h2 (by omega) (by omega)]

/- what is chosen is legal and adds up -/
theorem findT_some {p : Nat → Bool} : ∀ {n t t0 : Nat}, findT p n t = some t0 → p t0 = true ∧ t ≤ t0 ∧ t0 < t + n ∧ ∀ u, t ≤ u → u < t0 → p u = false
  | 0, _, _, h => by cases h
  | n + 1, t, t0, h => by
    simp only [findT] at h
    cases hp : p t with
    | true =>
      rw [hp] at h
      cases h
      exact ⟨hp, by omega, by omega, fun u _ _ => by omega⟩
    | false =>
      rw [hp] at h
      obtain ⟨h1, h2, h3, h4⟩ := findT_some (show findT p n (t + 1) = some t0 from h)
      refine ⟨h1, by omega, by omega, fun u hu hu' => ?_⟩
      rcases Nat.lt_or_ge t u with hlt | hlt
      · exact h4 u (by omega) hu'
      · have : u = t := by omega
        rw [this]; exact hp
theorem trF_agr : ∀ {l : List Int} {tot : Int} {M R : List Con}, (∀ x ∈ l, 0 ≤ x) → trF l tot M = some R → agr l R M
  | [], tot, M, R, _, h => by cases h; exact .refl _ _
  | i :: l, tot, M, R, h0, h => by
    simp only [trF] at h
    split at h
    · cases h
    · rename_i t ht
      have := trF_agr (fun x hx => h0 x (List.mem_cons_of_mem _ hx)) h
      exact (this.mono (fun x hx => List.mem_cons_of_mem _ hx)).trans (setO_agr (h0 i List.mem_cons_self) List.mem_cons_self)
theorem trF_ok : ∀ {l : List Int} {tot : Int} {M R : List Con}, l.Nodup → inR M.length l → canR M l tot = true → trF l tot M = some R → (∀ x ∈ l, legalB (at_ R x.toNat) = true) ∧ (sumO R l - tot) % 8 = 0
  | [], tot, M, R, _, _, hc, h => by
    have : tot = 0 := by simpa [canR] using hc
    exact ⟨fun x hx => by simp at hx, by simp [sumO, this]⟩
  | i :: l, tot, M, R, hd, hl, hc, h => by
    simp only [trF] at h
    split at h
    · cases h
    · rename_i t ht
      obtain ⟨h1, _, h2, _⟩ := findT_some ht
      simp only [lstP, Bool.and_eq_true] at h1
      have hi := hl i List.mem_cons_self
      have hl' : ∀ x ∈ l, 0 ≤ x ∧ x < (M.length : Int) := fun x hx => hl x (List.mem_cons_of_mem _ hx)
      rw [List.nodup_cons] at hd
      have ha := trF_agr (fun x hx => (hl' x hx).1) h
      have hc' : canR (setO M i (t : Int)) l ((tot - (t : Int) + 8) % 8) = true := by
        rw [canR_agr (setO_agr (l := [i]) hi.1 (by simp)).eq]; exact h1.2
      obtain ⟨h3, h4⟩ := trF_ok hd.2 (by rw [setO_len]; exact hl') hc' h
      have e : at_ R i.toNat = wO (at_ M i.toNat) (t : Int) := by
        rw [ha.out i.toNat (by rw [Int.toNat_of_nonneg hi.1]; exact hd.1), at_own (by omega)]
      refine ⟨fun x hx => ?_, ?_⟩
      · rcases List.mem_cons.1 hx with rfl | hx
        · rw [e]; exact h1.1
        · exact h3 x hx
      · have e2 : (at_ R i.toNat).oddity = (t : Int) := by rw [e]; rfl
        simp only [sumO, e2]
        omega
end Go.Proofs.YtcfdaddablojlaaGreatDoor.S

/- Plain: the oddity of a whole list; a walk keeps it. -/
set_option linter.unusedSimpArgs false
set_option linter.unusedVariables false
namespace Go.Proofs.YtcfdaddablojlaaGreatDoor.S
open Go.QfSy Go.RowKit

def sumN (f : Nat → Int) : Nat → Int
  | 0 => 0
  | n + 1 => sumN f n + f n
def oddW (c : Con) : Int := c.oddity + (if c.exp % 2 = 1 ∧ c.sign = -1 then 4 else 0)
def oddVM (L : List Con) : Int := sumN (fun k => oddW (at_ L k)) L.length % 8
theorem sumN_add (f g : Nat → Int) (n : Nat) : sumN (fun k => f k + g k) n = sumN f n + sumN g n := by
  induction n with
  | zero => rfl
  | succ n ih => simp only [sumN, ih]; omega
theorem sumN_ind (a : Nat) (c : Int) (n : Nat) : sumN (fun k => if k = a then c else 0) n = if a < n then c else 0 := by
  induction n with
  | zero => simp [sumN]
  | succ n ih =>
    simp only [sumN, ih]
    by_cases h1 : a < n
    · rw [if_pos h1, if_neg (by omega), if_pos (by omega)]; omega
    · by_cases h2 : n = a
      · rw [if_neg h1, if_pos h2, if_pos (by omega)]; omega
      · rw [if_neg h1, if_neg h2, if_neg (by omega)]; omega
theorem sumN_mod {f g d : Nat → Int} : ∀ {n : Nat}, (∀ k, k < n → (f k - g k - 4 * d k) % 8 = 0) → (sumN f n - sumN g n - 4 * sumN d n) % 8 = 0
  | 0, _ => rfl
  | n + 1, h => by
    have h1 := h n (by omega)
    have ih := sumN_mod (f := f) (g := g) (d := d) (n := n) (fun k hk => h k (by omega))
    simp only [sumN]
    omega
def expB (L : List Con) (k : Nat) : Int := if (at_ L k).exp % 2 = 1 then 1 else 0
/- the change at k, in fours -/
def chg (L : List Con) (i k : Nat) : Int := (if k = i then expB L i else 0) + (if k = i - 1 then expB L (i - 1) else 0) + (if hitB L i k = true then 1 else 0)
theorem sgn4 (e s : Int) (hs : s = 1 ∨ s = -1) (b : Bool) : ((if e % 2 = 1 ∧ (bif b then -s else s) = -1 then (4 : Int) else 0) - (if e % 2 = 1 ∧ s = -1 then (4 : Int) else 0) - 4 * (if b = true then (if e % 2 = 1 then 1 else 0) else 0)) % 8 = 0 := by
  by_cases he : e % 2 = 1
  · cases b <;> rcases hs with h | h <;> subst h <;> simp [he]
  · cases b <;> simp [he]
theorem chg_at {L : List Con} (hL : okL L) {i k : Nat} (h1 : 1 ≤ i) (h2 : i < L.length) (hk : k < L.length) : (oddW (at_ (stepM L i) k) - oddW (at_ L k) - 4 * chg L i k) % 8 = 0 := by
  have ho := (hL.at hk).2.2.2
  have hsg := (hL.at hk).2.2.1
  rw [step_at h1 h2 hk]
  unfold oddW stepC chg
  simp only
  have hexp : ∀ e : Int, (if k = i then expB L i else 0) + (if k = i - 1 then expB L (i - 1) else 0) = (if (k == i || k == i - 1) = true then expB L k else 0) := by
    intro _
    by_cases e1 : k = i
    · subst e1; rw [if_pos rfl, if_neg (by omega)]; simp
    · by_cases e2 : k = i - 1
      · subst e2; rw [if_neg e1, if_pos rfl]; simp
      · rw [if_neg e1, if_neg e2]; simp [e1, e2]
  rw [hexp 0]
  have hd : ∀ b : Bool, ((bif b then ((at_ L k).oddity + 4) % 8 else (at_ L k).oddity) - (at_ L k).oddity - 4 * (if b = true then 1 else 0)) % 8 = 0 := by
    intro b; cases b
    · simp
    · simp only [cond_true, if_true]; omega
  have hs := fun b => sgn4 (at_ L k).exp (at_ L k).sign hsg b
  have a1 := hd (hitB L i k)
  have a2 := hs (k == i || k == i - 1)
  unfold expB
  omega
theorem odd_step {L : List Con} (hL : okL L) {i : Nat} (h1 : 1 ≤ i) (h2 : i < L.length) (hl : linkM L i = true) : oddVM (stepM L i) = oddVM L := by
  have hm := sumN_mod (f := fun k => oddW (at_ (stepM L i) k)) (g := fun k => oddW (at_ L k)) (d := chg L i) (n := L.length) (fun k hk => chg_at hL h1 h2 hk)
  have b1 := part0 (L := L) (by omega) ((i : Int) - 1)
  have b2 := part0 (L := L) (by omega) (i : Int)
  have e0 : ((i - 1 : Nat) : Int) = (i : Int) - 1 := by omega
  have pA : 0 < (partM L ((i : Int) - 1)).length ↔ oddB L (i - 1) = true := by
    rw [← e0]
    constructor
    · intro h
      cases ho : oddB L (i - 1) with
      | true => rfl
      | false => rw [partM_even (fun h => by rw [h.2] at ho; cases ho)] at h; simp at h
    · intro h; exact pos_of_mem (partM_odd (by omega) h).2
  have pB : 0 < (partM L (i : Int)).length ↔ oddB L i = true := by
    constructor
    · intro h
      cases ho : oddB L i with
      | true => rfl
      | false => rw [partM_even (fun h => by rw [h.2] at ho; cases ho)] at h; simp at h
    · intro h; exact pos_of_mem (partM_odd h2 h).2
  -- the number of oddities that change
  have hits : ∀ c : Int, (∀ k, k < L.length → (if hitB L i k = true then (1 : Int) else 0) = (if k = ((partM L ((i : Int) - 1)).getD 0 0).toNat then (if oddB L (i - 1) = true then 1 else 0) else 0) + (if k = ((partM L (i : Int)).getD 0 0).toNat then c else 0)) →
      sumN (chg L i) L.length = expB L i + expB L (i - 1) + (if oddB L (i - 1) = true then 1 else 0) + c := by
    intro c hc
    have e : ∀ n, n ≤ L.length → sumN (chg L i) n = sumN (fun k => ((if k = i then expB L i else 0) + (if k = i - 1 then expB L (i - 1) else 0)) + ((if k = ((partM L ((i : Int) - 1)).getD 0 0).toNat then (if oddB L (i - 1) = true then 1 else 0) else 0) + (if k = ((partM L (i : Int)).getD 0 0).toNat then c else 0))) n := by
      intro n
      induction n with
      | zero => intro _; rfl
      | succ n ih =>
        intro hn
        simp only [sumN]
        rw [ih (by omega)]
        unfold chg
        rw [hc n (by omega)]
    have f1 : i - 1 < L.length := by omega
    have f2 : ((partM L ((i : Int) - 1)).getD 0 0).toNat < L.length := by omega
    have f3 : ((partM L (i : Int)).getD 0 0).toNat < L.length := by omega
    rw [e _ (Nat.le_refl _), sumN_add, sumN_add, sumN_add, sumN_ind, sumN_ind, sumN_ind, sumN_ind, if_pos h2, if_pos f1, if_pos f2, if_pos f3]
    omega
  have fin : ∀ m : Int, sumN (chg L i) L.length = 2 * m → oddVM (stepM L i) = oddVM L := by
    intro m hc
    unfold oddVM
    rw [stepM_len]
    rw [hc] at hm
    omega
  have hp : ∀ k, (((partM L ((i : Int) - 1)).getD 0 0).toNat == k) = decide (k = ((partM L ((i : Int) - 1)).getD 0 0).toNat) := by
    intro k; rw [Bool.eq_iff_iff, beq_iff_eq, decide_eq_true_eq]; exact eq_comm
  have hq : ∀ k, (((partM L (i : Int)).getD 0 0).toNat == k) = decide (k = ((partM L (i : Int)).getD 0 0).toNat) := by
    intro k; rw [Bool.eq_iff_iff, beq_iff_eq, decide_eq_true_eq]; exact eq_comm
  have hit : ∀ k, hitB L i k = ((oddB L (i - 1) && decide (k = ((partM L ((i : Int) - 1)).getD 0 0).toNat)) || (oddB L i && decide (k = ((partM L (i : Int)).getD 0 0).toNat))) := by
    intro k
    unfold hitB
    rw [hp, hq]
    have dA : decide (0 < (partM L ((i : Int) - 1)).length) = oddB L (i - 1) := by rw [Bool.eq_iff_iff, decide_eq_true_eq]; exact pA
    have dB : decide (0 < (partM L (i : Int)).length) = oddB L i := by rw [Bool.eq_iff_iff, decide_eq_true_eq]; exact pB
    rw [dA, dB]
  unfold linkM at hl
  cases d1 : ((at_ L i).exp - (at_ L (i - 1)).exp == 1) with
  | true =>
    rw [d1] at hl
    have d1 := beq_iff_eq.1 d1
    have hx : expB L i + expB L (i - 1) = 1 := by unfold expB; split <;> split <;> omega
    cases oA : oddB L (i - 1) with
    | true =>
      have oA' : (at_ L (i - 1)).odd = true := oA
      cases oB : oddB L i with
      | true =>
        have hj : joinB L i = true := by
          unfold joinB
          rw [oA', decide_eq_true (by omega), decide_eq_true (by omega)]; rfl
        have ep := join_part h2 oB hj
        refine fin 1 ?_
        rw [hits 0 (fun k _ => ?_), oA]
        · simp; omega
        · rw [hit, oA, oB, ep]; simp
      | false =>
        refine fin 1 ?_
        rw [hits 0 (fun k _ => ?_), oA]
        · simp; omega
        · rw [hit, oA, oB]; simp
    | false =>
      have oA' : (at_ L (i - 1)).odd = false := oA
      cases oB : oddB L i with
      | true =>
        refine fin 1 ?_
        rw [hits 1 (fun k _ => ?_), oA]
        · simp; omega
        · rw [hit, oA, oB]; simp
      | false =>
        have oB' : (at_ L i).odd = false := oB
        rw [oA', oB'] at hl; cases hl
  | false =>
    rw [d1] at hl
    cases d2 : ((at_ L i).exp - (at_ L (i - 1)).exp == 2) with
    | false => rw [d2] at hl; cases hl
    | true =>
      rw [d2] at hl
      simp only [cond_false, cond_true, Bool.and_eq_true] at hl
      have d2 := beq_iff_eq.1 d2
      have hx : expB L i = expB L (i - 1) := by unfold expB; split <;> split <;> omega
      have oA : oddB L (i - 1) = true := hl.1
      have oB : oddB L i = true := hl.2
      have hj : joinB L i = false := by
        unfold joinB
        rw [decide_eq_false (p := (at_ L (i - 1)).exp = (at_ L i).exp - 1) (by omega)]; simp
      have hne := apart_part h2 oB hj (by omega) oA
      refine fin (expB L i + 1) ?_
      rw [hits 1 (fun k _ => ?_), oA]
      · simp; omega
      · rw [hit, oA, oB]
        simp only [Bool.true_and, if_true]
        by_cases e1 : k = ((partM L ((i : Int) - 1)).getD 0 0).toNat
        · have e2 : ¬ k = ((partM L (i : Int)).getD 0 0).toNat := by omega
          rw [decide_eq_true e1, decide_eq_false e2, if_pos e1, if_neg e2]; rfl
        · rw [decide_eq_false e1, if_neg e1]
          by_cases e2 : k = ((partM L (i : Int)).getD 0 0).toNat
          · rw [decide_eq_true e2, if_pos e2]; rfl
          · rw [decide_eq_false e2, if_neg e2]; rfl
end Go.Proofs.YtcfdaddablojlaaGreatDoor.S

/- Plain: the refinement of a fused list is raw and fuses to it. -/
set_option linter.unusedSimpArgs false
set_option linter.unusedVariables false
namespace Go.Proofs.YtcfdaddablojlaaGreatDoor.S
open Go.QfSy Go.RowKit

theorem first_mem {l : List Int} (h : l ≠ []) : l.getD 0 0 ∈ l := by cases l with | nil => exact absurd rfl h | cons a l => simp
theorem trG_ok : ∀ {P : List (List Int)} {M : List Con}, P.flatten.Nodup → (∀ l ∈ P, l ≠ [] ∧ inR M.length l) → (∀ l ∈ P, canR M l (at_ M (l.getD 0 0).toNat).oddity = true) →
    ∃ R, trG P M = some R ∧ agr P.flatten R M ∧ ∀ l ∈ P, (∀ x ∈ l, legalB (at_ R x.toNat) = true) ∧ (sumO R l - (at_ M (l.getD 0 0).toNat).oddity) % 8 = 0
  | [], M, _, _, _ => ⟨M, rfl, .refl _ _, fun l hl => by simp at hl⟩
  | l :: P, M, hd, hP, hc => by
    obtain ⟨h1, h2⟩ := hP l List.mem_cons_self
    have hc1 := hc l List.mem_cons_self
    obtain ⟨a1, a2, a3⟩ := ref_spec (l := l) (n := M.length) h2
    have ht := a3 _ M M rfl hc1 (.refl _ _)
    generalize (refF l (at_ M (l.getD 0 0).toNat).oddity M).2 = M1 at ht
    simp only [List.flatten_cons, List.nodup_append] at hd
    have ha := trF_agr (fun x hx => (h2 x hx).1) ht
    have hok := trF_ok hd.1 h2 hc1 ht
    have hout : ∀ q ∈ P, ∀ x ∈ q, at_ M1 x.toNat = at_ M x.toNat := fun q hq x hx => ha.out x.toNat (fun hm => by
      have hx0 := ((hP q (List.mem_cons_of_mem _ hq)).2 x hx).1
      rw [Int.toNat_of_nonneg hx0] at hm
      exact hd.2.2 x hm x (List.mem_flatten.2 ⟨q, hq, hx⟩) rfl)
    have hP' : ∀ q ∈ P, q ≠ [] ∧ inR M1.length q := fun q hq => by rw [ha.len]; exact hP q (List.mem_cons_of_mem _ hq)
    have hfirst : ∀ q ∈ P, at_ M1 (q.getD 0 0).toNat = at_ M (q.getD 0 0).toNat := fun q hq => hout q hq _ (first_mem (hP' q hq).1)
    obtain ⟨R, r1, r2, r3⟩ := trG_ok hd.2.1 hP' (fun q hq => by rw [canR_agr ha.eq, hfirst q hq]; exact hc q (List.mem_cons_of_mem _ hq))
    refine ⟨R, by simp only [trG, ht]; exact r1, (r2.mono (fun x hx => by simp only [List.flatten_cons, List.mem_append]; exact .inr hx)).trans (ha.mono (fun x hx => by simp only [List.flatten_cons, List.mem_append]; exact .inl hx)), fun q hq => ?_⟩
    rcases List.mem_cons.1 hq with rfl | hq
    · have e : ∀ x ∈ q, at_ R x.toNat = at_ M1 x.toNat := fun x hx => r2.out x.toNat (fun hm => by
        rw [Int.toNat_of_nonneg (h2 x hx).1] at hm
        exact hd.2.2 x hx x hm rfl)
      exact ⟨fun x hx => by rw [e x hx]; exact hok.1 x hx, by rw [sumO_agree e]; exact hok.2⟩
    · rw [← hfirst q hq]; exact r3 q hq
theorem trG_none : ∀ {P : List (List Int)} {M : List Con}, P.flatten.Nodup → (∀ l ∈ P, l ≠ [] ∧ inR M.length l) → ∀ l ∈ P, canR M l (at_ M (l.getD 0 0).toNat).oddity = false → trG P M = none
  | [], M, _, _, l, hl, _ => by simp at hl
  | l :: P, M, hd, hP, q, hq, hc => by
    obtain ⟨h1, h2⟩ := hP l List.mem_cons_self
    cases hcl : canR M l (at_ M (l.getD 0 0).toNat).oddity with
    | false => simp only [trG, trF_none h1 hcl]
    | true =>
      rcases List.mem_cons.1 hq with rfl | hq
      · rw [hc] at hcl; cases hcl
      obtain ⟨a1, a2, a3⟩ := ref_spec (l := l) (n := M.length) h2
      have ht := a3 _ M M rfl hcl (.refl _ _)
      generalize (refF l (at_ M (l.getD 0 0).toNat).oddity M).2 = M1 at ht
      simp only [List.flatten_cons, List.nodup_append] at hd
      have ha := trF_agr (fun x hx => (h2 x hx).1) ht
      have hqr := hP q (List.mem_cons_of_mem _ hq)
      have e : at_ M1 (q.getD 0 0).toNat = at_ M (q.getD 0 0).toNat := ha.out _ (fun hm => by
        have hx := first_mem hqr.1
        rw [Int.toNat_of_nonneg (hqr.2 _ hx).1] at hm
        exact hd.2.2 _ hm _ (List.mem_flatten.2 ⟨q, hq, hx⟩) rfl)
      simp only [trG, ht]
      exact trG_none hd.2.1 (fun r hr => by rw [ha.len]; exact hP r (List.mem_cons_of_mem _ hr)) q hq (by rw [canR_agr ha.eq, e]; exact hc)

/- the numbers of a fused list -/
theorem sh_at : ∀ {L : List Con} {l s : Int}, -1 ≤ l → 0 ≤ s → shL L l s = true → (∀ c ∈ L, 0 ≤ c.exp ∧ c.exp ≤ 60 ∧ 1 ≤ c.dim ∧ c.dim ≤ 8) ∧ (dimS L ≤ 8 - s ∨ L = []) ∧ (L.length : Int) ≤ dimS L
  | [], _, _, _, _, _ => ⟨fun c hc => by simp at hc, .inr rfl, by simp [dimS]⟩
  | c :: L, l, s, h0, hs, h => by
    simp only [shL, shO, Bool.and_eq_true, decide_eq_true_eq] at h
    obtain ⟨h1, h2⟩ := h
    obtain ⟨i1, i2, i3⟩ := sh_at (L := L) (l := c.exp) (s := s + c.dim) (by omega) (by omega) h2
    refine ⟨fun x hx => ?_, .inl ?_, ?_⟩
    · rcases List.mem_cons.1 hx with rfl | hx
      · omega
      · exact i1 x hx
    · simp only [dimS]
      rcases i2 with i2 | i2
      · omega
      · rw [i2]; simp only [dimS]; omega
    · simp only [dimS, List.length_cons]
      omega
structure FusAt (c : Con) : Prop where
  exp : 0 ≤ c.exp ∧ c.exp ≤ 60
  dim : 1 ≤ c.dim ∧ c.dim ≤ 8
  sign : c.sign = 1 ∨ c.sign = -1
  odt : 0 ≤ c.oddity ∧ c.oddity ≤ 7
  even : c.odd = false → c.dim % 2 = 0 ∧ c.oddity = 0
theorem fus_parts {L : List Con} (h : fusM 2 L = true) : shL L (-1) 0 = true ∧ 0 < L.length ∧ L.length ≤ 8 ∧ dimS L ≤ 8 ∧ ∀ k, k < L.length → FusAt (at_ L k) := by
  rw [← fus_eq] at h
  simp only [fusT, shapeM, Bool.and_eq_true] at h
  obtain ⟨⟨_, h1, h2⟩, h3, _⟩ := h
  obtain ⟨i1, i2, i3⟩ := sh_at (by decide) (by decide) h2
  have hne : L ≠ [] := by intro e; rw [e] at h1; cases h1
  have hd : dimS L ≤ 8 := by rcases i2 with i2 | i2; omega; exact absurd i2 hne
  refine ⟨h2, List.length_pos_iff.2 hne, by omega, hd, fun k hk => ?_⟩
  have e : at_ L k = L[k] := by simp [at_, hk]
  have h4 := i1 _ (List.getElem_mem hk)
  have h5 := (all_at _).1 h3 k hk
  rw [← e] at h4
  simp only [Bool.and_eq_true, sgB, fusC, decide_eq_true_eq, Bool.or_eq_true] at h5
  exact ⟨⟨h4.1, h4.2.1⟩, h4.2.2, h5.1, h5.2.1, fun ho => by rcases h5.2.2 with h | h; rw [ho] at h; cases h; exact h⟩
theorem fus_okL {L : List Con} (h : fusM 2 L = true) : okL L := by
  obtain ⟨_, _, h1, _, h2⟩ := fus_parts h
  refine ⟨by omega, fun c hc => ?_⟩
  obtain ⟨k, hk, rfl⟩ := List.getElem_of_mem hc
  have := h2 k hk
  rw [show at_ L k = L[k] by simp [at_, hk]] at this
  exact ⟨⟨this.exp.1, by have := this.exp.2; omega⟩, ⟨this.dim.1, by have := this.dim.2; omega⟩, this.sign, this.odt⟩
theorem sumN_dim {L : List Con} : ∀ {k : Nat}, k ≤ L.length → sumN (fun j => (at_ L j).dim) k = dimS (L.take k)
  | 0, _ => rfl
  | k + 1, h => by rw [sumN, sumN_dim (by omega), dimS_take (by omega)]
theorem dimR_append (L : List Con) (a b : List Int) : dimR L (a ++ b) = dimR L a + dimR L b := by
  induction a with
  | nil => simp [dimR]
  | cons c a ih => simp only [List.cons_append, dimR, ih]; omega
theorem dimR_iv {L : List Con} {s : Nat} : ∀ {n : Nat}, dimR L (ivN s n) = sumN (fun j => (at_ L j).dim) (s + n) - sumN (fun j => (at_ L j).dim) s
  | 0 => by simp [ivN, dimR]
  | n + 1 => by
    rw [ivN_append, dimR_append, dimR_iv, show s + (n + 1) = (s + n) + 1 from rfl]
    have e : sumN (fun j => (at_ L j).dim) (s + n + 1) = sumN (fun j => (at_ L j).dim) (s + n) + (at_ L (s + n)).dim := rfl
    rw [e]
    simp only [dimR, Int.toNat_natCast]
    omega
theorem sumN_mono {f : Nat → Int} : ∀ {n m : Nat}, n ≤ m → (∀ k, k < m → 0 ≤ f k) → sumN f n ≤ sumN f m
  | n, 0, h, _ => by have : n = 0 := by omega
                     subst this; exact Int.le_refl _
  | n, m + 1, h, hf => by
    rcases Nat.lt_or_ge n (m + 1) with h1 | h1
    · have := sumN_mono (f := f) (n := n) (m := m) (by omega) (fun k hk => hf k (by omega))
      have := hf m (by omega)
      simp only [sumN]; omega
    · have : n = m + 1 := by omega
      subst this; exact Int.le_refl _
theorem row_dim {L : List Con} (h : fusM 2 L = true) {l : List Int} (hl : l ∈ partsM L) : dimR L l ≤ 8 := by
  obtain ⟨_, _, _, hd, hF⟩ := fus_parts h
  obtain ⟨s, n, rfl, _, hb⟩ := part_row hl
  have hin := (parts_rows _ hl).2.1
  have hlast : s + (n + 1) ≤ L.length := by
    have := (hin ((s + n : Nat) : Int) (mem_ivN.2 (by omega))).2
    omega
  rw [dimR_iv]
  have e : sumN (fun j => (at_ L j).dim) L.length = dimS L := by rw [sumN_dim (Nat.le_refl _), List.take_length]
  have h1 := sumN_mono (f := fun j => (at_ L j).dim) (n := s + (n + 1)) (m := L.length) hlast (fun k hk => by have := (hF k hk).dim.1; show 0 ≤ (at_ L k).dim; omega)
  have h2 := sumN_mono (f := fun j => (at_ L j).dim) (n := 0) (m := s) (by omega) (fun k hk => by have := (hF k (by omega)).dim.1; show 0 ≤ (at_ L k).dim; omega)
  have h3 : sumN (fun j => (at_ L j).dim) 0 = 0 := rfl
  omega
theorem row_ok {L : List Con} (h : fusM 2 L = true) {l : List Int} (hl : l ∈ partsM L) : ∀ x ∈ l, oddOk (at_ L x.toNat) := by
  intro x hx
  obtain ⟨h1, h2, h3⟩ := row_odd hl x hx
  have := (fus_parts h).2.2.2.2 x.toNat (by omega)
  exact ⟨this.exp, this.dim.1, this.sign, h3⟩
/- a compartment can be refined -/
def lgRow (L : List Con) (l : List Int) : Bool := lgB (dimR L l) (sgnR L l) (at_ L (l.getD 0 0).toNat).oddity
theorem row_lg {L : List Con} (h : fusM 2 L = true) {l : List Int} (hl : l ∈ partsM L) : canR L l (at_ L (l.getD 0 0).toNat).oddity = lgRow L l := by
  obtain ⟨h1, h2, _⟩ := parts_rows l hl
  have hf := h2 _ (first_mem h1)
  have := ((fus_parts h).2.2.2.2 (l.getD 0 0).toNat (by omega)).odt
  exact canR_lg h1 (row_ok h hl) (row_dim h hl) ⟨this.1, by omega⟩
def lgAll (L : List Con) : Bool := (partsM L).all (lgRow L)
theorem ref_none {L : List Con} (h : fusM 2 L = true) (hl : lgAll L = false) : refM L = none := by
  rw [← trG_refM h]
  rw [lgAll, List.all_eq_false] at hl
  obtain ⟨l, hm, hf⟩ := hl
  exact trG_none (parts_nodup L) (fun l hl => ⟨(parts_rows l hl).1, (parts_rows l hl).2.1⟩) l hm (by rw [row_lg h hm]; simpa using hf)
theorem agr_same {l : List Int} {A B : List Con} (h : agr l A B) : sameT A B ∧ ∀ k, (at_ A k).sign = (at_ B k).sign :=
  ⟨⟨h.len, fun k _ => ⟨(congrArg Con.exp (h.eq k) :), (congrArg Con.odd (h.eq k) :), (congrArg Con.dim (h.eq k) :)⟩⟩, fun k => (congrArg Con.sign (h.eq k) :)⟩
theorem con_ext {c d : Con} (h1 : c.exp = d.exp) (h2 : c.dim = d.dim) (h3 : c.sign = d.sign) (h4 : c.odd = d.odd) (h5 : c.oddity = d.oddity) : c = d := by
  cases c; cases d; simp_all
theorem ref_some {L : List Con} (h : fusM 2 L = true) (hl : lgAll L = true) : ∃ R, refM L = some R ∧ agr (partsM L).flatten R L ∧ val2M 2 R = true ∧ fuseM R = L := by
  rw [← trG_refM h]
  rw [lgAll, List.all_eq_true] at hl
  obtain ⟨R, r1, r2, r3⟩ := trG_ok (parts_nodup L) (fun l hl => ⟨(parts_rows l hl).1, (parts_rows l hl).2.1⟩) (fun l hm => by rw [row_lg h hm]; exact hl l hm)
  obtain ⟨hs, hsg⟩ := agr_same r2
  obtain ⟨f1, f2, f3, f4, f5⟩ := fus_parts h
  refine ⟨R, r1, r2, ?_, ?_⟩
  · rw [val2_sh, shape_same hs, Bool.and_eq_true]
    refine ⟨?_, (all_at _).2 (fun k hk => ?_)⟩
    · have h' := h
      rw [← fus_eq] at h'
      simp only [fusT, Bool.and_eq_true] at h'
      exact h'.1
    · have hk' : k < L.length := by rw [← hs.1]; exact hk
      cases ho : oddB L k with
      | true =>
        obtain ⟨p1, p2⟩ := partM_odd hk' ho
        have := (r3 _ p1).1 _ p2
        simpa using this
      | false =>
        rw [r2.out k (fun hm => by have := (mem_parts.1 hm).2; rw [ho] at this; cases this)]
        have hF := f5 k hk'
        have ho : (at_ L k).odd = false := ho
        refine decide_eq_true ⟨hF.exp, hF.dim, hF.sign, hF.odt, fun _ => hF.even ho, fun h => by rw [ho] at h; cases h⟩
  · refine list_ext (by rw [fuseM_len]; exact hs.1) (fun k hk => ?_)
    rw [fuseM_len] at hk
    have hk' : k < L.length := by rw [← hs.1]; exact hk
    obtain ⟨q1, q2, q3⟩ := hs.2 k hk
    cases ho : oddB L k with
    | false =>
      have ho' : oddB R k = false := by unfold oddB; rw [q2]; exact ho
      rw [fuseM_even ho' hk]
      exact r2.out k (fun hm => by have := (mem_parts.1 hm).2; rw [ho] at this; cases this)
    | true =>
      obtain ⟨p1, p2⟩ := partM_odd hk' ho
      obtain ⟨g1, g2⟩ := fuseM_same (L := R)
      have g2 := g2 k (by rw [fuseM_len]; exact hk)
      refine con_ext (g2.1.trans q1) (g2.2.2.trans q3) (sign_fuseM.trans (hsg k)) (g2.2.1.trans q2) ?_
      rw [fuseM_at (by rw [parts_same hs]; exact p1) p2]
      have ft := (fus_tot h) _ p1
      split
      · rename_i hk1
        have e := (r3 _ p1).2
        rw [← hk1] at e
        simp only [Int.toNat_natCast] at e
        have := (f5 k hk').odt
        unfold totM
        omega
      · rename_i hk1
        have h' := h
        rw [← fus_eq] at h'
        simp only [fusT, Bool.and_eq_true] at h'
        have := List.all_eq_true.1 h'.2.2 _ p1
        simp only [Bool.and_eq_true, zerR] at this
        have := List.all_eq_true.1 this.1 (k : Int) (by
          generalize partM L (k : Int) = q at p2 hk1
          cases q with
          | nil => simp at p2
          | cons a q =>
            rcases List.mem_cons.1 p2 with e | e
            · exact absurd e hk1
            · exact e)
        rw [beq_iff_eq, Int.toNat_natCast] at this
        exact this.symm
end Go.Proofs.YtcfdaddablojlaaGreatDoor.S

/- train.shaped, Valid and Fused. -/
set_option linter.unusedSimpArgs false
set_option linter.unusedVariables false
namespace Go.Proofs.YtcfdaddablojlaaGreatDoor.S
open Go.QfSy Go.RowKit

theorem sh_drop {L : List Con} {k : Nat} (hk : k < L.length) (l s : Int) : shL (L.drop k) l s = (shO (at_ L k) l s && shL (L.drop (k + 1)) (at_ L k).exp (s + (at_ L k).dim)) := by
  rw [drop_at hk]; rfl
noncomputable def shAnn (L : List Con) : Ann := ⟨⟨[(3, .int .i64 0), (4, .int .i64 (-1)), (17, (roC L).av), (18, .vint .i64 L.length), (19, .int .i64 0)], [], 1001⟩, some (shL L (-1) 0), fun d => match d with
  | true => (.exit 0, ⟨[], [], 1001⟩)
  | false => (.ret, ⟨[(2, .bool false)], [], 1001⟩)⟩
set_option maxRecDepth 100000 in
theorem sh_loop (L : List Con) (hn : L.length ≤ 1000) : AnnOk Tryz.prog EV.ng (Nat.max 1 Tryz.f60.ntmps) (bodyAt Tryz.f60 [0, 1, 0, 1, 1, 1]) (shAnn L) := by
  refine ann_of evOk (callF_ok evOk (noOrc_ok _ _) 8) none_ann (by kernel_rfl) (by kernel_rfl) (fun i : Nat × Int × Int => (fun (k : Nat) (s e : Int) => (⟨[(3, .vint .i64 s), (4, .vint .i64 e), (17, (roC L).av), (18, .vint .i64 L.length), (19, .vint .i64 (k : Int))], [], 1001⟩ : St)) i.1 i.2.1 i.2.2) (fun i : Nat × Int × Int => (fun (k : Nat) (s e : Int) => (L.length - k : Nat)) i.1 i.2.1 i.2.2) (fun (d : Bool) (i : Nat × Int × Int) => (fun (k : Nat) (s e : Int) => (k ≤ L.length ∧ (0 ≤ s ∧ s ≤ 8) ∧ shL (L.drop k) e s = d : Prop)) i.1 i.2.1 i.2.2) ?_ ?_
  · intro d hd
    exact ⟨(0, 0, -1), [(0 : Int) = (0 : Int), (-1 : Int) = (-1 : Int), L.length = L.length ∧ (fun i => (L.getD i Con.zero).rvs) = fun i => (L.getD i Con.zero).rvs, (↑L.length : Int) = (↑L.length : Int), (0 : Int) = (↑(0 : Nat) : Int)], by kernel_rfl, (by refine ⟨?_, ?_, ?_, ?_, (?_ : (0 : Int) = (↑(0 : Nat) : Int))⟩ <;> (first | rfl | assumption | omega | simp_all)), (by exact ⟨Nat.zero_le _, by decide, hd⟩)⟩
  · rintro d hd ⟨k, s, e⟩ hI
    cases d
    · -- d = false
      obtain ⟨hk, hs, hd'⟩ := hI
      have hs : 0 ≤ s ∧ s ≤ 8 := hs
      have hd' : shL (L.drop k) e s = _ := hd'
      have hk : k ≤ L.length := hk
      have ek : IntKind.i64.wrap ((k : Int) + 1) = ((k + 1 : Nat) : Int) := by rw [w64 (by omega) (by omega)]; omega
      have e8 : IntKind.i64.wrap (8 - s) = 8 - s := w64 (by omega) (by omega)
      refine Or.elim (Bool.eq_false_or_eq_true (decide ((↑k : Int) < (↑L.length : Int)))) (fun d1 => Or.elim (Bool.eq_false_or_eq_true (decide ((L.getD k Con.zero).exp ≤ e))) (fun d2 => ⟨[true, true], .inr ⟨[Dec (decide ((L.getD k Con.zero).exp ≤ e)) true, (0 : Int) ≤ (↑k : Int) ∧ (↑k : Int) < (↑L.length : Int), Dec (decide ((↑k : Int) < (↑L.length : Int))) true], by kernel_rfl, ⟨d2, ?_, d1⟩, rfl⟩⟩)
           (fun d2 => Or.elim (Bool.eq_false_or_eq_true (decide ((L.getD k Con.zero).exp > (60 : Int)))) (fun d3 => ⟨[true, false, true], .inr ⟨[Dec (decide ((L.getD k Con.zero).exp > (60 : Int))) true, Dec (decide ((L.getD k Con.zero).exp ≤ e)) false, (0 : Int) ≤ (↑k : Int) ∧ (↑k : Int) < (↑L.length : Int), Dec (decide ((↑k : Int) < (↑L.length : Int))) true], by kernel_rfl, ⟨d3, d2, ?_, d1⟩, rfl⟩⟩)
           (fun d3 => Or.elim (Bool.eq_false_or_eq_true (decide ((L.getD k Con.zero).dim < (1 : Int)))) (fun d4 => ⟨[true, false, false, true], .inr ⟨[Dec (decide ((L.getD k Con.zero).dim < (1 : Int))) true, Dec (decide ((L.getD k Con.zero).exp > (60 : Int))) false, Dec (decide ((L.getD k Con.zero).exp ≤ e)) false, (0 : Int) ≤ (↑k : Int) ∧ (↑k : Int) < (↑L.length : Int), Dec (decide ((↑k : Int) < (↑L.length : Int))) true], by kernel_rfl, ⟨d4, d3, d2, ?_, d1⟩, rfl⟩⟩)
           (fun d4 => Or.elim (Bool.eq_false_or_eq_true (decide ((L.getD k Con.zero).dim > IntKind.i64.wrap ((8 : Int) - s)))) (fun d5 => ⟨[true, false, false, false, true], .inr ⟨[Dec (decide ((L.getD k Con.zero).dim > IntKind.i64.wrap ((8 : Int) - s))) true, Dec (decide ((L.getD k Con.zero).dim < (1 : Int))) false, Dec (decide ((L.getD k Con.zero).exp > (60 : Int))) false, Dec (decide ((L.getD k Con.zero).exp ≤ e)) false, (0 : Int) ≤ (↑k : Int) ∧ (↑k : Int) < (↑L.length : Int), Dec (decide ((↑k : Int) < (↑L.length : Int))) true], by kernel_rfl, ⟨d5, d4, d3, d2, ?_, d1⟩, rfl⟩⟩)
           (fun d5 => ⟨[true, false, false, false, false], .inl ⟨(k + 1, s + (at_ L k).dim, (at_ L k).exp), [IntKind.i64.wrap (s + (L.getD k Con.zero).dim) = s + (at_ L k).dim, (L.getD k Con.zero).exp = (at_ L k).exp, L.length = L.length ∧ (fun i => (L.getD i Con.zero).rvs) = fun i => (L.getD i Con.zero).rvs, (↑L.length : Int) = (↑L.length : Int), IntKind.i64.wrap ((↑k : Int) + (1 : Int)) = (↑(k + (1 : Nat)) : Int), Dec (decide ((L.getD k Con.zero).dim > IntKind.i64.wrap ((8 : Int) - s))) false, Dec (decide ((L.getD k Con.zero).dim < (1 : Int))) false, Dec (decide ((L.getD k Con.zero).exp > (60 : Int))) false, Dec (decide ((L.getD k Con.zero).exp ≤ e)) false, (0 : Int) ≤ (↑k : Int) ∧ (↑k : Int) < (↑L.length : Int), Dec (decide ((↑k : Int) < (↑L.length : Int))) true], by kernel_rfl, ⟨?_, ?_, ?_, ?_, ?_, d5, d4, d3, d2, ?_, d1⟩, MuG.out ?_, InG.out ?_⟩⟩)))))
           (fun d1 => CtG.no ?_)
      all_goals first | (refine MuG.mk ?_; (simp only [decide_eq_true_eq] at *; show L.length - (k + 1) < L.length - k; omega)) | (refine InG.mk ?_; (simp only [e8, Int.toNat_natCast, decide_eq_true_eq, decide_eq_false_iff_not, gt_iff_lt] at *; rw [sh_drop (by omega), show shO (at_ L k) e s = true from decide_eq_true ⟨by simp only [at_]; omega, by simp only [at_]; omega, by simp only [at_]; omega, by simp only [at_]; omega⟩] at hd'; exact ⟨by omega, by simp only [at_]; omega, hd'⟩)) | (refine CtG.mk ?_; (simp only [e8, Int.toNat_natCast, decide_eq_true_eq, decide_eq_false_iff_not, gt_iff_lt] at *; first | (rw [List.drop_eq_nil_of_le (by omega)] at hd'; cases hd'; done) | (rw [sh_drop (by omega), show shO (at_ L k) e s = false from decide_eq_false (by simp only [at_]; omega)] at hd'; cases hd'; done))) | (first | (with_reducible rfl) | exact ⟨rfl, rfl⟩ | ((try simp only [ek, e8, at_, Int.toNat_natCast, decide_eq_true_eq, decide_eq_false_iff_not, gt_iff_lt] at *) <;> first | omega | (exact w64 (by omega) (by omega))))
    · -- d = true
      obtain ⟨hk, hs, hd'⟩ := hI
      have hs : 0 ≤ s ∧ s ≤ 8 := hs
      have hd' : shL (L.drop k) e s = _ := hd'
      have hk : k ≤ L.length := hk
      have ek : IntKind.i64.wrap ((k : Int) + 1) = ((k + 1 : Nat) : Int) := by rw [w64 (by omega) (by omega)]; omega
      have e8 : IntKind.i64.wrap (8 - s) = 8 - s := w64 (by omega) (by omega)
      refine Or.elim (Bool.eq_false_or_eq_true (decide ((↑k : Int) < (↑L.length : Int)))) (fun d1 => Or.elim (Bool.eq_false_or_eq_true (decide ((L.getD k Con.zero).exp ≤ e))) (fun d2 => CtG.no ?_)
           (fun d2 => Or.elim (Bool.eq_false_or_eq_true (decide ((L.getD k Con.zero).exp > (60 : Int)))) (fun d3 => CtG.no ?_)
           (fun d3 => Or.elim (Bool.eq_false_or_eq_true (decide ((L.getD k Con.zero).dim < (1 : Int)))) (fun d4 => CtG.no ?_)
           (fun d4 => Or.elim (Bool.eq_false_or_eq_true (decide ((L.getD k Con.zero).dim > IntKind.i64.wrap ((8 : Int) - s)))) (fun d5 => CtG.no ?_)
           (fun d5 => ⟨[true, false, false, false, false], .inl ⟨(k + 1, s + (at_ L k).dim, (at_ L k).exp), [IntKind.i64.wrap (s + (L.getD k Con.zero).dim) = s + (at_ L k).dim, (L.getD k Con.zero).exp = (at_ L k).exp, L.length = L.length ∧ (fun i => (L.getD i Con.zero).rvs) = fun i => (L.getD i Con.zero).rvs, (↑L.length : Int) = (↑L.length : Int), IntKind.i64.wrap ((↑k : Int) + (1 : Int)) = (↑(k + (1 : Nat)) : Int), Dec (decide ((L.getD k Con.zero).dim > IntKind.i64.wrap ((8 : Int) - s))) false, Dec (decide ((L.getD k Con.zero).dim < (1 : Int))) false, Dec (decide ((L.getD k Con.zero).exp > (60 : Int))) false, Dec (decide ((L.getD k Con.zero).exp ≤ e)) false, (0 : Int) ≤ (↑k : Int) ∧ (↑k : Int) < (↑L.length : Int), Dec (decide ((↑k : Int) < (↑L.length : Int))) true], by kernel_rfl, ⟨?_, ?_, ?_, ?_, ?_, d5, d4, d3, d2, ?_, d1⟩, MuG.out ?_, InG.out ?_⟩⟩)))))
           (fun d1 => ⟨[false], .inr ⟨[Dec (decide ((↑k : Int) < (↑L.length : Int))) false], by kernel_rfl, d1, rfl⟩⟩)
      all_goals first | (refine MuG.mk ?_; (simp only [decide_eq_true_eq] at *; show L.length - (k + 1) < L.length - k; omega)) | (refine InG.mk ?_; (simp only [e8, Int.toNat_natCast, decide_eq_true_eq, decide_eq_false_iff_not, gt_iff_lt] at *; rw [sh_drop (by omega), show shO (at_ L k) e s = true from decide_eq_true ⟨by simp only [at_]; omega, by simp only [at_]; omega, by simp only [at_]; omega, by simp only [at_]; omega⟩] at hd'; exact ⟨by omega, by simp only [at_]; omega, hd'⟩)) | (refine CtG.mk ?_; (simp only [e8, Int.toNat_natCast, decide_eq_true_eq, decide_eq_false_iff_not, gt_iff_lt] at *; first | (rw [List.drop_eq_nil_of_le (by omega)] at hd'; cases hd'; done) | (rw [sh_drop (by omega), show shO (at_ L k) e s = false from decide_eq_false (by simp only [at_]; omega)] at hd'; cases hd'; done))) | (first | (with_reducible rfl) | exact ⟨rfl, rfl⟩ | ((try simp only [ek, e8, at_, Int.toNat_natCast, decide_eq_true_eq, decide_eq_false_iff_not, gt_iff_lt] at *) <;> first | omega | (exact w64 (by omega) (by omega))))
set_option maxRecDepth 100000 in
theorem sh_pure (p : Int) (L : List Con) (hn : L.length ≤ 1000) : PureC Tryz.prog [] 60 [.agg [.int .i64 p, roC L]] (.bool (shapeM p L)) := by
  have rr := fun (tp : List Bool) (ms : List Prop) h hm => pure_run evOk (callF_ok evOk (noOrc_ok _ _) 8) Tryz.func60 (A := [.agg [.int .i64 p, roC L]]) (N := Nat.max 1 Tryz.f60.ntmps) rfl (one_ann (sh_loop L hn)) rfl rfl evNg (tabs := []) (R := .bool (shapeM p L)) (tp := tp) (ms := ms) h hm
  refine Or.elim (Bool.eq_false_or_eq_true (p == (2 : Int))) (fun d1 => Or.elim (Bool.eq_false_or_eq_true ((↑L.length : Int) == (0 : Int))) (fun d2 => rr [false, true] [false = shapeM p L, Dec ((↑L.length : Int) == (0 : Int)) true, Dec (p != (2 : Int)) false] (by kernel_rfl) ⟨?_, d2, (dN d1)⟩)
           (fun d2 => Or.elim (Bool.eq_false_or_eq_true (shL L (-1 : Int) (0 : Int))) (fun d3 => rr [false, false, true] [true = shapeM p L, L.length = L.length ∧ (fun i => (L.getD i Con.zero).rvs) = fun i => (L.getD i Con.zero).rvs, (↑L.length : Int) = (↑L.length : Int), Dec (shL L (-1 : Int) (0 : Int)) true, Dec ((↑L.length : Int) == (0 : Int)) false, Dec (p != (2 : Int)) false] (by kernel_rfl) ⟨?_, ?_, ?_, d3, d2, (dN d1)⟩)
           (fun d3 => rr [false, false, false] [false = shapeM p L, L.length = L.length ∧ (fun i => (L.getD i Con.zero).rvs) = fun i => (L.getD i Con.zero).rvs, (↑L.length : Int) = (↑L.length : Int), Dec (shL L (-1 : Int) (0 : Int)) false, Dec ((↑L.length : Int) == (0 : Int)) false, Dec (p != (2 : Int)) false] (by kernel_rfl) ⟨?_, ?_, ?_, d3, d2, (dN d1)⟩)))
           (fun d1 => rr [true] [false = shapeM p L, Dec (p != (2 : Int)) true] (by kernel_rfl) ⟨?_, (dN d1)⟩)
  all_goals first | (refine GnG.mk ?_; (simp_all)) | (first | (with_reducible rfl) | exact ⟨rfl, rfl⟩ | (unfold shapeM; simp_all; done))
theorem legalT_eq (c : Con) : legalT_v c.exp c.dim c.sign c.odd c.oddity = legalB c := legalR_eq c
noncomputable def entsVS : List OEnt := [
  ⟨63, [], fun A => match A with
    | [.agg [.int .i64 e, .int .i64 d, .int .i64 s, .bool o, .int .i64 t]] => some (.bool (legalB ⟨e, d, s, o, t⟩), [])
    | _ => none⟩,
  ⟨60, [], fun A => match A with
    | [.agg [.int .i64 p, .sl n 5 row]] => some (.bool (shapeM p (consR n row)), [(∀ i, i < n → row i = (Con.ofR (row i)).rvs) ∧ n ≤ 1000])
    | _ => none⟩]
theorem entsVS_ok : ∀ e ∈ entsVS, EntOk Tryz.prog e := by
  intro e he
  simp only [entsVS, List.mem_cons, List.not_mem_nil, or_false] at he
  rcases he with rfl | rfl
  all_goals
    intro A R ms h hm
    simp only at h
    split at h
    all_goals first | (cases h; done) | cases h
  · rw [← legalT_eq]; exact legalT _ _ _ _ _
  · obtain ⟨h1, h2⟩ := all_one hm
    exact PureC.imp (sh_pure _ _ (by rw [consR_len]; exact h2)) (.cons (.agg (.cons .same (.cons (.con h1) .nil))) .nil)
noncomputable def vaAnn (L : List Con) : Ann := ⟨⟨[(9, (roC L).av), (10, .vint .i64 L.length), (11, .int .i64 0)], [], 1001⟩, some (L.all legalB), fun d => match d with
  | true => (.exit 0, ⟨[], [], 1001⟩)
  | false => (.ret, ⟨[(2, .bool false)], [], 1001⟩)⟩
set_option maxRecDepth 100000 in
theorem va_loop (L : List Con) (hn : L.length ≤ 1000) : AnnOk Tryz.prog EV.ng (Nat.max 1 Tryz.f38.ntmps) (bodyAt Tryz.f38 [0, 1, 0, 1, 1]) (vaAnn L) := by
  refine ann_of evOk (callF_ok evOk (orcOf_ok entsVS_ok) 8) none_ann (by kernel_rfl) (by kernel_rfl) (fun i : Nat => (fun (k : Nat) => (⟨[(9, (roC L).av), (10, .vint .i64 L.length), (11, .vint .i64 (k : Int))], [], 1001⟩ : St)) i) (fun i : Nat => (fun (k : Nat) => (L.length - k : Nat)) i) (fun (d : Bool) (i : Nat) => (fun (k : Nat) => (k ≤ L.length ∧ (L.drop k).all legalB = d : Prop)) i) ?_ ?_
  · intro d hd
    exact ⟨(0), [L.length = L.length ∧ (fun i => (L.getD i Con.zero).rvs) = fun i => (L.getD i Con.zero).rvs, (↑L.length : Int) = (↑L.length : Int), (0 : Int) = (↑(0 : Nat) : Int)], by kernel_rfl, (by refine ⟨?_, ?_, (?_ : (0 : Int) = (↑(0 : Nat) : Int))⟩ <;> (first | rfl | assumption | omega | simp_all)), (by exact ⟨Nat.zero_le _, hd⟩)⟩
  · rintro d hd k hI
    cases d
    · -- d = false
      obtain ⟨hk, hs⟩ := hI
      have ek : IntKind.i64.wrap ((k : Int) + 1) = ((k + 1 : Nat) : Int) := by rw [w64 (by omega) (by omega)]; omega
      refine Or.elim (Bool.eq_false_or_eq_true (decide ((↑k : Int) < (↑L.length : Int)))) (fun d1 => Or.elim (Bool.eq_false_or_eq_true (legalB (L.getD k Con.zero))) (fun d2 => ⟨[true, false], .inl ⟨(k + 1), [L.length = L.length ∧ (fun i => (L.getD i Con.zero).rvs) = fun i => (L.getD i Con.zero).rvs, (↑L.length : Int) = (↑L.length : Int), IntKind.i64.wrap ((↑k : Int) + (1 : Int)) = (↑(k + (1 : Nat)) : Int), Dec (!legalB (L.getD k Con.zero)) false, (0 : Int) ≤ (↑k : Int) ∧ (↑k : Int) < (↑L.length : Int), Dec (decide ((↑k : Int) < (↑L.length : Int))) true], by kernel_rfl, ⟨?_, ?_, ?_, (dN d2), ?_, d1⟩, MuG.out ?_, InG.out ?_⟩⟩)
           (fun d2 => ⟨[true, true], .inr ⟨[Dec (!legalB (L.getD k Con.zero)) true, (0 : Int) ≤ (↑k : Int) ∧ (↑k : Int) < (↑L.length : Int), Dec (decide ((↑k : Int) < (↑L.length : Int))) true], by kernel_rfl, ⟨(dN d2), ?_, d1⟩, rfl⟩⟩))
           (fun d1 => CtG.no ?_)
      all_goals first | (refine MuG.mk ?_; (simp only [decide_eq_true_eq] at *; show L.length - (k + 1) < L.length - k; omega)) | (refine InG.mk ?_; (simp only [decide_eq_true_eq] at *; rw [all_drop (by omega)] at hs; rw [show legalB (at_ L k) = true from d2] at hs; exact ⟨by omega, hs⟩)) | (refine CtG.mk ?_; (simp only [decide_eq_true_eq, decide_eq_false_iff_not] at *; first | (rw [List.drop_eq_nil_of_le (by omega)] at hs; cases hs; done) | (rw [all_drop (by omega)] at hs; rw [show legalB (at_ L k) = false from d2] at hs; cases hs; done))) | (first | rfl | exact ⟨rfl, rfl⟩ | ((try simp only [ek, Int.toNat_natCast, decide_eq_true_eq, decide_eq_false_iff_not] at *) <;> omega))
    · -- d = true
      obtain ⟨hk, hs⟩ := hI
      have ek : IntKind.i64.wrap ((k : Int) + 1) = ((k + 1 : Nat) : Int) := by rw [w64 (by omega) (by omega)]; omega
      refine Or.elim (Bool.eq_false_or_eq_true (decide ((↑k : Int) < (↑L.length : Int)))) (fun d1 => Or.elim (Bool.eq_false_or_eq_true (legalB (L.getD k Con.zero))) (fun d2 => ⟨[true, false], .inl ⟨(k + 1), [L.length = L.length ∧ (fun i => (L.getD i Con.zero).rvs) = fun i => (L.getD i Con.zero).rvs, (↑L.length : Int) = (↑L.length : Int), IntKind.i64.wrap ((↑k : Int) + (1 : Int)) = (↑(k + (1 : Nat)) : Int), Dec (!legalB (L.getD k Con.zero)) false, (0 : Int) ≤ (↑k : Int) ∧ (↑k : Int) < (↑L.length : Int), Dec (decide ((↑k : Int) < (↑L.length : Int))) true], by kernel_rfl, ⟨?_, ?_, ?_, (dN d2), ?_, d1⟩, MuG.out ?_, InG.out ?_⟩⟩)
           (fun d2 => CtG.no ?_))
           (fun d1 => ⟨[false], .inr ⟨[Dec (decide ((↑k : Int) < (↑L.length : Int))) false], by kernel_rfl, d1, rfl⟩⟩)
      all_goals first | (refine MuG.mk ?_; (simp only [decide_eq_true_eq] at *; show L.length - (k + 1) < L.length - k; omega)) | (refine InG.mk ?_; (simp only [decide_eq_true_eq] at *; rw [all_drop (by omega)] at hs; rw [show legalB (at_ L k) = true from d2] at hs; exact ⟨by omega, hs⟩)) | (refine CtG.mk ?_; (simp only [decide_eq_true_eq, decide_eq_false_iff_not] at *; first | (rw [List.drop_eq_nil_of_le (by omega)] at hs; cases hs; done) | (rw [all_drop (by omega)] at hs; rw [show legalB (at_ L k) = false from d2] at hs; cases hs; done))) | (first | rfl | exact ⟨rfl, rfl⟩ | ((try simp only [ek, Int.toNat_natCast, decide_eq_true_eq, decide_eq_false_iff_not] at *) <;> omega))
set_option maxRecDepth 100000 in
theorem tvalid_pure (p : Int) (L : List Con) (hn : L.length ≤ 1000) : PureC Tryz.prog [] 38 [.agg [.int .i64 p, roC L]] (.bool (val2M p L)) := by
  have rr := fun (tp : List Bool) (ms : List Prop) h hm => pure_run evOk (callF_ok evOk (orcOf_ok entsVS_ok) 8) Tryz.func38 (A := [.agg [.int .i64 p, roC L]]) (N := Nat.max 1 Tryz.f38.ntmps) rfl (one_ann (va_loop L hn)) rfl rfl evNg (tabs := []) (R := .bool (val2M p L)) (tp := tp) (ms := ms) h hm
  refine Or.elim (Bool.eq_false_or_eq_true (shapeM p (consR L.length fun i => (L.getD i Con.zero).rvs))) (fun d1 => Or.elim (Bool.eq_false_or_eq_true (L.all legalB)) (fun d2 => rr [false, true] [true = val2M p L, L.length = L.length ∧ (fun i => (L.getD i Con.zero).rvs) = fun i => (L.getD i Con.zero).rvs, (↑L.length : Int) = (↑L.length : Int), Dec (L.all legalB) true, Dec (!shapeM p (consR L.length fun i => (L.getD i Con.zero).rvs)) false, (∀ (i : Nat), i < L.length → (fun i => (L.getD i Con.zero).rvs) i = (Con.ofR ((fun i => (L.getD i Con.zero).rvs) i)).rvs) ∧ L.length ≤ (1000 : Nat)] (by kernel_rfl) ⟨?_, ?_, ?_, d2, (dN d1), (?_ : (∀ (i : Nat), i < L.length → (fun i => (L.getD i Con.zero).rvs) i = (Con.ofR ((fun i => (L.getD i Con.zero).rvs) i)).rvs) ∧ L.length ≤ (1000 : Nat))⟩)
           (fun d2 => rr [false, false] [false = val2M p L, L.length = L.length ∧ (fun i => (L.getD i Con.zero).rvs) = fun i => (L.getD i Con.zero).rvs, (↑L.length : Int) = (↑L.length : Int), Dec (L.all legalB) false, Dec (!shapeM p (consR L.length fun i => (L.getD i Con.zero).rvs)) false, (∀ (i : Nat), i < L.length → (fun i => (L.getD i Con.zero).rvs) i = (Con.ofR ((fun i => (L.getD i Con.zero).rvs) i)).rvs) ∧ L.length ≤ (1000 : Nat)] (by kernel_rfl) ⟨?_, ?_, ?_, d2, (dN d1), (?_ : (∀ (i : Nat), i < L.length → (fun i => (L.getD i Con.zero).rvs) i = (Con.ofR ((fun i => (L.getD i Con.zero).rvs) i)).rvs) ∧ L.length ≤ (1000 : Nat))⟩))
           (fun d1 => rr [true] [false = val2M p L, Dec (!shapeM p (consR L.length fun i => (L.getD i Con.zero).rvs)) true, (∀ (i : Nat), i < L.length → (fun i => (L.getD i Con.zero).rvs) i = (Con.ofR ((fun i => (L.getD i Con.zero).rvs) i)).rvs) ∧ L.length ≤ (1000 : Nat)] (by kernel_rfl) ⟨?_, (dN d1), (?_ : (∀ (i : Nat), i < L.length → (fun i => (L.getD i Con.zero).rvs) i = (Con.ofR ((fun i => (L.getD i Con.zero).rvs) i)).rvs) ∧ L.length ≤ (1000 : Nat))⟩)
  all_goals first | (first | (with_reducible rfl) | exact ⟨rfl, rfl⟩ | exact ⟨fun _ _ => rfl, hn⟩ | ((try simp only [consR_ro] at *) <;> first | trivial | (rw [val2_sh]; simp_all; done)))

/- Fused -/
def fusB (c : Con) : Bool := sgB c && fusC c
noncomputable def loH (p : Int) (L : List Con) : List (Nat × Blk) := [(1000, ⟨.plain [.vint .i64 p, (roC L).av], 24, 0, false, true⟩)]
noncomputable def f1Ann (p : Int) (L : List Con) : Ann := ⟨⟨[(1, .ptr 1000 0), (14, (roC L).av), (15, .vint .i64 L.length), (16, .int .i64 0)], loH p L, 1010⟩, some (L.all fusB), fun d => match d with
  | true => (.exit 0, ⟨[(1, .ptr 1000 0)], loH p L, 1010⟩)
  | false => (.ret, ⟨[(2, .bool false)], [], 1010⟩)⟩
theorem fusB_iff {c : Con} : fusB c = true ↔ (c.sign = 1 ∨ c.sign = -1) ∧ (0 ≤ c.oddity ∧ c.oddity ≤ 7) ∧ (c.odd = false → c.dim.tmod 2 = 0 ∧ c.oddity = 0) := by
  simp only [fusB, sgB, fusC, Bool.and_eq_true, decide_eq_true_eq, Bool.or_eq_true, tmod2]
  cases c.odd <;> simp
theorem fusB_no {c : Con} (h : ¬ ((c.sign = 1 ∨ c.sign = -1) ∧ (0 ≤ c.oddity ∧ c.oddity ≤ 7) ∧ (c.odd = false → c.dim.tmod 2 = 0 ∧ c.oddity = 0))) : fusB c = false := by
  cases hf : fusB c with
  | false => rfl
  | true => exact absurd (fusB_iff.1 hf) h
set_option maxRecDepth 100000 in
theorem f1_loop (p : Int) (L : List Con) (hn : L.length ≤ 1000) : AnnOk Tryz.prog EV.ng (Nat.max 1 Tryz.f35.ntmps) (bodyAt Tryz.f35 [0, 1, 0, 1, 1]) (f1Ann p L) := by
  refine ann_of evOk (callF_ok evOk (noOrc_ok _ _) 8) none_ann (by kernel_rfl) (by kernel_rfl) (fun i : Nat => (fun (k : Nat) => (⟨[(1, .ptr 1000 0), (14, (roC L).av), (15, .vint .i64 L.length), (16, .vint .i64 (k : Int))], loH p L, 1010⟩ : St)) i) (fun i : Nat => (fun (k : Nat) => (L.length - k : Nat)) i) (fun (d : Bool) (i : Nat) => (fun (k : Nat) => (k ≤ L.length ∧ (L.drop k).all fusB = d : Prop)) i) ?_ ?_
  · intro d hd
    exact ⟨(0), [L.length = L.length ∧ (fun i => (L.getD i Con.zero).rvs) = fun i => (L.getD i Con.zero).rvs, (↑L.length : Int) = (↑L.length : Int), (0 : Int) = (↑(0 : Nat) : Int), p = p, L.length = L.length ∧ (fun i => (L.getD i Con.zero).rvs) = fun i => (L.getD i Con.zero).rvs], by kernel_rfl, (by refine ⟨?_, ?_, ?_, ?_, (?_ : L.length = L.length ∧ (fun i => (L.getD i Con.zero).rvs) = fun i => (L.getD i Con.zero).rvs)⟩ <;> (first | rfl | assumption | omega | simp_all)), (by exact ⟨Nat.zero_le _, hd⟩)⟩
  · rintro d hd k hI
    cases d
    · -- d = false
      obtain ⟨hk, hs⟩ := hI
      have ek : IntKind.i64.wrap ((k : Int) + 1) = ((k + 1 : Nat) : Int) := by rw [w64 (by omega) (by omega)]; omega
      refine Or.elim (Bool.eq_false_or_eq_true (decide ((↑k : Int) < (↑L.length : Int)))) (fun d1 => Or.elim (Bool.eq_false_or_eq_true ((L.getD k Con.zero).sign == (1 : Int))) (fun d2 => Or.elim (Bool.eq_false_or_eq_true (decide ((L.getD k Con.zero).oddity < (0 : Int)))) (fun d3 => ⟨[true, false, true], .inr ⟨[Dec (decide ((L.getD k Con.zero).oddity < (0 : Int))) true, Dec ((L.getD k Con.zero).sign != (1 : Int)) false, (0 : Int) ≤ (↑k : Int) ∧ (↑k : Int) < (↑L.length : Int), Dec (decide ((↑k : Int) < (↑L.length : Int))) true], by kernel_rfl, ⟨d3, (dN d2), ?_, d1⟩, rfl⟩⟩)
           (fun d3 => Or.elim (Bool.eq_false_or_eq_true (decide ((L.getD k Con.zero).oddity > (7 : Int)))) (fun d4 => ⟨[true, false, false, true], .inr ⟨[Dec (decide ((L.getD k Con.zero).oddity > (7 : Int))) true, Dec (decide ((L.getD k Con.zero).oddity < (0 : Int))) false, Dec ((L.getD k Con.zero).sign != (1 : Int)) false, (0 : Int) ≤ (↑k : Int) ∧ (↑k : Int) < (↑L.length : Int), Dec (decide ((↑k : Int) < (↑L.length : Int))) true], by kernel_rfl, ⟨d4, d3, (dN d2), ?_, d1⟩, rfl⟩⟩)
           (fun d4 => Or.elim (Bool.eq_false_or_eq_true ((L.getD k Con.zero).odd)) (fun d5 => ⟨[true, false, false, false, false], .inl ⟨(k + 1), [L.length = L.length ∧ (fun i => (L.getD i Con.zero).rvs) = fun i => (L.getD i Con.zero).rvs, (↑L.length : Int) = (↑L.length : Int), IntKind.i64.wrap ((↑k : Int) + (1 : Int)) = (↑(k + (1 : Nat)) : Int), p = p, L.length = L.length ∧ (fun i => (L.getD i Con.zero).rvs) = fun i => (L.getD i Con.zero).rvs, Dec (!(L.getD k Con.zero).odd) false, Dec (decide ((L.getD k Con.zero).oddity > (7 : Int))) false, Dec (decide ((L.getD k Con.zero).oddity < (0 : Int))) false, Dec ((L.getD k Con.zero).sign != (1 : Int)) false, (0 : Int) ≤ (↑k : Int) ∧ (↑k : Int) < (↑L.length : Int), Dec (decide ((↑k : Int) < (↑L.length : Int))) true], by kernel_rfl, ⟨?_, ?_, ?_, ?_, ?_, (dN d5), d4, d3, (dN d2), ?_, d1⟩, MuG.out ?_, InG.out ?_⟩⟩)
           (fun d5 => Or.elim (Bool.eq_false_or_eq_true ((L.getD k Con.zero).dim.tmod (2 : Int) == (0 : Int))) (fun d6 => Or.elim (Bool.eq_false_or_eq_true ((L.getD k Con.zero).oddity == (0 : Int))) (fun d7 => ⟨[true, false, false, false, true, false, false], .inl ⟨(k + 1), [L.length = L.length ∧ (fun i => (L.getD i Con.zero).rvs) = fun i => (L.getD i Con.zero).rvs, (↑L.length : Int) = (↑L.length : Int), IntKind.i64.wrap ((↑k : Int) + (1 : Int)) = (↑(k + (1 : Nat)) : Int), p = p, L.length = L.length ∧ (fun i => (L.getD i Con.zero).rvs) = fun i => (L.getD i Con.zero).rvs, Dec ((L.getD k Con.zero).oddity != (0 : Int)) false, Dec ((L.getD k Con.zero).dim.tmod (2 : Int) != (0 : Int)) false, (2 : Int) ≠ (0 : Int), Dec (!(L.getD k Con.zero).odd) true, Dec (decide ((L.getD k Con.zero).oddity > (7 : Int))) false, Dec (decide ((L.getD k Con.zero).oddity < (0 : Int))) false, Dec ((L.getD k Con.zero).sign != (1 : Int)) false, (0 : Int) ≤ (↑k : Int) ∧ (↑k : Int) < (↑L.length : Int), Dec (decide ((↑k : Int) < (↑L.length : Int))) true], by kernel_rfl, ⟨?_, ?_, ?_, ?_, ?_, (dN d7), (dN d6), ?_, (dN d5), d4, d3, (dN d2), ?_, d1⟩, MuG.out ?_, InG.out ?_⟩⟩)
           (fun d7 => ⟨[true, false, false, false, true, false, true], .inr ⟨[Dec ((L.getD k Con.zero).oddity != (0 : Int)) true, Dec ((L.getD k Con.zero).dim.tmod (2 : Int) != (0 : Int)) false, (2 : Int) ≠ (0 : Int), Dec (!(L.getD k Con.zero).odd) true, Dec (decide ((L.getD k Con.zero).oddity > (7 : Int))) false, Dec (decide ((L.getD k Con.zero).oddity < (0 : Int))) false, Dec ((L.getD k Con.zero).sign != (1 : Int)) false, (0 : Int) ≤ (↑k : Int) ∧ (↑k : Int) < (↑L.length : Int), Dec (decide ((↑k : Int) < (↑L.length : Int))) true], by kernel_rfl, ⟨(dN d7), (dN d6), ?_, (dN d5), d4, d3, (dN d2), ?_, d1⟩, rfl⟩⟩))
           (fun d6 => ⟨[true, false, false, false, true, true], .inr ⟨[Dec ((L.getD k Con.zero).dim.tmod (2 : Int) != (0 : Int)) true, (2 : Int) ≠ (0 : Int), Dec (!(L.getD k Con.zero).odd) true, Dec (decide ((L.getD k Con.zero).oddity > (7 : Int))) false, Dec (decide ((L.getD k Con.zero).oddity < (0 : Int))) false, Dec ((L.getD k Con.zero).sign != (1 : Int)) false, (0 : Int) ≤ (↑k : Int) ∧ (↑k : Int) < (↑L.length : Int), Dec (decide ((↑k : Int) < (↑L.length : Int))) true], by kernel_rfl, ⟨(dN d6), ?_, (dN d5), d4, d3, (dN d2), ?_, d1⟩, rfl⟩⟩)))))
           (fun d2 => Or.elim (Bool.eq_false_or_eq_true ((L.getD k Con.zero).sign == (-1 : Int))) (fun d3 => Or.elim (Bool.eq_false_or_eq_true (decide ((L.getD k Con.zero).oddity < (0 : Int)))) (fun d4 => ⟨[true, true, false, true], .inr ⟨[Dec (decide ((L.getD k Con.zero).oddity < (0 : Int))) true, Dec ((L.getD k Con.zero).sign != (-1 : Int)) false, Dec ((L.getD k Con.zero).sign != (1 : Int)) true, (0 : Int) ≤ (↑k : Int) ∧ (↑k : Int) < (↑L.length : Int), Dec (decide ((↑k : Int) < (↑L.length : Int))) true], by kernel_rfl, ⟨d4, (dN d3), (dN d2), ?_, d1⟩, rfl⟩⟩)
           (fun d4 => Or.elim (Bool.eq_false_or_eq_true (decide ((L.getD k Con.zero).oddity > (7 : Int)))) (fun d5 => ⟨[true, true, false, false, true], .inr ⟨[Dec (decide ((L.getD k Con.zero).oddity > (7 : Int))) true, Dec (decide ((L.getD k Con.zero).oddity < (0 : Int))) false, Dec ((L.getD k Con.zero).sign != (-1 : Int)) false, Dec ((L.getD k Con.zero).sign != (1 : Int)) true, (0 : Int) ≤ (↑k : Int) ∧ (↑k : Int) < (↑L.length : Int), Dec (decide ((↑k : Int) < (↑L.length : Int))) true], by kernel_rfl, ⟨d5, d4, (dN d3), (dN d2), ?_, d1⟩, rfl⟩⟩)
           (fun d5 => Or.elim (Bool.eq_false_or_eq_true ((L.getD k Con.zero).odd)) (fun d6 => ⟨[true, true, false, false, false, false], .inl ⟨(k + 1), [L.length = L.length ∧ (fun i => (L.getD i Con.zero).rvs) = fun i => (L.getD i Con.zero).rvs, (↑L.length : Int) = (↑L.length : Int), IntKind.i64.wrap ((↑k : Int) + (1 : Int)) = (↑(k + (1 : Nat)) : Int), p = p, L.length = L.length ∧ (fun i => (L.getD i Con.zero).rvs) = fun i => (L.getD i Con.zero).rvs, Dec (!(L.getD k Con.zero).odd) false, Dec (decide ((L.getD k Con.zero).oddity > (7 : Int))) false, Dec (decide ((L.getD k Con.zero).oddity < (0 : Int))) false, Dec ((L.getD k Con.zero).sign != (-1 : Int)) false, Dec ((L.getD k Con.zero).sign != (1 : Int)) true, (0 : Int) ≤ (↑k : Int) ∧ (↑k : Int) < (↑L.length : Int), Dec (decide ((↑k : Int) < (↑L.length : Int))) true], by kernel_rfl, ⟨?_, ?_, ?_, ?_, ?_, (dN d6), d5, d4, (dN d3), (dN d2), ?_, d1⟩, MuG.out ?_, InG.out ?_⟩⟩)
           (fun d6 => Or.elim (Bool.eq_false_or_eq_true ((L.getD k Con.zero).dim.tmod (2 : Int) == (0 : Int))) (fun d7 => Or.elim (Bool.eq_false_or_eq_true ((L.getD k Con.zero).oddity == (0 : Int))) (fun d8 => ⟨[true, true, false, false, false, true, false, false], .inl ⟨(k + 1), [L.length = L.length ∧ (fun i => (L.getD i Con.zero).rvs) = fun i => (L.getD i Con.zero).rvs, (↑L.length : Int) = (↑L.length : Int), IntKind.i64.wrap ((↑k : Int) + (1 : Int)) = (↑(k + (1 : Nat)) : Int), p = p, L.length = L.length ∧ (fun i => (L.getD i Con.zero).rvs) = fun i => (L.getD i Con.zero).rvs, Dec ((L.getD k Con.zero).oddity != (0 : Int)) false, Dec ((L.getD k Con.zero).dim.tmod (2 : Int) != (0 : Int)) false, (2 : Int) ≠ (0 : Int), Dec (!(L.getD k Con.zero).odd) true, Dec (decide ((L.getD k Con.zero).oddity > (7 : Int))) false, Dec (decide ((L.getD k Con.zero).oddity < (0 : Int))) false, Dec ((L.getD k Con.zero).sign != (-1 : Int)) false, Dec ((L.getD k Con.zero).sign != (1 : Int)) true, (0 : Int) ≤ (↑k : Int) ∧ (↑k : Int) < (↑L.length : Int), Dec (decide ((↑k : Int) < (↑L.length : Int))) true], by kernel_rfl, ⟨?_, ?_, ?_, ?_, ?_, (dN d8), (dN d7), ?_, (dN d6), d5, d4, (dN d3), (dN d2), ?_, d1⟩, MuG.out ?_, InG.out ?_⟩⟩)
           (fun d8 => ⟨[true, true, false, false, false, true, false, true], .inr ⟨[Dec ((L.getD k Con.zero).oddity != (0 : Int)) true, Dec ((L.getD k Con.zero).dim.tmod (2 : Int) != (0 : Int)) false, (2 : Int) ≠ (0 : Int), Dec (!(L.getD k Con.zero).odd) true, Dec (decide ((L.getD k Con.zero).oddity > (7 : Int))) false, Dec (decide ((L.getD k Con.zero).oddity < (0 : Int))) false, Dec ((L.getD k Con.zero).sign != (-1 : Int)) false, Dec ((L.getD k Con.zero).sign != (1 : Int)) true, (0 : Int) ≤ (↑k : Int) ∧ (↑k : Int) < (↑L.length : Int), Dec (decide ((↑k : Int) < (↑L.length : Int))) true], by kernel_rfl, ⟨(dN d8), (dN d7), ?_, (dN d6), d5, d4, (dN d3), (dN d2), ?_, d1⟩, rfl⟩⟩))
           (fun d7 => ⟨[true, true, false, false, false, true, true], .inr ⟨[Dec ((L.getD k Con.zero).dim.tmod (2 : Int) != (0 : Int)) true, (2 : Int) ≠ (0 : Int), Dec (!(L.getD k Con.zero).odd) true, Dec (decide ((L.getD k Con.zero).oddity > (7 : Int))) false, Dec (decide ((L.getD k Con.zero).oddity < (0 : Int))) false, Dec ((L.getD k Con.zero).sign != (-1 : Int)) false, Dec ((L.getD k Con.zero).sign != (1 : Int)) true, (0 : Int) ≤ (↑k : Int) ∧ (↑k : Int) < (↑L.length : Int), Dec (decide ((↑k : Int) < (↑L.length : Int))) true], by kernel_rfl, ⟨(dN d7), ?_, (dN d6), d5, d4, (dN d3), (dN d2), ?_, d1⟩, rfl⟩⟩)))))
           (fun d3 => ⟨[true, true, true], .inr ⟨[Dec ((L.getD k Con.zero).sign != (-1 : Int)) true, Dec ((L.getD k Con.zero).sign != (1 : Int)) true, (0 : Int) ≤ (↑k : Int) ∧ (↑k : Int) < (↑L.length : Int), Dec (decide ((↑k : Int) < (↑L.length : Int))) true], by kernel_rfl, ⟨(dN d3), (dN d2), ?_, d1⟩, rfl⟩⟩)))
           (fun d1 => CtG.no ?_)
      all_goals first | (refine MuG.mk ?_; (simp only [decide_eq_true_eq] at *; show L.length - (k + 1) < L.length - k; omega)) | (refine InG.mk ?_; (simp only [decide_eq_true_eq, decide_eq_false_iff_not, Int.toNat_natCast, beq_iff_eq, beq_eq_false_iff_ne, ne_eq, gt_iff_lt] at *; rw [all_drop (by omega)] at hs; rw [show fusB (at_ L k) = true from fusB_iff.2 (by simp only [at_]; refine ⟨?_, ?_, ?_⟩ <;> first | omega | (intro ho; simp_all; done) | (simp_all; done))] at hs; exact ⟨by omega, hs⟩)) | (refine CtG.mk ?_; (simp only [decide_eq_true_eq, decide_eq_false_iff_not, Int.toNat_natCast, beq_iff_eq, beq_eq_false_iff_ne, ne_eq, gt_iff_lt] at *; first | (rw [List.drop_eq_nil_of_le (by omega)] at hs; cases hs; done) | (rw [all_drop (by omega)] at hs; rw [show fusB (at_ L k) = false from fusB_no (by simp only [at_]; first | (intro hq; omega) | (rintro ⟨q1, q2, q3⟩; have q4 := q3 (by assumption); first | omega | (simp_all; done)))] at hs; cases hs; done))) | (first | (with_reducible rfl) | exact ⟨rfl, rfl⟩ | decide | ((try simp only [ek, Int.toNat_natCast, decide_eq_true_eq, decide_eq_false_iff_not] at *) <;> omega))
    · -- d = true
      obtain ⟨hk, hs⟩ := hI
      have ek : IntKind.i64.wrap ((k : Int) + 1) = ((k + 1 : Nat) : Int) := by rw [w64 (by omega) (by omega)]; omega
      refine Or.elim (Bool.eq_false_or_eq_true (decide ((↑k : Int) < (↑L.length : Int)))) (fun d1 => Or.elim (Bool.eq_false_or_eq_true ((L.getD k Con.zero).sign == (1 : Int))) (fun d2 => Or.elim (Bool.eq_false_or_eq_true (decide ((L.getD k Con.zero).oddity < (0 : Int)))) (fun d3 => CtG.no ?_)
           (fun d3 => Or.elim (Bool.eq_false_or_eq_true (decide ((L.getD k Con.zero).oddity > (7 : Int)))) (fun d4 => CtG.no ?_)
           (fun d4 => Or.elim (Bool.eq_false_or_eq_true ((L.getD k Con.zero).odd)) (fun d5 => ⟨[true, false, false, false, false], .inl ⟨(k + 1), [L.length = L.length ∧ (fun i => (L.getD i Con.zero).rvs) = fun i => (L.getD i Con.zero).rvs, (↑L.length : Int) = (↑L.length : Int), IntKind.i64.wrap ((↑k : Int) + (1 : Int)) = (↑(k + (1 : Nat)) : Int), p = p, L.length = L.length ∧ (fun i => (L.getD i Con.zero).rvs) = fun i => (L.getD i Con.zero).rvs, Dec (!(L.getD k Con.zero).odd) false, Dec (decide ((L.getD k Con.zero).oddity > (7 : Int))) false, Dec (decide ((L.getD k Con.zero).oddity < (0 : Int))) false, Dec ((L.getD k Con.zero).sign != (1 : Int)) false, (0 : Int) ≤ (↑k : Int) ∧ (↑k : Int) < (↑L.length : Int), Dec (decide ((↑k : Int) < (↑L.length : Int))) true], by kernel_rfl, ⟨?_, ?_, ?_, ?_, ?_, (dN d5), d4, d3, (dN d2), ?_, d1⟩, MuG.out ?_, InG.out ?_⟩⟩)
           (fun d5 => Or.elim (Bool.eq_false_or_eq_true ((L.getD k Con.zero).dim.tmod (2 : Int) == (0 : Int))) (fun d6 => Or.elim (Bool.eq_false_or_eq_true ((L.getD k Con.zero).oddity == (0 : Int))) (fun d7 => ⟨[true, false, false, false, true, false, false], .inl ⟨(k + 1), [L.length = L.length ∧ (fun i => (L.getD i Con.zero).rvs) = fun i => (L.getD i Con.zero).rvs, (↑L.length : Int) = (↑L.length : Int), IntKind.i64.wrap ((↑k : Int) + (1 : Int)) = (↑(k + (1 : Nat)) : Int), p = p, L.length = L.length ∧ (fun i => (L.getD i Con.zero).rvs) = fun i => (L.getD i Con.zero).rvs, Dec ((L.getD k Con.zero).oddity != (0 : Int)) false, Dec ((L.getD k Con.zero).dim.tmod (2 : Int) != (0 : Int)) false, (2 : Int) ≠ (0 : Int), Dec (!(L.getD k Con.zero).odd) true, Dec (decide ((L.getD k Con.zero).oddity > (7 : Int))) false, Dec (decide ((L.getD k Con.zero).oddity < (0 : Int))) false, Dec ((L.getD k Con.zero).sign != (1 : Int)) false, (0 : Int) ≤ (↑k : Int) ∧ (↑k : Int) < (↑L.length : Int), Dec (decide ((↑k : Int) < (↑L.length : Int))) true], by kernel_rfl, ⟨?_, ?_, ?_, ?_, ?_, (dN d7), (dN d6), ?_, (dN d5), d4, d3, (dN d2), ?_, d1⟩, MuG.out ?_, InG.out ?_⟩⟩)
           (fun d7 => CtG.no ?_))
           (fun d6 => CtG.no ?_)))))
           (fun d2 => Or.elim (Bool.eq_false_or_eq_true ((L.getD k Con.zero).sign == (-1 : Int))) (fun d3 => Or.elim (Bool.eq_false_or_eq_true (decide ((L.getD k Con.zero).oddity < (0 : Int)))) (fun d4 => CtG.no ?_)
           (fun d4 => Or.elim (Bool.eq_false_or_eq_true (decide ((L.getD k Con.zero).oddity > (7 : Int)))) (fun d5 => CtG.no ?_)
           (fun d5 => Or.elim (Bool.eq_false_or_eq_true ((L.getD k Con.zero).odd)) (fun d6 => ⟨[true, true, false, false, false, false], .inl ⟨(k + 1), [L.length = L.length ∧ (fun i => (L.getD i Con.zero).rvs) = fun i => (L.getD i Con.zero).rvs, (↑L.length : Int) = (↑L.length : Int), IntKind.i64.wrap ((↑k : Int) + (1 : Int)) = (↑(k + (1 : Nat)) : Int), p = p, L.length = L.length ∧ (fun i => (L.getD i Con.zero).rvs) = fun i => (L.getD i Con.zero).rvs, Dec (!(L.getD k Con.zero).odd) false, Dec (decide ((L.getD k Con.zero).oddity > (7 : Int))) false, Dec (decide ((L.getD k Con.zero).oddity < (0 : Int))) false, Dec ((L.getD k Con.zero).sign != (-1 : Int)) false, Dec ((L.getD k Con.zero).sign != (1 : Int)) true, (0 : Int) ≤ (↑k : Int) ∧ (↑k : Int) < (↑L.length : Int), Dec (decide ((↑k : Int) < (↑L.length : Int))) true], by kernel_rfl, ⟨?_, ?_, ?_, ?_, ?_, (dN d6), d5, d4, (dN d3), (dN d2), ?_, d1⟩, MuG.out ?_, InG.out ?_⟩⟩)
           (fun d6 => Or.elim (Bool.eq_false_or_eq_true ((L.getD k Con.zero).dim.tmod (2 : Int) == (0 : Int))) (fun d7 => Or.elim (Bool.eq_false_or_eq_true ((L.getD k Con.zero).oddity == (0 : Int))) (fun d8 => ⟨[true, true, false, false, false, true, false, false], .inl ⟨(k + 1), [L.length = L.length ∧ (fun i => (L.getD i Con.zero).rvs) = fun i => (L.getD i Con.zero).rvs, (↑L.length : Int) = (↑L.length : Int), IntKind.i64.wrap ((↑k : Int) + (1 : Int)) = (↑(k + (1 : Nat)) : Int), p = p, L.length = L.length ∧ (fun i => (L.getD i Con.zero).rvs) = fun i => (L.getD i Con.zero).rvs, Dec ((L.getD k Con.zero).oddity != (0 : Int)) false, Dec ((L.getD k Con.zero).dim.tmod (2 : Int) != (0 : Int)) false, (2 : Int) ≠ (0 : Int), Dec (!(L.getD k Con.zero).odd) true, Dec (decide ((L.getD k Con.zero).oddity > (7 : Int))) false, Dec (decide ((L.getD k Con.zero).oddity < (0 : Int))) false, Dec ((L.getD k Con.zero).sign != (-1 : Int)) false, Dec ((L.getD k Con.zero).sign != (1 : Int)) true, (0 : Int) ≤ (↑k : Int) ∧ (↑k : Int) < (↑L.length : Int), Dec (decide ((↑k : Int) < (↑L.length : Int))) true], by kernel_rfl, ⟨?_, ?_, ?_, ?_, ?_, (dN d8), (dN d7), ?_, (dN d6), d5, d4, (dN d3), (dN d2), ?_, d1⟩, MuG.out ?_, InG.out ?_⟩⟩)
           (fun d8 => CtG.no ?_))
           (fun d7 => CtG.no ?_)))))
           (fun d3 => CtG.no ?_)))
           (fun d1 => ⟨[false], .inr ⟨[p = p, L.length = L.length ∧ (fun i => (L.getD i Con.zero).rvs) = fun i => (L.getD i Con.zero).rvs, Dec (decide ((↑k : Int) < (↑L.length : Int))) false], by kernel_rfl, ⟨?_, ?_, d1⟩, rfl⟩⟩)
      all_goals first | (refine MuG.mk ?_; (simp only [decide_eq_true_eq] at *; show L.length - (k + 1) < L.length - k; omega)) | (refine InG.mk ?_; (simp only [decide_eq_true_eq, decide_eq_false_iff_not, Int.toNat_natCast, beq_iff_eq, beq_eq_false_iff_ne, ne_eq, gt_iff_lt] at *; rw [all_drop (by omega)] at hs; rw [show fusB (at_ L k) = true from fusB_iff.2 (by simp only [at_]; refine ⟨?_, ?_, ?_⟩ <;> first | omega | (intro ho; simp_all; done) | (simp_all; done))] at hs; exact ⟨by omega, hs⟩)) | (refine CtG.mk ?_; (simp only [decide_eq_true_eq, decide_eq_false_iff_not, Int.toNat_natCast, beq_iff_eq, beq_eq_false_iff_ne, ne_eq, gt_iff_lt] at *; first | (rw [List.drop_eq_nil_of_le (by omega)] at hs; cases hs; done) | (rw [all_drop (by omega)] at hs; rw [show fusB (at_ L k) = false from fusB_no (by simp only [at_]; first | (intro hq; omega) | (rintro ⟨q1, q2, q3⟩; have q4 := q3 (by assumption); first | omega | (simp_all; done)))] at hs; cases hs; done))) | (first | (with_reducible rfl) | exact ⟨rfl, rfl⟩ | decide | ((try simp only [ek, Int.toNat_natCast, decide_eq_true_eq, decide_eq_false_iff_not] at *) <;> omega))

theorem dimR_b {L : List Con} (hL : okL L) : ∀ {l : List Int}, inR L.length l → 0 ≤ dimR L l ∧ dimR L l ≤ 1000 * l.length
  | [], _ => by simp [dimR]
  | i :: l, h => by
    have h1 := h i (by simp)
    have h2 := (hL.at (k := i.toNat) (by omega)).2.1
    have ih := dimR_b hL (l := l) (fun x hx => h x (by simp [hx]))
    simp only [dimR, List.length_cons]
    omega
theorem dimR_app (L : List Con) (a b : List Int) : dimR L (a ++ b) = dimR L a + dimR L b := by
  induction a with
  | nil => simp [dimR]
  | cons c a ih => simp only [List.cons_append, dimR, ih]; omega
theorem dimR_take {L : List Con} {l : List Int} {t : Nat} (ht : t < l.length) : dimR L (l.take (t + 1)) = dimR L (l.take t) + (at_ L (l.getD t 0).toNat).dim := by
  rw [take_int ht, dimR_app]; simp [dimR]
theorem dim_b {L : List Con} {l : List Int} {t : Nat} (hL : okL L) (hl : inR L.length l) (ht : t < l.length) : 0 ≤ (at_ L (l.getD t 0).toNat).dim ∧ (at_ L (l.getD t 0).toNat).dim ≤ 1000 := by
  have h1 := hl.at ht
  have := (hL.at (k := (l.getD t 0).toNat) (by omega)).2.1
  omega
/- whether the oddities behind the first vanish, from t on -/
def zerD (L : List Con) (l : List Int) (t : Nat) : Bool := (l.drop (Nat.max t 1)).all fun i => (at_ L i.toNat).oddity == 0
theorem zerD_0 {L : List Con} {l : List Int} : zerD L l 0 = zerR L l := by unfold zerD zerR; rw [show Nat.max 0 1 = 1 from rfl, List.drop_one]
theorem zerD_1 {L : List Con} {l : List Int} {t : Nat} (h : ¬ 0 < t) : zerD L l (t + 1) = zerD L l t := by
  have : t = 0 := by omega
  subst this; rfl
theorem zerD_s {L : List Con} {l : List Int} {t : Nat} (h : 0 < t) (ht : t < l.length) : zerD L l t = ((at_ L (l.getD t 0).toNat).oddity == 0 && zerD L l (t + 1)) := by
  unfold zerD
  rw [show Nat.max t 1 = t by simp only [Nat.max_def]; split <;> omega, show Nat.max (t + 1) 1 = t + 1 by simp only [Nat.max_def]; split <;> omega, drop_int ht]; rfl
theorem zerD_e {L : List Con} {l : List Int} {t : Nat} (ht : l.length ≤ t) : zerD L l t = true := by
  unfold zerD
  rw [List.drop_eq_nil_of_le (by simp only [Nat.max_def]; split <;> omega)]; rfl
noncomputable def f3T (P : List (List Int)) (j : Nat) : List (Nat × AV) := [(1, .ptr 1000 0), (54, (roR .i64 P).av), (55, .vint .i64 P.length), (56, .vint .i64 (j : Int)), (6, (rI .i64 (rowAt P j)).av)]
noncomputable def f3Ann (p : Int) (L : List Con) (P : List (List Int)) (j : Nat) : Ann := ⟨⟨f3T P j ++ [(7, .int .i64 0), (60, (rI .i64 (rowAt P j)).av), (61, .vint .i64 (rowAt P j).length), (62, .int .i64 0)], loH p L, 1010⟩, some (zerR L (rowAt P j)), fun d => match d with
  | true => (.exit 4, ⟨f3T P j ++ [(7, .vint .i64 (dimR L (rowAt P j)))], loH p L, 1010⟩)
  | false => (.ret, ⟨[(2, .bool false)], [], 1010⟩)⟩
set_option maxRecDepth 100000 in
theorem f3_loop (p : Int) (L : List Con) (P : List (List Int)) (j : Nat) (hL : okL L) (hr : inR L.length (rowAt P j)) (hn : (rowAt P j).length ≤ 1000) : AnnOk Tryz.prog EV.ng (Nat.max 1 Tryz.f35.ntmps) (bodyAt Tryz.f35 [0, 1, 0, 1, 1, 0, 0, 1, 1, 0, 0, 1, 0, 1, 1, 1]) (f3Ann p L P j) := by
  refine ann_of evOk (callF_ok evOk (noOrc_ok _ _) 8) none_ann (by kernel_rfl) (by kernel_rfl) (fun i : Nat × Int => (fun (t : Nat) (n : Int) => (⟨f3T P j ++ [(7, .vint .i64 n), (60, (rI .i64 (rowAt P j)).av), (61, .vint .i64 (rowAt P j).length), (62, .vint .i64 (t : Int))], loH p L, 1010⟩ : St)) i.1 i.2) (fun i : Nat × Int => (fun (t : Nat) (n : Int) => ((rowAt P j).length - t : Nat)) i.1 i.2) (fun (d : Bool) (i : Nat × Int) => (fun (t : Nat) (n : Int) => (t ≤ (rowAt P j).length ∧ n = dimR L ((rowAt P j).take t) ∧ zerD L (rowAt P j) t = d : Prop)) i.1 i.2) ?_ ?_
  · intro d hd
    exact ⟨(0, 0), [P.length = P.length ∧ (fun i => [rI IntKind.i64 (P.getD i [])]) = fun i => [rI IntKind.i64 (P.getD i [])], (↑P.length : Int) = (↑P.length : Int), (↑j : Int) = (↑j : Int), (rowAt P j).length = (rowAt P j).length ∧ (fun j_1 => [RV.int IntKind.i64 ((rowAt P j).getD j_1 (0 : Int))]) = fun j_1 => [RV.int IntKind.i64 ((rowAt P j).getD j_1 (0 : Int))], (0 : Int) = (0 : Int), (rowAt P j).length = (rowAt P j).length ∧ (fun j_1 => [RV.int IntKind.i64 ((rowAt P j).getD j_1 (0 : Int))]) = fun j_1 => [RV.int IntKind.i64 ((rowAt P j).getD j_1 (0 : Int))], (↑(rowAt P j).length : Int) = (↑(rowAt P j).length : Int), (0 : Int) = (↑(0 : Nat) : Int), p = p, L.length = L.length ∧ (fun i => (L.getD i Con.zero).rvs) = fun i => (L.getD i Con.zero).rvs], by kernel_rfl, (by refine ⟨?_, ?_, ?_, ?_, ?_, ?_, ?_, ?_, ?_, (?_ : L.length = L.length ∧ (fun i => (L.getD i Con.zero).rvs) = fun i => (L.getD i Con.zero).rvs)⟩ <;> (first | rfl | assumption | omega | simp_all)), (by exact ⟨Nat.zero_le _, rfl, zerD_0.trans hd⟩)⟩
  · rintro d hd ⟨t, n⟩ hI
    cases d
    · -- d = false
      obtain ⟨ht, hs, hz⟩ := hI
      have ht : t ≤ (rowAt P j).length := ht
      have hs : n = dimR L ((rowAt P j).take t) := hs
      have ek : IntKind.i64.wrap ((t : Int) + 1) = ((t + 1 : Nat) : Int) := by rw [w64 (by omega) (by omega)]; omega
      have hb := dimR_b hL (l := (rowAt P j).take t) (fun x hx => hr x (List.mem_of_mem_take hx))
      have hb2 : (((rowAt P j).take t).length : Int) ≤ 1000 := by simp only [List.length_take]; omega
      refine Or.elim (Bool.eq_false_or_eq_true (decide ((↑t : Int) < (↑(rowAt P j).length : Int)))) (fun d1 => Or.elim (Bool.eq_false_or_eq_true (decide ((↑t : Int) > (0 : Int)))) (fun d2 => Or.elim (Bool.eq_false_or_eq_true ((L.getD ((rowAt P j).getD t (0 : Int)).toNat Con.zero).oddity == (0 : Int))) (fun d3 => ⟨[true, true, false], .inl ⟨(t + 1, n + (at_ L ((rowAt P j).getD t 0).toNat).dim), [P.length = P.length ∧ (fun i => [rI IntKind.i64 (P.getD i [])]) = fun i => [rI IntKind.i64 (P.getD i [])], (↑P.length : Int) = (↑P.length : Int), (↑j : Int) = (↑j : Int), (rowAt P j).length = (rowAt P j).length ∧ (fun j_1 => [RV.int IntKind.i64 ((rowAt P j).getD j_1 (0 : Int))]) = fun j_1 => [RV.int IntKind.i64 ((rowAt P j).getD j_1 (0 : Int))], IntKind.i64.wrap (n + (L.getD ((rowAt P j).getD t (0 : Int)).toNat Con.zero).dim) = n + (at_ L ((rowAt P j).getD t (0 : Int)).toNat).dim, (rowAt P j).length = (rowAt P j).length ∧ (fun j_1 => [RV.int IntKind.i64 ((rowAt P j).getD j_1 (0 : Int))]) = fun j_1 => [RV.int IntKind.i64 ((rowAt P j).getD j_1 (0 : Int))], (↑(rowAt P j).length : Int) = (↑(rowAt P j).length : Int), IntKind.i64.wrap ((↑t : Int) + (1 : Int)) = (↑(t + (1 : Nat)) : Int), p = p, L.length = L.length ∧ (fun i => (L.getD i Con.zero).rvs) = fun i => (L.getD i Con.zero).rvs, Dec ((L.getD ((rowAt P j).getD t (0 : Int)).toNat Con.zero).oddity != (0 : Int)) false, (0 : Int) ≤ (rowAt P j).getD t (0 : Int) ∧ (rowAt P j).getD t (0 : Int) < (↑L.length : Int), Dec (decide ((↑t : Int) > (0 : Int))) true, (0 : Int) ≤ (rowAt P j).getD t (0 : Int) ∧ (rowAt P j).getD t (0 : Int) < (↑L.length : Int), (0 : Int) ≤ (↑t : Int) ∧ (↑t : Int) < (↑(rowAt P j).length : Int), Dec (decide ((↑t : Int) < (↑(rowAt P j).length : Int))) true], by kernel_rfl, ⟨?_, ?_, ?_, ?_, ?_, ?_, ?_, ?_, ?_, ?_, (dN d3), ?_, d2, ?_, ?_, d1⟩, MuG.out ?_, InG.out ?_⟩⟩)
           (fun d3 => ⟨[true, true, true], .inr ⟨[Dec ((L.getD ((rowAt P j).getD t (0 : Int)).toNat Con.zero).oddity != (0 : Int)) true, (0 : Int) ≤ (rowAt P j).getD t (0 : Int) ∧ (rowAt P j).getD t (0 : Int) < (↑L.length : Int), Dec (decide ((↑t : Int) > (0 : Int))) true, (0 : Int) ≤ (rowAt P j).getD t (0 : Int) ∧ (rowAt P j).getD t (0 : Int) < (↑L.length : Int), (0 : Int) ≤ (↑t : Int) ∧ (↑t : Int) < (↑(rowAt P j).length : Int), Dec (decide ((↑t : Int) < (↑(rowAt P j).length : Int))) true], by kernel_rfl, ⟨(dN d3), ?_, d2, ?_, ?_, d1⟩, rfl⟩⟩))
           (fun d2 => ⟨[true, false], .inl ⟨(t + 1, n + (at_ L ((rowAt P j).getD t 0).toNat).dim), [P.length = P.length ∧ (fun i => [rI IntKind.i64 (P.getD i [])]) = fun i => [rI IntKind.i64 (P.getD i [])], (↑P.length : Int) = (↑P.length : Int), (↑j : Int) = (↑j : Int), (rowAt P j).length = (rowAt P j).length ∧ (fun j_1 => [RV.int IntKind.i64 ((rowAt P j).getD j_1 (0 : Int))]) = fun j_1 => [RV.int IntKind.i64 ((rowAt P j).getD j_1 (0 : Int))], IntKind.i64.wrap (n + (L.getD ((rowAt P j).getD t (0 : Int)).toNat Con.zero).dim) = n + (at_ L ((rowAt P j).getD t (0 : Int)).toNat).dim, (rowAt P j).length = (rowAt P j).length ∧ (fun j_1 => [RV.int IntKind.i64 ((rowAt P j).getD j_1 (0 : Int))]) = fun j_1 => [RV.int IntKind.i64 ((rowAt P j).getD j_1 (0 : Int))], (↑(rowAt P j).length : Int) = (↑(rowAt P j).length : Int), IntKind.i64.wrap ((↑t : Int) + (1 : Int)) = (↑(t + (1 : Nat)) : Int), p = p, L.length = L.length ∧ (fun i => (L.getD i Con.zero).rvs) = fun i => (L.getD i Con.zero).rvs, Dec (decide ((↑t : Int) > (0 : Int))) false, (0 : Int) ≤ (rowAt P j).getD t (0 : Int) ∧ (rowAt P j).getD t (0 : Int) < (↑L.length : Int), (0 : Int) ≤ (↑t : Int) ∧ (↑t : Int) < (↑(rowAt P j).length : Int), Dec (decide ((↑t : Int) < (↑(rowAt P j).length : Int))) true], by kernel_rfl, ⟨?_, ?_, ?_, ?_, ?_, ?_, ?_, ?_, ?_, ?_, d2, ?_, ?_, d1⟩, MuG.out ?_, InG.out ?_⟩⟩))
           (fun d1 => CtG.no ?_)
      all_goals first | (refine MuG.mk ?_; (simp only [decide_eq_true_eq] at *; show (rowAt P j).length - (t + 1) < (rowAt P j).length - t; omega)) | (refine InG.mk ?_; (simp only [decide_eq_true_eq, decide_eq_false_iff_not, Int.toNat_natCast, gt_iff_lt] at *; refine ⟨by omega, by rw [dimR_take (by omega), hs], ?_⟩; first | (show zerD L (rowAt P j) (t + 1) = _; rw [zerD_1 (by omega)]; exact hz) | (rw [zerD_s (by omega) (by omega), show ((at_ L ((rowAt P j).getD t 0).toNat).oddity == 0) = true from d3] at hz; exact hz))) | (refine CtG.mk ?_; (simp only [decide_eq_true_eq, decide_eq_false_iff_not, Int.toNat_natCast, gt_iff_lt] at *; first | (rw [zerD_e (by omega)] at hz; cases hz; done) | (rw [zerD_s (by omega) (by omega), show ((at_ L ((rowAt P j).getD t 0).toNat).oddity == 0) = false from d3] at hz; cases hz; done))) | (first | (with_reducible rfl) | exact ⟨rfl, rfl⟩ | ((try simp only [ek, Int.toNat_natCast, decide_eq_true_eq, decide_eq_false_iff_not, gt_iff_lt] at *) <;> first | omega | (have h1 := hr.at (t := t) (by omega); omega) | (have h2 := dim_b (t := t) hL hr (by omega); simp only [at_] at h2 ⊢; exact w64 (by omega) (by omega)) | (rw [hs, List.take_of_length_le (by omega)]; done)))
    · -- d = true
      obtain ⟨ht, hs, hz⟩ := hI
      have ht : t ≤ (rowAt P j).length := ht
      have hs : n = dimR L ((rowAt P j).take t) := hs
      have ek : IntKind.i64.wrap ((t : Int) + 1) = ((t + 1 : Nat) : Int) := by rw [w64 (by omega) (by omega)]; omega
      have hb := dimR_b hL (l := (rowAt P j).take t) (fun x hx => hr x (List.mem_of_mem_take hx))
      have hb2 : (((rowAt P j).take t).length : Int) ≤ 1000 := by simp only [List.length_take]; omega
      refine Or.elim (Bool.eq_false_or_eq_true (decide ((↑t : Int) < (↑(rowAt P j).length : Int)))) (fun d1 => Or.elim (Bool.eq_false_or_eq_true (decide ((↑t : Int) > (0 : Int)))) (fun d2 => Or.elim (Bool.eq_false_or_eq_true ((L.getD ((rowAt P j).getD t (0 : Int)).toNat Con.zero).oddity == (0 : Int))) (fun d3 => ⟨[true, true, false], .inl ⟨(t + 1, n + (at_ L ((rowAt P j).getD t 0).toNat).dim), [P.length = P.length ∧ (fun i => [rI IntKind.i64 (P.getD i [])]) = fun i => [rI IntKind.i64 (P.getD i [])], (↑P.length : Int) = (↑P.length : Int), (↑j : Int) = (↑j : Int), (rowAt P j).length = (rowAt P j).length ∧ (fun j_1 => [RV.int IntKind.i64 ((rowAt P j).getD j_1 (0 : Int))]) = fun j_1 => [RV.int IntKind.i64 ((rowAt P j).getD j_1 (0 : Int))], IntKind.i64.wrap (n + (L.getD ((rowAt P j).getD t (0 : Int)).toNat Con.zero).dim) = n + (at_ L ((rowAt P j).getD t (0 : Int)).toNat).dim, (rowAt P j).length = (rowAt P j).length ∧ (fun j_1 => [RV.int IntKind.i64 ((rowAt P j).getD j_1 (0 : Int))]) = fun j_1 => [RV.int IntKind.i64 ((rowAt P j).getD j_1 (0 : Int))], (↑(rowAt P j).length : Int) = (↑(rowAt P j).length : Int), IntKind.i64.wrap ((↑t : Int) + (1 : Int)) = (↑(t + (1 : Nat)) : Int), p = p, L.length = L.length ∧ (fun i => (L.getD i Con.zero).rvs) = fun i => (L.getD i Con.zero).rvs, Dec ((L.getD ((rowAt P j).getD t (0 : Int)).toNat Con.zero).oddity != (0 : Int)) false, (0 : Int) ≤ (rowAt P j).getD t (0 : Int) ∧ (rowAt P j).getD t (0 : Int) < (↑L.length : Int), Dec (decide ((↑t : Int) > (0 : Int))) true, (0 : Int) ≤ (rowAt P j).getD t (0 : Int) ∧ (rowAt P j).getD t (0 : Int) < (↑L.length : Int), (0 : Int) ≤ (↑t : Int) ∧ (↑t : Int) < (↑(rowAt P j).length : Int), Dec (decide ((↑t : Int) < (↑(rowAt P j).length : Int))) true], by kernel_rfl, ⟨?_, ?_, ?_, ?_, ?_, ?_, ?_, ?_, ?_, ?_, (dN d3), ?_, d2, ?_, ?_, d1⟩, MuG.out ?_, InG.out ?_⟩⟩)
           (fun d3 => CtG.no ?_))
           (fun d2 => ⟨[true, false], .inl ⟨(t + 1, n + (at_ L ((rowAt P j).getD t 0).toNat).dim), [P.length = P.length ∧ (fun i => [rI IntKind.i64 (P.getD i [])]) = fun i => [rI IntKind.i64 (P.getD i [])], (↑P.length : Int) = (↑P.length : Int), (↑j : Int) = (↑j : Int), (rowAt P j).length = (rowAt P j).length ∧ (fun j_1 => [RV.int IntKind.i64 ((rowAt P j).getD j_1 (0 : Int))]) = fun j_1 => [RV.int IntKind.i64 ((rowAt P j).getD j_1 (0 : Int))], IntKind.i64.wrap (n + (L.getD ((rowAt P j).getD t (0 : Int)).toNat Con.zero).dim) = n + (at_ L ((rowAt P j).getD t (0 : Int)).toNat).dim, (rowAt P j).length = (rowAt P j).length ∧ (fun j_1 => [RV.int IntKind.i64 ((rowAt P j).getD j_1 (0 : Int))]) = fun j_1 => [RV.int IntKind.i64 ((rowAt P j).getD j_1 (0 : Int))], (↑(rowAt P j).length : Int) = (↑(rowAt P j).length : Int), IntKind.i64.wrap ((↑t : Int) + (1 : Int)) = (↑(t + (1 : Nat)) : Int), p = p, L.length = L.length ∧ (fun i => (L.getD i Con.zero).rvs) = fun i => (L.getD i Con.zero).rvs, Dec (decide ((↑t : Int) > (0 : Int))) false, (0 : Int) ≤ (rowAt P j).getD t (0 : Int) ∧ (rowAt P j).getD t (0 : Int) < (↑L.length : Int), (0 : Int) ≤ (↑t : Int) ∧ (↑t : Int) < (↑(rowAt P j).length : Int), Dec (decide ((↑t : Int) < (↑(rowAt P j).length : Int))) true], by kernel_rfl, ⟨?_, ?_, ?_, ?_, ?_, ?_, ?_, ?_, ?_, ?_, d2, ?_, ?_, d1⟩, MuG.out ?_, InG.out ?_⟩⟩))
           (fun d1 => ⟨[false], .inr ⟨[P.length = P.length ∧ (fun i => [rI IntKind.i64 (P.getD i [])]) = fun i => [rI IntKind.i64 (P.getD i [])], (↑P.length : Int) = (↑P.length : Int), (↑j : Int) = (↑j : Int), (rowAt P j).length = (rowAt P j).length ∧ (fun j_1 => [RV.int IntKind.i64 ((rowAt P j).getD j_1 (0 : Int))]) = fun j_1 => [RV.int IntKind.i64 ((rowAt P j).getD j_1 (0 : Int))], n = dimR L (rowAt P j), p = p, L.length = L.length ∧ (fun i => (L.getD i Con.zero).rvs) = fun i => (L.getD i Con.zero).rvs, Dec (decide ((↑t : Int) < (↑(rowAt P j).length : Int))) false], by kernel_rfl, ⟨?_, ?_, ?_, ?_, ?_, ?_, ?_, d1⟩, rfl⟩⟩)
      all_goals first | (refine MuG.mk ?_; (simp only [decide_eq_true_eq] at *; show (rowAt P j).length - (t + 1) < (rowAt P j).length - t; omega)) | (refine InG.mk ?_; (simp only [decide_eq_true_eq, decide_eq_false_iff_not, Int.toNat_natCast, gt_iff_lt] at *; refine ⟨by omega, by rw [dimR_take (by omega), hs], ?_⟩; first | (show zerD L (rowAt P j) (t + 1) = _; rw [zerD_1 (by omega)]; exact hz) | (rw [zerD_s (by omega) (by omega), show ((at_ L ((rowAt P j).getD t 0).toNat).oddity == 0) = true from d3] at hz; exact hz))) | (refine CtG.mk ?_; (simp only [decide_eq_true_eq, decide_eq_false_iff_not, Int.toNat_natCast, gt_iff_lt] at *; first | (rw [zerD_e (by omega)] at hz; cases hz; done) | (rw [zerD_s (by omega) (by omega), show ((at_ L ((rowAt P j).getD t 0).toNat).oddity == 0) = false from d3] at hz; cases hz; done))) | (first | (with_reducible rfl) | exact ⟨rfl, rfl⟩ | ((try simp only [ek, Int.toNat_natCast, decide_eq_true_eq, decide_eq_false_iff_not, gt_iff_lt] at *) <;> first | omega | (have h1 := hr.at (t := t) (by omega); omega) | (have h2 := dim_b (t := t) hL hr (by omega); simp only [at_] at h2 ⊢; exact w64 (by omega) (by omega)) | (rw [hs, List.take_of_length_le (by omega)]; done)))
def fusR (L : List Con) (l : List Int) : Bool := zerR L l && parR L l
theorem allP_drop {P : List (List Int)} {j : Nat} (hj : j < P.length) (q : List Int → Bool) : (P.drop j).all q = (q (rowAt P j) && (P.drop (j + 1)).all q) := by
  rw [drop_row hj]; rfl
theorem par_w {L : List Con} (hL : okL L) {l : List Int} (hne : l ≠ []) (hl : inR L.length l) (hn : l.length ≤ 1000) : ((IntKind.i64.wrap ((at_ L (l.getD 0 0).toNat).oddity - dimR L l)).tmod 2 == 0) = parR L l := by
  have hb := dimR_b hL hl
  have ho := odd_b (t := 0) hL hl (List.length_pos_iff.2 hne)
  rw [w64 (by omega) (by omega)]
  unfold parR
  rw [Bool.eq_iff_iff, beq_iff_eq, decide_eq_true_eq]
  exact tmod2 _
noncomputable def f2Ann (p : Int) (L : List Con) (P : List (List Int)) : Ann := ⟨⟨[(1, .ptr 1000 0), (54, (roR .i64 P).av), (55, .vint .i64 P.length), (56, .int .i64 0)], loH p L, 1010⟩, some (P.all (fusR L)), fun d => match d with
  | true => (.exit 2, ⟨[], [], 1010⟩)
  | false => (.ret, ⟨[(2, .bool false)], [], 1010⟩)⟩
set_option maxRecDepth 100000 in
theorem f2_loop (p : Int) (L : List Con) (P : List (List Int)) (hL : okL L) (hP : ∀ l ∈ P, l ≠ [] ∧ inR L.length l ∧ l.length ≤ L.length) (hm : P.length ≤ 1000) : AnnOk Tryz.prog EV.ng (Nat.max 1 Tryz.f35.ntmps) (bodyAt Tryz.f35 [0, 1, 0, 1, 1, 1]) (f2Ann p L P) := by
  refine ann_ofI evOk (callF_ok evOk (noOrc_ok _ _) 8) (by kernel_rfl) (by kernel_rfl) (fun i : Nat => (fun (j : Nat) => (⟨[(1, .ptr 1000 0), (54, (roR .i64 P).av), (55, .vint .i64 P.length), (56, .vint .i64 (j : Int))], loH p L, 1010⟩ : St)) i) (fun i : Nat => (fun (j : Nat) => (P.length - j : Nat)) i) (fun (d : Bool) (i : Nat) => (fun (j : Nat) => (j ≤ P.length ∧ (P.drop j).all (fusR L) = d : Prop)) i) (fun i : Nat => (fun (j : Nat) => ([([0, 1, 0, 1, 1, 0, 0, 1, 1, 0, 0, 1, 0, 1, 1, 1], f3Ann p L P j)] : List (List Nat × Ann))) i) ?_ ?_ ?_
  · rintro d hd j hI
    exact one_ann (f3_loop p L P j hL (by rcases Nat.lt_or_ge j P.length with h | h; exact (hP _ (rowAt_mem h)).2.1; intro x hx; simp [rowAt, h] at hx) (by have := hL.1; rcases Nat.lt_or_ge j P.length with h | h; have := (hP _ (rowAt_mem h)).2.2; omega; simp [rowAt, h]))
  · intro d hd
    exact ⟨(0), [P.length = P.length ∧ (fun i => [rI IntKind.i64 (P.getD i [])]) = fun i => [rI IntKind.i64 (P.getD i [])], (↑P.length : Int) = (↑P.length : Int), (0 : Int) = (↑(0 : Nat) : Int), p = p, L.length = L.length ∧ (fun i => (L.getD i Con.zero).rvs) = fun i => (L.getD i Con.zero).rvs], by kernel_rfl, (by refine ⟨?_, ?_, ?_, ?_, (?_ : L.length = L.length ∧ (fun i => (L.getD i Con.zero).rvs) = fun i => (L.getD i Con.zero).rvs)⟩ <;> (first | rfl | assumption | omega | simp_all)), (by exact ⟨Nat.zero_le _, hd⟩)⟩
  · rintro d hd j hI
    cases d
    · -- d = false
      obtain ⟨ht, hs⟩ := hI
      have ht : j ≤ P.length := ht
      have hl1 := hL.1
      have ek : IntKind.i64.wrap ((j : Int) + 1) = ((j + 1 : Nat) : Int) := by rw [w64 (by omega) (by omega)]; omega
      refine Or.elim (Bool.eq_false_or_eq_true (decide ((↑j : Int) < (↑P.length : Int)))) (fun d1 => Or.elim (Bool.eq_false_or_eq_true (zerR L (rowAt P j))) (fun d2 => Or.elim (Bool.eq_false_or_eq_true ((IntKind.i64.wrap ((L.getD ((rowAt P j).getD (Int.toNat (0 : Int)) (0 : Int)).toNat Con.zero).oddity - dimR L (rowAt P j))).tmod (2 : Int) == (0 : Int))) (fun d3 => ⟨[true, true, false], .inl ⟨(j + 1), [P.length = P.length ∧ (fun i => [rI IntKind.i64 (P.getD i [])]) = fun i => [rI IntKind.i64 (P.getD i [])], (↑P.length : Int) = (↑P.length : Int), IntKind.i64.wrap ((↑j : Int) + (1 : Int)) = (↑(j + (1 : Nat)) : Int), p = p, L.length = L.length ∧ (fun i => (L.getD i Con.zero).rvs) = fun i => (L.getD i Con.zero).rvs, Dec ((IntKind.i64.wrap ((L.getD ((rowAt P j).getD (Int.toNat (0 : Int)) (0 : Int)).toNat Con.zero).oddity - dimR L (rowAt P j))).tmod (2 : Int) != (0 : Int)) false, (2 : Int) ≠ (0 : Int), (0 : Int) ≤ (rowAt P j).getD (Int.toNat (0 : Int)) (0 : Int) ∧ (rowAt P j).getD (Int.toNat (0 : Int)) (0 : Int) < (↑L.length : Int), (0 : Int) ≤ (0 : Int) ∧ (0 : Int) < (↑(rowAt P j).length : Int), P.length = P.length ∧ (fun i => [rI IntKind.i64 (P.getD i [])]) = fun i => [rI IntKind.i64 (P.getD i [])], (↑P.length : Int) = (↑P.length : Int), (↑j : Int) = (↑j : Int), (P.getD j []).length = (rowAt P j).length ∧ (fun j_1 => [RV.int IntKind.i64 ((P.getD j []).getD j_1 (0 : Int))]) = fun j_1 => [RV.int IntKind.i64 ((rowAt P j).getD j_1 (0 : Int))], (P.getD j []).length = (rowAt P j).length ∧ (fun j_1 => [RV.int IntKind.i64 ((P.getD j []).getD j_1 (0 : Int))]) = fun j_1 => [RV.int IntKind.i64 ((rowAt P j).getD j_1 (0 : Int))], (↑(P.getD j []).length : Int) = (↑(rowAt P j).length : Int), p = p, L.length = L.length ∧ (fun i => (L.getD i Con.zero).rvs) = fun i => (L.getD i Con.zero).rvs, Dec (zerR L (rowAt P j)) true, (0 : Int) ≤ (↑j : Int) ∧ (↑j : Int) < (↑P.length : Int), Dec (decide ((↑j : Int) < (↑P.length : Int))) true], by kernel_rfl, ⟨?_, ?_, ?_, ?_, ?_, (dN d3), ?_, ?_, ?_, ?_, ?_, ?_, ?_, ?_, ?_, ?_, ?_, d2, ?_, d1⟩, MuG.out ?_, InG.out ?_⟩⟩)
           (fun d3 => ⟨[true, true, true], .inr ⟨[Dec ((IntKind.i64.wrap ((L.getD ((rowAt P j).getD (Int.toNat (0 : Int)) (0 : Int)).toNat Con.zero).oddity - dimR L (rowAt P j))).tmod (2 : Int) != (0 : Int)) true, (2 : Int) ≠ (0 : Int), (0 : Int) ≤ (rowAt P j).getD (Int.toNat (0 : Int)) (0 : Int) ∧ (rowAt P j).getD (Int.toNat (0 : Int)) (0 : Int) < (↑L.length : Int), (0 : Int) ≤ (0 : Int) ∧ (0 : Int) < (↑(rowAt P j).length : Int), P.length = P.length ∧ (fun i => [rI IntKind.i64 (P.getD i [])]) = fun i => [rI IntKind.i64 (P.getD i [])], (↑P.length : Int) = (↑P.length : Int), (↑j : Int) = (↑j : Int), (P.getD j []).length = (rowAt P j).length ∧ (fun j_1 => [RV.int IntKind.i64 ((P.getD j []).getD j_1 (0 : Int))]) = fun j_1 => [RV.int IntKind.i64 ((rowAt P j).getD j_1 (0 : Int))], (P.getD j []).length = (rowAt P j).length ∧ (fun j_1 => [RV.int IntKind.i64 ((P.getD j []).getD j_1 (0 : Int))]) = fun j_1 => [RV.int IntKind.i64 ((rowAt P j).getD j_1 (0 : Int))], (↑(P.getD j []).length : Int) = (↑(rowAt P j).length : Int), p = p, L.length = L.length ∧ (fun i => (L.getD i Con.zero).rvs) = fun i => (L.getD i Con.zero).rvs, Dec (zerR L (rowAt P j)) true, (0 : Int) ≤ (↑j : Int) ∧ (↑j : Int) < (↑P.length : Int), Dec (decide ((↑j : Int) < (↑P.length : Int))) true], by kernel_rfl, ⟨(dN d3), ?_, ?_, ?_, ?_, ?_, ?_, ?_, ?_, ?_, ?_, ?_, d2, ?_, d1⟩, rfl⟩⟩))
           (fun d2 => ⟨[true, false], .inr ⟨[P.length = P.length ∧ (fun i => [rI IntKind.i64 (P.getD i [])]) = fun i => [rI IntKind.i64 (P.getD i [])], (↑P.length : Int) = (↑P.length : Int), (↑j : Int) = (↑j : Int), (P.getD j []).length = (rowAt P j).length ∧ (fun j_1 => [RV.int IntKind.i64 ((P.getD j []).getD j_1 (0 : Int))]) = fun j_1 => [RV.int IntKind.i64 ((rowAt P j).getD j_1 (0 : Int))], (P.getD j []).length = (rowAt P j).length ∧ (fun j_1 => [RV.int IntKind.i64 ((P.getD j []).getD j_1 (0 : Int))]) = fun j_1 => [RV.int IntKind.i64 ((rowAt P j).getD j_1 (0 : Int))], (↑(P.getD j []).length : Int) = (↑(rowAt P j).length : Int), p = p, L.length = L.length ∧ (fun i => (L.getD i Con.zero).rvs) = fun i => (L.getD i Con.zero).rvs, Dec (zerR L (rowAt P j)) false, (0 : Int) ≤ (↑j : Int) ∧ (↑j : Int) < (↑P.length : Int), Dec (decide ((↑j : Int) < (↑P.length : Int))) true], by kernel_rfl, ⟨?_, ?_, ?_, ?_, ?_, ?_, ?_, ?_, d2, ?_, d1⟩, rfl⟩⟩))
           (fun d1 => CtG.no ?_)
      all_goals first | (refine MuG.mk ?_; (simp only [decide_eq_true_eq] at *; show P.length - (j + 1) < P.length - j; omega)) | (refine InG.mk ?_; (simp only [decide_eq_true_eq, Int.toNat_natCast, Int.toNat_zero] at *; have h0 := hP _ (rowAt_mem (P := P) (t := j) (by omega)); rw [allP_drop (by omega), fusR, d2, ← par_w hL h0.1 h0.2.1 (by omega)] at hs; refine ⟨by omega, ?_⟩; simp only [at_] at hs; first | (rw [d3] at hs; exact hs) | (simp only [Bool.not_eq_eq_eq_not, bne] at d3 hs; rw [d3] at hs; exact hs))) | (refine CtG.mk ?_; (simp only [decide_eq_true_eq, decide_eq_false_iff_not, Int.toNat_natCast, Int.toNat_zero] at *; first | (rw [List.drop_eq_nil_of_le (by omega)] at hs; cases hs; done) | (rw [allP_drop (by omega), fusR, d2] at hs; cases hs; done) | (have h0 := hP _ (rowAt_mem (P := P) (t := j) (by omega)); rw [allP_drop (by omega), fusR, d2, ← par_w hL h0.1 h0.2.1 (by omega)] at hs; simp only [at_] at hs; rw [d3] at hs; cases hs; done))) | (first | (with_reducible rfl) | exact ⟨rfl, rfl⟩ | decide | ((try simp only [ek, Int.toNat_natCast, Int.toNat_zero, decide_eq_true_eq, decide_eq_false_iff_not] at *) <;> first | omega | (have h0 := hP _ (rowAt_mem (P := P) (t := j) (by omega)); have h1 : 0 < (rowAt P j).length := List.length_pos_iff.2 h0.1; first | omega | (have h2 := h0.2.1.at (t := 0) h1; omega))))
    · -- d = true
      obtain ⟨ht, hs⟩ := hI
      have ht : j ≤ P.length := ht
      have hl1 := hL.1
      have ek : IntKind.i64.wrap ((j : Int) + 1) = ((j + 1 : Nat) : Int) := by rw [w64 (by omega) (by omega)]; omega
      refine Or.elim (Bool.eq_false_or_eq_true (decide ((↑j : Int) < (↑P.length : Int)))) (fun d1 => Or.elim (Bool.eq_false_or_eq_true (zerR L (rowAt P j))) (fun d2 => Or.elim (Bool.eq_false_or_eq_true ((IntKind.i64.wrap ((L.getD ((rowAt P j).getD (Int.toNat (0 : Int)) (0 : Int)).toNat Con.zero).oddity - dimR L (rowAt P j))).tmod (2 : Int) == (0 : Int))) (fun d3 => ⟨[true, true, false], .inl ⟨(j + 1), [P.length = P.length ∧ (fun i => [rI IntKind.i64 (P.getD i [])]) = fun i => [rI IntKind.i64 (P.getD i [])], (↑P.length : Int) = (↑P.length : Int), IntKind.i64.wrap ((↑j : Int) + (1 : Int)) = (↑(j + (1 : Nat)) : Int), p = p, L.length = L.length ∧ (fun i => (L.getD i Con.zero).rvs) = fun i => (L.getD i Con.zero).rvs, Dec ((IntKind.i64.wrap ((L.getD ((rowAt P j).getD (Int.toNat (0 : Int)) (0 : Int)).toNat Con.zero).oddity - dimR L (rowAt P j))).tmod (2 : Int) != (0 : Int)) false, (2 : Int) ≠ (0 : Int), (0 : Int) ≤ (rowAt P j).getD (Int.toNat (0 : Int)) (0 : Int) ∧ (rowAt P j).getD (Int.toNat (0 : Int)) (0 : Int) < (↑L.length : Int), (0 : Int) ≤ (0 : Int) ∧ (0 : Int) < (↑(rowAt P j).length : Int), P.length = P.length ∧ (fun i => [rI IntKind.i64 (P.getD i [])]) = fun i => [rI IntKind.i64 (P.getD i [])], (↑P.length : Int) = (↑P.length : Int), (↑j : Int) = (↑j : Int), (P.getD j []).length = (rowAt P j).length ∧ (fun j_1 => [RV.int IntKind.i64 ((P.getD j []).getD j_1 (0 : Int))]) = fun j_1 => [RV.int IntKind.i64 ((rowAt P j).getD j_1 (0 : Int))], (P.getD j []).length = (rowAt P j).length ∧ (fun j_1 => [RV.int IntKind.i64 ((P.getD j []).getD j_1 (0 : Int))]) = fun j_1 => [RV.int IntKind.i64 ((rowAt P j).getD j_1 (0 : Int))], (↑(P.getD j []).length : Int) = (↑(rowAt P j).length : Int), p = p, L.length = L.length ∧ (fun i => (L.getD i Con.zero).rvs) = fun i => (L.getD i Con.zero).rvs, Dec (zerR L (rowAt P j)) true, (0 : Int) ≤ (↑j : Int) ∧ (↑j : Int) < (↑P.length : Int), Dec (decide ((↑j : Int) < (↑P.length : Int))) true], by kernel_rfl, ⟨?_, ?_, ?_, ?_, ?_, (dN d3), ?_, ?_, ?_, ?_, ?_, ?_, ?_, ?_, ?_, ?_, ?_, d2, ?_, d1⟩, MuG.out ?_, InG.out ?_⟩⟩)
           (fun d3 => CtG.no ?_))
           (fun d2 => CtG.no ?_))
           (fun d1 => ⟨[false], .inr ⟨[Dec (decide ((↑j : Int) < (↑P.length : Int))) false], by kernel_rfl, d1, rfl⟩⟩)
      all_goals first | (refine MuG.mk ?_; (simp only [decide_eq_true_eq] at *; show P.length - (j + 1) < P.length - j; omega)) | (refine InG.mk ?_; (simp only [decide_eq_true_eq, Int.toNat_natCast, Int.toNat_zero] at *; have h0 := hP _ (rowAt_mem (P := P) (t := j) (by omega)); rw [allP_drop (by omega), fusR, d2, ← par_w hL h0.1 h0.2.1 (by omega)] at hs; refine ⟨by omega, ?_⟩; simp only [at_] at hs; first | (rw [d3] at hs; exact hs) | (simp only [Bool.not_eq_eq_eq_not, bne] at d3 hs; rw [d3] at hs; exact hs))) | (refine CtG.mk ?_; (simp only [decide_eq_true_eq, decide_eq_false_iff_not, Int.toNat_natCast, Int.toNat_zero] at *; first | (rw [List.drop_eq_nil_of_le (by omega)] at hs; cases hs; done) | (rw [allP_drop (by omega), fusR, d2] at hs; cases hs; done) | (have h0 := hP _ (rowAt_mem (P := P) (t := j) (by omega)); rw [allP_drop (by omega), fusR, d2, ← par_w hL h0.1 h0.2.1 (by omega)] at hs; simp only [at_] at hs; rw [d3] at hs; cases hs; done))) | (first | (with_reducible rfl) | exact ⟨rfl, rfl⟩ | decide | ((try simp only [ek, Int.toNat_natCast, Int.toNat_zero, decide_eq_true_eq, decide_eq_false_iff_not] at *) <;> first | omega | (have h0 := hP _ (rowAt_mem (P := P) (t := j) (by omega)); have h1 : 0 < (rowAt P j).length := List.length_pos_iff.2 h0.1; first | omega | (have h2 := h0.2.1.at (t := 0) h1; omega))))
theorem okL_sh {p : Int} {L : List Con} (h1 : shapeM p L = true) (h2 : L.all fusB = true) : okL L := by
  simp only [shapeM, Bool.and_eq_true] at h1
  obtain ⟨i1, i2, i3⟩ := sh_at (by decide) (by decide) h1.2.2
  have hne : L ≠ [] := by intro e; rw [e] at h1; cases h1.2.1
  have hd : dimS L ≤ 8 := by rcases i2 with i2 | i2; omega; exact absurd i2 hne
  refine ⟨by omega, fun c hc => ?_⟩
  have h4 := i1 c hc
  have h5 := fusB_iff.1 (List.all_eq_true.1 h2 c hc)
  exact ⟨⟨h4.1, by omega⟩, ⟨h4.2.2.1, by omega⟩, h5.1, h5.2.1⟩
noncomputable def entsVF : List OEnt := entsVC ++ entsVS
theorem entsVF_ok : ∀ e ∈ entsVF, EntOk Tryz.prog e := by
  intro e he
  rcases List.mem_append.1 he with he | he
  · exact entsVC_ok e he
  · exact entsVS_ok e he
theorem fusT_eq (p : Int) (L : List Con) : fusT p L = (shapeM p L && (L.all fusB && (partsM L).all (fusR L))) := rfl
set_option maxRecDepth 100000 in
theorem fused_1 (p : Int) (L : List Con) (hn : L.length ≤ 1000) (h1 : shapeM p L = false) : PureC Tryz.prog [] 35 [.agg [.int .i64 p, roC L]] (.bool (fusT p L)) := by
  have k1 : shapeM p (consR L.length fun i => (L.getD i Con.zero).rvs) = false := (by rw [consR_ro]; exact h1)
  have rr := fun (tp : List Bool) (ms : List Prop) h hm => pure_run evOk (callF_ok evOk (orcOf_ok entsVF_ok) 8) Tryz.func35 (A := [.agg [.int .i64 p, roC L]]) rfl none_ann rfl rfl evNg (tabs := []) (R := .bool (fusT p L)) (tp := tp) (ms := ms) h hm
  refine rr [true] [false = fusT p L, Dec (!shapeM p (consR L.length fun i => (L.getD i Con.zero).rvs)) true, (∀ (i : Nat), i < L.length → (fun i => (L.getD i Con.zero).rvs) i = (Con.ofR ((fun i => (L.getD i Con.zero).rvs) i)).rvs) ∧ L.length ≤ (1000 : Nat)] (by kernel_rfl) ⟨?_, (dN k1), (?_ : (∀ (i : Nat), i < L.length → (fun i => (L.getD i Con.zero).rvs) i = (Con.ofR ((fun i => (L.getD i Con.zero).rvs) i)).rvs) ∧ L.length ≤ (1000 : Nat))⟩
  all_goals first | (first | (with_reducible rfl) | exact ⟨rfl, rfl⟩ | exact ⟨fun _ _ => rfl, hn⟩ | (rw [fusT_eq, h1]; rfl))
set_option maxRecDepth 100000 in
theorem fused_2 (p : Int) (L : List Con) (hn : L.length ≤ 1000) (h1 : shapeM p L = true) (h2 : L.all fusB = false) : PureC Tryz.prog [] 35 [.agg [.int .i64 p, roC L]] (.bool (fusT p L)) := by
  have k1 : shapeM p (consR L.length fun i => (L.getD i Con.zero).rvs) = true := (by rw [consR_ro]; exact h1)
  have rr := fun (tp : List Bool) (ms : List Prop) h hm => pure_run evOk (callF_ok evOk (orcOf_ok entsVF_ok) 8) Tryz.func35 (A := [.agg [.int .i64 p, roC L]]) (N := Nat.max 1 Tryz.f35.ntmps) rfl (one_ann (f1_loop p L hn)) rfl rfl evNg (tabs := []) (R := .bool (fusT p L)) (tp := tp) (ms := ms) h hm
  refine rr [false, false] [false = fusT p L, L.length = L.length ∧ (fun i => (L.getD i Con.zero).rvs) = fun i => (L.getD i Con.zero).rvs, (↑L.length : Int) = (↑L.length : Int), p = p, L.length = L.length ∧ (fun i => (L.getD i Con.zero).rvs) = fun i => (L.getD i Con.zero).rvs, Dec (L.all fusB) false, Dec (!shapeM p (consR L.length fun i => (L.getD i Con.zero).rvs)) false, (∀ (i : Nat), i < L.length → (fun i => (L.getD i Con.zero).rvs) i = (Con.ofR ((fun i => (L.getD i Con.zero).rvs) i)).rvs) ∧ L.length ≤ (1000 : Nat)] (by kernel_rfl) ⟨?_, ?_, ?_, ?_, ?_, h2, (dN k1), (?_ : (∀ (i : Nat), i < L.length → (fun i => (L.getD i Con.zero).rvs) i = (Con.ofR ((fun i => (L.getD i Con.zero).rvs) i)).rvs) ∧ L.length ≤ (1000 : Nat))⟩
  all_goals first | (first | (with_reducible rfl) | exact ⟨rfl, rfl⟩ | exact ⟨fun _ _ => rfl, hn⟩ | (rw [fusT_eq, h1, h2]; rfl))
set_option maxRecDepth 100000 in
theorem fused_3 (p : Int) (L : List Con) (hn : L.length ≤ 1000) (hL : okL L) (h1 : shapeM p L = true) (h2 : L.all fusB = true) : PureC Tryz.prog [] 35 [.agg [.int .i64 p, roC L]] (.bool (fusT p L)) := by
  have k1 : shapeM p (consR L.length fun i => (L.getD i Con.zero).rvs) = true := (by rw [consR_ro]; exact h1)
  have rr := fun (tp : List Bool) (ms : List Prop) h hm => pure_run evOk (callF_ok evOk (orcOf_ok entsVF_ok) 8) Tryz.func35 (A := [.agg [.int .i64 p, roC L]]) (N := Nat.max 1 Tryz.f35.ntmps) rfl (cons_ann (f1_loop p L hn) (one_ann (f2_loop p L (partsM L) hL parts_rows (Nat.le_trans parts_len hn)))) rfl rfl evNg (tabs := []) (R := .bool (fusT p L)) (tp := tp) (ms := ms) h hm
  refine Or.elim (Bool.eq_false_or_eq_true ((partsM L).all (fusR L))) (fun d1 => rr [false, true, true] [true = fusT p L, (partsM (consR L.length fun i => (L.getD i Con.zero).rvs)).length = (partsM L).length ∧ (fun i => [rI IntKind.i64 ((partsM (consR L.length fun i => (L.getD i Con.zero).rvs)).getD i [])]) = fun i => [rI IntKind.i64 ((partsM L).getD i [])], (↑(partsM (consR L.length fun i => (L.getD i Con.zero).rvs)).length : Int) = (↑(partsM L).length : Int), p = p, L.length = L.length ∧ (fun i => (L.getD i Con.zero).rvs) = fun i => (L.getD i Con.zero).rvs, Dec ((partsM L).all (fusR L)) true, (∀ (i : Nat), i < L.length → (fun i => (L.getD i Con.zero).rvs) i = (Con.ofR ((fun i => (L.getD i Con.zero).rvs) i)).rvs) ∧ okE (consR L.length fun i => (L.getD i Con.zero).rvs), L.length = L.length ∧ (fun i => (L.getD i Con.zero).rvs) = fun i => (L.getD i Con.zero).rvs, (↑L.length : Int) = (↑L.length : Int), p = p, L.length = L.length ∧ (fun i => (L.getD i Con.zero).rvs) = fun i => (L.getD i Con.zero).rvs, Dec (L.all fusB) true, Dec (!shapeM p (consR L.length fun i => (L.getD i Con.zero).rvs)) false, (∀ (i : Nat), i < L.length → (fun i => (L.getD i Con.zero).rvs) i = (Con.ofR ((fun i => (L.getD i Con.zero).rvs) i)).rvs) ∧ L.length ≤ (1000 : Nat)] (by kernel_rfl) ⟨?_, ?_, ?_, ?_, ?_, d1, ?_, ?_, ?_, ?_, ?_, h2, (dN k1), (?_ : (∀ (i : Nat), i < L.length → (fun i => (L.getD i Con.zero).rvs) i = (Con.ofR ((fun i => (L.getD i Con.zero).rvs) i)).rvs) ∧ L.length ≤ (1000 : Nat))⟩)
           (fun d1 => rr [false, true, false] [false = fusT p L, (partsM (consR L.length fun i => (L.getD i Con.zero).rvs)).length = (partsM L).length ∧ (fun i => [rI IntKind.i64 ((partsM (consR L.length fun i => (L.getD i Con.zero).rvs)).getD i [])]) = fun i => [rI IntKind.i64 ((partsM L).getD i [])], (↑(partsM (consR L.length fun i => (L.getD i Con.zero).rvs)).length : Int) = (↑(partsM L).length : Int), p = p, L.length = L.length ∧ (fun i => (L.getD i Con.zero).rvs) = fun i => (L.getD i Con.zero).rvs, Dec ((partsM L).all (fusR L)) false, (∀ (i : Nat), i < L.length → (fun i => (L.getD i Con.zero).rvs) i = (Con.ofR ((fun i => (L.getD i Con.zero).rvs) i)).rvs) ∧ okE (consR L.length fun i => (L.getD i Con.zero).rvs), L.length = L.length ∧ (fun i => (L.getD i Con.zero).rvs) = fun i => (L.getD i Con.zero).rvs, (↑L.length : Int) = (↑L.length : Int), p = p, L.length = L.length ∧ (fun i => (L.getD i Con.zero).rvs) = fun i => (L.getD i Con.zero).rvs, Dec (L.all fusB) true, Dec (!shapeM p (consR L.length fun i => (L.getD i Con.zero).rvs)) false, (∀ (i : Nat), i < L.length → (fun i => (L.getD i Con.zero).rvs) i = (Con.ofR ((fun i => (L.getD i Con.zero).rvs) i)).rvs) ∧ L.length ≤ (1000 : Nat)] (by kernel_rfl) ⟨?_, ?_, ?_, ?_, ?_, d1, ?_, ?_, ?_, ?_, ?_, h2, (dN k1), (?_ : (∀ (i : Nat), i < L.length → (fun i => (L.getD i Con.zero).rvs) i = (Con.ofR ((fun i => (L.getD i Con.zero).rvs) i)).rvs) ∧ L.length ≤ (1000 : Nat))⟩)
  all_goals first | (first | (with_reducible rfl) | exact ⟨rfl, rfl⟩ | exact ⟨fun _ _ => rfl, hn⟩ | exact ⟨fun _ _ => rfl, by rw [consR_ro]; exact hL.e⟩ | (rw [consR_ro]; first | done | rfl | exact ⟨rfl, rfl⟩) | (rw [fusT_eq, h1, h2, d1]; rfl))
theorem tfused_pure (p : Int) (L : List Con) (hn : L.length ≤ 1000) : PureC Tryz.prog [] 35 [.agg [.int .i64 p, roC L]] (.bool (fusM p L)) := by
  rw [← fus_eq]
  cases h1 : shapeM p L with
  | false => exact fused_1 p L hn h1
  | true =>
    cases h2 : L.all fusB with
    | false => exact fused_2 p L hn h1 h2
    | true => exact fused_3 p L hn (okL_sh h1 h2) h1 h2
end Go.Proofs.YtcfdaddablojlaaGreatDoor.S

/- quadformref26.Canonical. -/
set_option linter.unusedSimpArgs false
set_option linter.unusedVariables false
namespace Go.Proofs.YtcfdaddablojlaaGreatDoor.S
open Go.QfSy Go.RowKit

noncomputable def entsK : List OEnt := [
  ⟨56, [], fun A => match A with
    | [.agg [.int .i64 p, .sl n 5 row], .int .i64 a] => some (.agg [.int .i64 2, roC (stepM (consR n row) a.toNat)], [(∀ i, i < n → row i = (Con.ofR (row i)).rvs) ∧ p = 2 ∧ okL (consR n row) ∧ 1 ≤ a ∧ a < (n : Int)])
    | _ => none⟩,
  ⟨55, [], fun A => match A with
    | [.sl n 5 row, .int .i64 a] => some (.bool (linkM (consR n row) a.toNat), [(∀ i, i < n → row i = (Con.ofR (row i)).rvs) ∧ okL (consR n row) ∧ 1 ≤ a ∧ a < (n : Int)])
    | _ => none⟩,
  ⟨20, [], fun A => match A with
    | [.agg [.int .i64 p, .sl n 5 row]] => some (.tup [.agg [.int .i64 2, roC (fuseM (consR n row))], .bool true], [(∀ i, i < n → row i = (Con.ofR (row i)).rvs) ∧ p = 2 ∧ okL (consR n row) ∧ val2M 2 (consR n row) = true ∧ 0 < n])
    | _ => none⟩]
theorem entsK_ok : ∀ e ∈ entsK, EntOk Tryz.prog e := by
  intro e he
  simp only [entsK, List.mem_cons, List.not_mem_nil, or_false] at he
  rcases he with rfl | rfl | rfl
  all_goals
    intro A R ms h hm
    simp only at h
    split at h
    all_goals first | (cases h; done) | cases h
  · obtain ⟨h1, h2, h3, h4, h5⟩ := all_one hm
    rename_i a
    subst h2
    have e : ((a.toNat : Nat) : Int) = a := by omega
    have := step_pure _ a.toNat h3 (by omega) (by rw [consR_len]; omega)
    rw [e] at this
    exact PureC.imp this (.cons (.agg (.cons .same (.cons (.con h1) .nil))) (.cons .same .nil))
  · obtain ⟨h1, h3, h4, h5⟩ := all_one hm
    rename_i a
    have e : ((a.toNat : Nat) : Int) = a := by omega
    have := linked_pure _ a.toNat h3 (by omega) (by rw [consR_len]; omega)
    rw [e] at this
    exact PureC.imp this (.cons (.con h1) (.cons .same .nil))
  · obtain ⟨h1, h2, h4, h5, h6⟩ := all_one hm
    subst h2
    exact PureC.imp (fuse_yes _ h4 h5 (by rw [consR_len]; exact h6)) (.cons (.agg (.cons .same (.cons (.con h1) .nil))) .nil)
noncomputable def entsKn : List OEnt := [
  ⟨20, [], fun A => match A with
    | [.agg [.int .i64 p, .sl n 5 row]] => some (.tup [.agg [.int .i64 0, roC []], .bool false], [(∀ i, i < n → row i = (Con.ofR (row i)).rvs) ∧ n ≤ 1000 ∧ val2M p (consR n row) = false])
    | _ => none⟩]
theorem entsKn_ok : ∀ e ∈ entsKn, EntOk Tryz.prog e := by
  intro e he
  simp only [entsKn, List.mem_cons, List.not_mem_nil, or_false] at he
  subst he
  intro A R ms h hm
  simp only at h
  split at h
  · cases h
    obtain ⟨h1, h3, h4⟩ := all_one hm
    exact PureC.imp (fuse_no _ _ (by rw [consR_len]; exact h3) h4) (.cons (.agg (.cons .same (.cons (.con h1) .nil))) .nil)
  · cases h

noncomputable def canAnn (L : List Con) : Ann := ⟨⟨[(2, .ptr 1001 0), (4, .ptr 1002 0), (6, .vint .i64 (IntKind.i64.wrap (((fuseM L).length : Int) - 1)))], [(1001, ⟨.plain [.int .i64 0, .nils], 24, 0, false, true⟩), (1002, ⟨.plain [.vint .i64 2, (roC (fuseM L)).av], 24, 0, false, true⟩)], 1010⟩, none, fun _ =>
  (.exit 0, ⟨[(2, .ptr 1001 0), (4, .ptr 1002 0)], [(1001, ⟨.plain [.int .i64 0, .nils], 24, 0, false, true⟩), (1002, ⟨.plain [.vint .i64 2, (roC (canM L)).av], 24, 0, false, true⟩)], 1010⟩)⟩
theorem canG_end {M : List Con} {k : Nat} (h : ¬ 1 ≤ k) : canG M k = M := by
  have : k = 0 := by omega
  subst this; rfl
theorem canG_no {M : List Con} {k : Nat} (h : 1 ≤ k) (hs : ((at_ M k).sign == -1 && linkM M k) = false) : canG M (k - 1) = canG M k := by
  obtain ⟨j, rfl⟩ : ∃ j, k = j + 1 := ⟨k - 1, by omega⟩
  show canG M j = canG (canS M (j + 1)) j
  rw [canS, hs]; rfl
theorem canG_yes {M : List Con} {k : Nat} (h : 1 ≤ k) (hs : ((at_ M k).sign == -1 && linkM M k) = true) : canG (stepM M k) (k - 1) = canG M k := by
  obtain ⟨j, rfl⟩ : ∃ j, k = j + 1 := ⟨k - 1, by omega⟩
  show canG (stepM M (j + 1)) j = canG (canS M (j + 1)) j
  rw [canS, hs]; rfl

set_option maxRecDepth 100000 in
theorem can_loop (L : List Con) (hL : okL (fuseM L)) (hne : 0 < (fuseM L).length) : AnnOk Tryz.prog EV.ng (Nat.max 1 Tryz.f23.ntmps) (bodyAt Tryz.f23 [0, 1, 0, 1, 1, 1]) (canAnn L) := by
  refine ann_of evOk (callF_ok evOk (orcOf_ok entsK_ok) 8) none_ann (by kernel_rfl) (by kernel_rfl) (fun i : Nat × List Con => (fun (k : Nat) (M : List Con) => (⟨[(2, .ptr 1001 0), (4, .ptr 1002 0), (6, .vint .i64 (k : Int))], [(1001, ⟨.plain [.int .i64 0, .nils], 24, 0, false, true⟩), (1002, ⟨.plain [.vint .i64 2, (roC M).av], 24, 0, false, true⟩)], 1010⟩ : St)) i.1 i.2) (fun i : Nat × List Con => (fun (k : Nat) (M : List Con) => (k : Nat)) i.1 i.2) (fun (d : Bool) (i : Nat × List Con) => (fun (k : Nat) (M : List Con) => (okL M ∧ k < M.length ∧ canG M k = canM L : Prop)) i.1 i.2) ?_ ?_
  · intro d hd
    exact ⟨((fuseM L).length - 1, fuseM L), [IntKind.i64.wrap ((↑(fuseM L).length : Int) - (1 : Int)) = (↑((fuseM L).length - (1 : Nat)) : Int), (2 : Int) = (2 : Int), (fuseM L).length = (fuseM L).length ∧ (fun i => ((fuseM L).getD i Con.zero).rvs) = fun i => ((fuseM L).getD i Con.zero).rvs], by kernel_rfl, (by refine ⟨?_, ?_, (?_ : (fuseM L).length = (fuseM L).length ∧ (fun i => ((fuseM L).getD i Con.zero).rvs) = fun i => ((fuseM L).getD i Con.zero).rvs)⟩ <;> (first | rfl | exact ⟨rfl, rfl⟩ | (have := hL.1; rw [w64 (by omega) (by omega)]; omega))), (by exact ⟨hL, Nat.sub_lt hne (by decide), rfl⟩)⟩
  · rintro d hd ⟨k, M⟩ hI
    cases d
    · -- d = false
      exact Bool.noConfusion (show false = true from hd)
    · -- d = true
      obtain ⟨hM, hk, hc⟩ := hI
      have hl := hM.1
      have ek : IntKind.i64.wrap ((k : Int) - 1) = (k : Int) - 1 := w64 (by omega) (by omega)
      refine Or.elim (Bool.eq_false_or_eq_true (decide ((↑k : Int) ≥ (1 : Int)))) (fun d1 => Or.elim (Bool.eq_false_or_eq_true ((M.getD k Con.zero).sign == (-1 : Int))) (fun d2 => Or.elim (Bool.eq_false_or_eq_true (linkM (consR M.length fun i => (M.getD i Con.zero).rvs) k)) (fun d3 => ⟨[true, true, true], .inl ⟨(k - 1, canS M k), [IntKind.i64.wrap ((↑k : Int) - (1 : Int)) = (↑(k - (1 : Nat)) : Int), (2 : Int) = (2 : Int), (stepM (consR M.length fun i => (M.getD i Con.zero).rvs) k).length = (canS M k).length ∧ (fun i => ((stepM (consR M.length fun i => (M.getD i Con.zero).rvs) k).getD i Con.zero).rvs) = fun i => ((canS M k).getD i Con.zero).rvs, (∀ (i : Nat), i < M.length → (fun i => (M.getD i Con.zero).rvs) i = (Con.ofR ((fun i => (M.getD i Con.zero).rvs) i)).rvs) ∧ (2 : Int) = (2 : Int) ∧ okL (consR M.length fun i => (M.getD i Con.zero).rvs) ∧ (1 : Int) ≤ (↑k : Int) ∧ (↑k : Int) < (↑M.length : Int), Dec (linkM (consR M.length fun i => (M.getD i Con.zero).rvs) k) true, (∀ (i : Nat), i < M.length → (fun i => (M.getD i Con.zero).rvs) i = (Con.ofR ((fun i => (M.getD i Con.zero).rvs) i)).rvs) ∧ okL (consR M.length fun i => (M.getD i Con.zero).rvs) ∧ (1 : Int) ≤ (↑k : Int) ∧ (↑k : Int) < (↑M.length : Int), Dec ((M.getD k Con.zero).sign == (-1 : Int)) true, (0 : Int) ≤ (↑k : Int) ∧ (↑k : Int) < (↑M.length : Int), Dec (decide ((↑k : Int) ≥ (1 : Int))) true], by kernel_rfl, ⟨?_, ?_, ?_, ?_, d3, ?_, d2, ?_, d1⟩, MuG.out ?_, InG.out ?_⟩⟩)
           (fun d3 => ⟨[true, true, false], .inl ⟨(k - 1, canS M k), [IntKind.i64.wrap ((↑k : Int) - (1 : Int)) = (↑(k - (1 : Nat)) : Int), (2 : Int) = (2 : Int), M.length = (canS M k).length ∧ (fun i => (M.getD i Con.zero).rvs) = fun i => ((canS M k).getD i Con.zero).rvs, Dec (linkM (consR M.length fun i => (M.getD i Con.zero).rvs) k) false, (∀ (i : Nat), i < M.length → (fun i => (M.getD i Con.zero).rvs) i = (Con.ofR ((fun i => (M.getD i Con.zero).rvs) i)).rvs) ∧ okL (consR M.length fun i => (M.getD i Con.zero).rvs) ∧ (1 : Int) ≤ (↑k : Int) ∧ (↑k : Int) < (↑M.length : Int), Dec ((M.getD k Con.zero).sign == (-1 : Int)) true, (0 : Int) ≤ (↑k : Int) ∧ (↑k : Int) < (↑M.length : Int), Dec (decide ((↑k : Int) ≥ (1 : Int))) true], by kernel_rfl, ⟨?_, ?_, ?_, d3, ?_, d2, ?_, d1⟩, MuG.out ?_, InG.out ?_⟩⟩))
           (fun d2 => ⟨[true, false], .inl ⟨(k - 1, canS M k), [IntKind.i64.wrap ((↑k : Int) - (1 : Int)) = (↑(k - (1 : Nat)) : Int), (2 : Int) = (2 : Int), M.length = (canS M k).length ∧ (fun i => (M.getD i Con.zero).rvs) = fun i => ((canS M k).getD i Con.zero).rvs, Dec ((M.getD k Con.zero).sign == (-1 : Int)) false, (0 : Int) ≤ (↑k : Int) ∧ (↑k : Int) < (↑M.length : Int), Dec (decide ((↑k : Int) ≥ (1 : Int))) true], by kernel_rfl, ⟨?_, ?_, ?_, d2, ?_, d1⟩, MuG.out ?_, InG.out ?_⟩⟩))
           (fun d1 => ⟨[false], .inr ⟨[(2 : Int) = (2 : Int), M.length = (canM L).length ∧ (fun i => (M.getD i Con.zero).rvs) = fun i => ((canM L).getD i Con.zero).rvs, Dec (decide ((↑k : Int) ≥ (1 : Int))) false], by kernel_rfl, ⟨?_, ?_, d1⟩, rfl⟩⟩)
      all_goals first | (refine MuG.mk ?_; (simp only [decide_eq_true_eq, ge_iff_le] at *; show k - 1 < k; omega)) | (refine InG.mk ?_; (simp only [decide_eq_true_eq, ge_iff_le] at *; refine ⟨canS_ok hM hk, by rw [canS_len]; omega, ?_⟩; rw [← hc]; unfold canS; cases hs : ((at_ M k).sign == -1 && linkM M k) with | true => exact canG_yes (by omega) hs | false => exact canG_no (by omega) hs)) | (refine CtG.mk ?_; (simp_all)) | (first | (with_reducible rfl) | exact ⟨rfl, rfl⟩ | ((try simp only [ek, consR_ro, Int.toNat_natCast, decide_eq_true_eq, decide_eq_false_iff_not, ge_iff_le] at *) <;> first | omega | rfl | exact ⟨fun _ _ => rfl, hM, by omega, by omega⟩ | exact ⟨fun _ _ => rfl, by trivial, hM, by omega, by omega⟩ | (rw [canS, show ((at_ M k).sign == -1 && linkM M k) = true from by simp_all [at_]]; exact ⟨rfl, rfl⟩) | (rw [canS, show ((at_ M k).sign == -1 && linkM M k) = false from by simp_all [at_]]; exact ⟨rfl, rfl⟩) | (rw [← hc, canG_end (by omega)]; exact ⟨rfl, rfl⟩)))
set_option maxRecDepth 100000 in
theorem can_yes (L : List Con) (hL : okL L) (hv : val2M 2 L = true) (hne : 0 < L.length) : PureC Tryz.prog [] 23 [.agg [.int .i64 2, roC L]] (.tup [.agg [.int .i64 2, roC (canM L)], .bool true]) := by
  have rr := fun (tp : List Bool) (ms : List Prop) h hm => pure_run evOk (callF_ok evOk (orcOf_ok entsK_ok) 8) Tryz.func23 (A := [.agg [.int .i64 2, roC L]]) (N := Nat.max 1 Tryz.f23.ntmps) rfl (one_ann (can_loop L (fuseM_ok hL) (by rw [fuseM_len]; exact hne))) rfl rfl evNg (tabs := []) (R := .tup [.agg [.int .i64 2, roC (canM L)], .bool true]) (tp := tp) (ms := ms) h hm
  refine rr [false] [(2 : Int) = (2 : Int), (canM L).length = (canM L).length ∧ (fun i => ((canM L).getD i Con.zero).rvs) = fun i => ((canM L).getD i Con.zero).rvs, true = true, IntKind.i64.wrap ((↑(fuseM (consR L.length fun i => (L.getD i Con.zero).rvs)).length : Int) - (1 : Int)) = IntKind.i64.wrap ((↑(fuseM L).length : Int) - (1 : Int)), (2 : Int) = (2 : Int), (fuseM (consR L.length fun i => (L.getD i Con.zero).rvs)).length = (fuseM L).length ∧ (fun i => ((fuseM (consR L.length fun i => (L.getD i Con.zero).rvs)).getD i Con.zero).rvs) = fun i => ((fuseM L).getD i Con.zero).rvs, Dec (!true) false, (∀ (i : Nat), i < L.length → (fun i => (L.getD i Con.zero).rvs) i = (Con.ofR ((fun i => (L.getD i Con.zero).rvs) i)).rvs) ∧ (2 : Int) = (2 : Int) ∧ okL (consR L.length fun i => (L.getD i Con.zero).rvs) ∧ val2M (2 : Int) (consR L.length fun i => (L.getD i Con.zero).rvs) = true ∧ (0 : Nat) < L.length] (by kernel_rfl) ⟨?_, ?_, ?_, ?_, ?_, ?_, (dN rfl), (?_ : (∀ (i : Nat), i < L.length → (fun i => (L.getD i Con.zero).rvs) i = (Con.ofR ((fun i => (L.getD i Con.zero).rvs) i)).rvs) ∧ (2 : Int) = (2 : Int) ∧ okL (consR L.length fun i => (L.getD i Con.zero).rvs) ∧ val2M (2 : Int) (consR L.length fun i => (L.getD i Con.zero).rvs) = true ∧ (0 : Nat) < L.length)⟩
  all_goals first | (first | (with_reducible rfl) | exact ⟨rfl, rfl⟩ | exact ⟨fun _ _ => rfl, rfl, by rw [consR_ro]; exact hL, by rw [consR_ro]; exact hv, hne⟩ | (rw [consR_ro]; first | done | rfl | exact ⟨rfl, rfl⟩))
set_option maxRecDepth 100000 in
theorem can_no (p : Int) (L : List Con) (hn : L.length ≤ 1000) (hv : val2M p L = false) : PureC Tryz.prog [] 23 [.agg [.int .i64 p, roC L]] (.tup [.agg [.int .i64 0, roC []], .bool false]) := by
  have rr := fun (tp : List Bool) (ms : List Prop) h hm => pure_run evOk (callF_ok evOk (orcOf_ok entsKn_ok) 8) Tryz.func23 (A := [.agg [.int .i64 p, roC L]]) rfl none_ann rfl rfl evNg (tabs := []) (R := .tup [.agg [.int .i64 0, roC []], .bool false]) (tp := tp) (ms := ms) h hm
  refine rr [true] [(0 : Int) = (0 : Int), (0 : Nat) = (0 : Nat), false = false, Dec (!false) true, (∀ (i : Nat), i < L.length → (fun i => (L.getD i Con.zero).rvs) i = (Con.ofR ((fun i => (L.getD i Con.zero).rvs) i)).rvs) ∧ L.length ≤ (1000 : Nat) ∧ val2M p (consR L.length fun i => (L.getD i Con.zero).rvs) = false] (by kernel_rfl) ⟨?_, ?_, ?_, (dN rfl), (?_ : (∀ (i : Nat), i < L.length → (fun i => (L.getD i Con.zero).rvs) i = (Con.ofR ((fun i => (L.getD i Con.zero).rvs) i)).rvs) ∧ L.length ≤ (1000 : Nat) ∧ val2M p (consR L.length fun i => (L.getD i Con.zero).rvs) = false)⟩
  all_goals first | (first | rfl | exact ⟨rfl, rfl⟩ | exact ⟨fun _ _ => rfl, hn, by rw [consR_ro]; exact hv⟩)
end Go.Proofs.YtcfdaddablojlaaGreatDoor.S

/- train.Fuse, walk and Canonical. -/
set_option linter.unusedSimpArgs false
set_option linter.unusedVariables false
namespace Go.Proofs.YtcfdaddablojlaaGreatDoor.S
open Go.QfSy Go.RowKit

noncomputable def entsVW : List OEnt := entsVC ++ [
  ⟨38, [], fun A => match A with
    | [.agg [.int .i64 p, .sl n 5 row]] => some (.bool (val2M p (consR n row)), [(∀ i, i < n → row i = (Con.ofR (row i)).rvs) ∧ n ≤ 1000])
    | _ => none⟩]
theorem entsVW_ok : ∀ e ∈ entsVW, EntOk Tryz.prog e := by
  intro e he
  rcases List.mem_append.1 he with he | he
  · exact entsVC_ok e he
  · rw [List.mem_singleton.1 he]
    intro A R ms h hm
    simp only at h
    split at h
    · cases h
      obtain ⟨h1, h3⟩ := all_one hm
      exact PureC.imp (tvalid_pure _ _ (by rw [consR_len]; exact h3)) (.cons (.agg (.cons .same (.cons (.con h1) .nil))) .nil)
    · cases h
theorem sumT_append : ∀ {a b : List Int} {L : List Con}, sumT L (a ++ b) = sumT L a + sumT (zeroP L a) b
  | [], _, _ => by simp [sumT, zeroP]
  | i :: a, b, L => by simp only [List.cons_append, sumT, zeroP]; rw [sumT_append]; omega
theorem sumT_take {L : List Con} {l : List Int} {t : Nat} (ht : t < l.length) : sumT L (l.take (t + 1)) = sumT L (l.take t) + (at_ (zeroP L (l.take t)) (l.getD t 0).toNat).oddity := by
  rw [take_int ht, sumT_append]; simp [sumT]
theorem sumT_b : ∀ {l : List Int} {L : List Con}, okL L → inR L.length l → 0 ≤ sumT L l ∧ sumT L l ≤ 7 * l.length
  | [], _, _, _ => by simp [sumT]
  | i :: l, L, hL, h => by
    have h1 := h i (by simp)
    have h2 := (hL.at (k := i.toNat) (by omega)).2.2.2
    have ih := sumT_b (setO_ok hL h1 (by decide : (0 : Int) ≤ 0 ∧ (0 : Int) ≤ 7)) (l := l) (by rw [setO_len]; exact fun x hx => h x (by simp [hx]))
    simp only [sumT, List.length_cons]
    omega
def fuT (M : List Con) (l : List Int) : List Con := setO (zeroP M l) (l.getD 0 0) (sumT M l % 8)
theorem fuT_len {M : List Con} {l : List Int} : (fuT M l).length = M.length := by unfold fuT; rw [setO_len, zeroP_len]
theorem fuT_ok {M : List Con} (h : okL M) {l : List Int} (hl : inR M.length l) (hne : l ≠ []) : okL (fuT M l) := by
  unfold fuT
  refine setO_ok (zeroP_ok h hl) ?_ (by omega)
  rw [zeroP_len]
  exact hl.at (List.length_pos_iff.2 hne)
theorem fuseT_drop {M : List Con} {P : List (List Int)} {j : Nat} (hj : j < P.length) : fuseT M (P.drop j) = fuseT (fuT M (rowAt P j)) (P.drop (j + 1)) := by
  rw [drop_row hj]; rfl
noncomputable def tfH (n : Nat) (M : List Con) : List (Nat × Blk) := [(1001, ⟨.plain [.int .i64 0, .nils], 24, 0, false, true⟩), (1003, ⟨.con M, 49, 5, true, true⟩)]
noncomputable def tfT (n : Nat) (P : List (List Int)) (j : Nat) : List (Nat × AV) := [(2, .ptr 1001 0), (4, .lo 1003 n), (18, (roR .i64 P).av), (19, .vint .i64 P.length), (20, .vint .i64 (j : Int)), (6, (rI .i64 (rowAt P j)).av)]
noncomputable def tfIn (n : Nat) (M : List Con) (P : List (List Int)) (j : Nat) : Ann := ⟨⟨tfT n P j ++ [(7, .int .i64 0), (24, (rI .i64 (rowAt P j)).av), (25, .vint .i64 (rowAt P j).length), (26, .int .i64 0)], tfH n M, 1030⟩, none, fun _ =>
  (.exit 2, ⟨tfT n P j ++ [(7, .vint .i64 (sumT M (rowAt P j)))], tfH n (zeroP M (rowAt P j)), 1030⟩)⟩
theorem odd_z {M : List Con} {l : List Int} {t : Nat} (hL : okL M) (hl : inR M.length l) (ht : t < l.length) : 0 ≤ (at_ (zeroP M (l.take t)) (l.getD t 0).toNat).oddity ∧ (at_ (zeroP M (l.take t)) (l.getD t 0).toNat).oddity ≤ 7 := by
  have h1 := hl.at ht
  have h2 := zeroP_ok hL (l := l.take t) (fun x hx => hl x (List.mem_of_mem_take hx))
  exact (h2.at (k := (l.getD t 0).toNat) (by rw [zeroP_len]; omega)).2.2.2
set_option maxRecDepth 100000 in
theorem tf_in (n : Nat) (M : List Con) (P : List (List Int)) (j : Nat) (hM : okL M) (hn : M.length = n) (hr : inR n (rowAt P j)) (hr2 : (rowAt P j).length ≤ 1000) : AnnOk Tryz.prog EV.ng (Nat.max 1 Tryz.f19.ntmps) (bodyAt Tryz.f19 [0, 1, 0, 1, 1, 0, 0, 1, 1, 0, 0, 1, 0, 1, 1, 1]) (tfIn n M P j) := by
  refine ann_of evOk (callF_ok evOk (noOrc_ok _ _) 8) none_ann (by kernel_rfl) (by kernel_rfl) (fun i : Nat × Int => (fun (t : Nat) (s : Int) => (⟨tfT n P j ++ [(7, .vint .i64 s), (24, (rI .i64 (rowAt P j)).av), (25, .vint .i64 (rowAt P j).length), (26, .vint .i64 (t : Int))], tfH n (zeroP M ((rowAt P j).take t)), 1030⟩ : St)) i.1 i.2) (fun i : Nat × Int => (fun (t : Nat) (s : Int) => ((rowAt P j).length - t : Nat)) i.1 i.2) (fun (d : Bool) (i : Nat × Int) => (fun (t : Nat) (s : Int) => (t ≤ (rowAt P j).length ∧ s = sumT M ((rowAt P j).take t) : Prop)) i.1 i.2) ?_ ?_
  · intro d hd
    exact ⟨(0, 0), [n = n, P.length = P.length ∧ (fun i => [rI IntKind.i64 (P.getD i [])]) = fun i => [rI IntKind.i64 (P.getD i [])], (↑P.length : Int) = (↑P.length : Int), (↑j : Int) = (↑j : Int), (rowAt P j).length = (rowAt P j).length ∧ (fun j_1 => [RV.int IntKind.i64 ((rowAt P j).getD j_1 (0 : Int))]) = fun j_1 => [RV.int IntKind.i64 ((rowAt P j).getD j_1 (0 : Int))], (0 : Int) = (0 : Int), (rowAt P j).length = (rowAt P j).length ∧ (fun j_1 => [RV.int IntKind.i64 ((rowAt P j).getD j_1 (0 : Int))]) = fun j_1 => [RV.int IntKind.i64 ((rowAt P j).getD j_1 (0 : Int))], (↑(rowAt P j).length : Int) = (↑(rowAt P j).length : Int), (0 : Int) = (↑(0 : Nat) : Int), M = zeroP M (List.take (0 : Nat) (rowAt P j))], by kernel_rfl, (by refine ⟨?_, ?_, ?_, ?_, ?_, ?_, ?_, ?_, ?_, (?_ : M = zeroP M (List.take (0 : Nat) (rowAt P j)))⟩ <;> (first | rfl | assumption | omega | simp_all)), (by exact ⟨Nat.zero_le _, rfl⟩)⟩
  · rintro d hd ⟨t, s⟩ hI
    cases d
    · -- d = false
      exact Bool.noConfusion (show false = true from hd)
    · -- d = true
      obtain ⟨ht, hs⟩ := hI
      have ht : t ≤ (rowAt P j).length := ht
      have hs : s = sumT M ((rowAt P j).take t) := hs
      have ek : IntKind.i64.wrap ((t : Int) + 1) = ((t + 1 : Nat) : Int) := by rw [w64 (by omega) (by omega)]; omega
      have hz : (zeroP M ((rowAt P j).take t)).length = n := by rw [zeroP_len, hn]
      have hl1 := hM.1
      have hr' : inR M.length (rowAt P j) := by rw [hn]; exact hr
      have hb := sumT_b hM (l := (rowAt P j).take t) (fun x hx => hr' x (List.mem_of_mem_take hx))
      have hb2 : (((rowAt P j).take t).length : Int) ≤ 1000 := by simp only [List.length_take]; omega
      refine Or.elim (Bool.eq_false_or_eq_true (decide ((↑t : Int) < (↑(rowAt P j).length : Int)))) (fun d1 => ⟨[true], .inl ⟨(t + 1, s + (at_ (zeroP M ((rowAt P j).take t)) ((rowAt P j).getD t 0).toNat).oddity), [n = n, P.length = P.length ∧ (fun i => [rI IntKind.i64 (P.getD i [])]) = fun i => [rI IntKind.i64 (P.getD i [])], (↑P.length : Int) = (↑P.length : Int), (↑j : Int) = (↑j : Int), (rowAt P j).length = (rowAt P j).length ∧ (fun j_1 => [RV.int IntKind.i64 ((rowAt P j).getD j_1 (0 : Int))]) = fun j_1 => [RV.int IntKind.i64 ((rowAt P j).getD j_1 (0 : Int))], IntKind.i64.wrap (s + ((zeroP M (List.take t (rowAt P j))).getD ((rowAt P j).getD t (0 : Int)).toNat Con.zero).oddity) = s + (at_ (zeroP M (List.take t (rowAt P j))) ((rowAt P j).getD t (0 : Int)).toNat).oddity, (rowAt P j).length = (rowAt P j).length ∧ (fun j_1 => [RV.int IntKind.i64 ((rowAt P j).getD j_1 (0 : Int))]) = fun j_1 => [RV.int IntKind.i64 ((rowAt P j).getD j_1 (0 : Int))], (↑(rowAt P j).length : Int) = (↑(rowAt P j).length : Int), IntKind.i64.wrap ((↑t : Int) + (1 : Int)) = (↑(t + (1 : Nat)) : Int), updT (zeroP M (List.take t (rowAt P j))) ((rowAt P j).getD t (0 : Int)).toNat (0 : Int) = zeroP M (List.take (t + (1 : Nat)) (rowAt P j)), ((rowAt P j).getD t (0 : Int)).toNat < (zeroP M (List.take t (rowAt P j))).length, (0 : Int) ≤ (rowAt P j).getD t (0 : Int) ∧ (rowAt P j).getD t (0 : Int) < (↑n : Int), ((rowAt P j).getD t (0 : Int)).toNat < (zeroP M (List.take t (rowAt P j))).length, (0 : Int) ≤ (rowAt P j).getD t (0 : Int) ∧ (rowAt P j).getD t (0 : Int) < (↑n : Int), (0 : Int) ≤ (↑t : Int) ∧ (↑t : Int) < (↑(rowAt P j).length : Int), Dec (decide ((↑t : Int) < (↑(rowAt P j).length : Int))) true], by kernel_rfl, ⟨?_, ?_, ?_, ?_, ?_, ?_, ?_, ?_, ?_, ?_, ?_, ?_, ?_, ?_, ?_, d1⟩, MuG.out ?_, InG.out ?_⟩⟩)
           (fun d1 => ⟨[false], .inr ⟨[n = n, P.length = P.length ∧ (fun i => [rI IntKind.i64 (P.getD i [])]) = fun i => [rI IntKind.i64 (P.getD i [])], (↑P.length : Int) = (↑P.length : Int), (↑j : Int) = (↑j : Int), (rowAt P j).length = (rowAt P j).length ∧ (fun j_1 => [RV.int IntKind.i64 ((rowAt P j).getD j_1 (0 : Int))]) = fun j_1 => [RV.int IntKind.i64 ((rowAt P j).getD j_1 (0 : Int))], s = sumT M (rowAt P j), zeroP M (List.take t (rowAt P j)) = zeroP M (rowAt P j), Dec (decide ((↑t : Int) < (↑(rowAt P j).length : Int))) false], by kernel_rfl, ⟨?_, ?_, ?_, ?_, ?_, ?_, ?_, d1⟩, rfl⟩⟩)
      all_goals first | (refine MuG.mk ?_; (simp only [decide_eq_true_eq] at *; show (rowAt P j).length - (t + 1) < (rowAt P j).length - t; omega)) | (refine InG.mk ?_; (simp only [decide_eq_true_eq] at *; exact ⟨by omega, by rw [sumT_take (by omega), hs]⟩)) | (refine CtG.mk ?_; (simp_all)) | (first | (with_reducible rfl) | exact ⟨rfl, rfl⟩ | ((try simp only [ek, Int.toNat_natCast, decide_eq_true_eq, decide_eq_false_iff_not] at *) <;> first | omega | (have h0 := hr.at (t := t) (by omega); omega) | (have h2 := odd_z (t := t) hM hr' (by omega); simp only [at_] at h2 ⊢; exact w64 (by omega) (by omega)) | (rw [zeroP_take (by omega)]; rfl) | (rw [hs, List.take_of_length_le (by omega)]; done) | (rw [List.take_of_length_le (by omega)]; done)))
noncomputable def tfOut (L : List Con) (P : List (List Int)) : Ann := ⟨⟨[(2, .ptr 1001 0), (4, .lo 1003 L.length), (18, (roR .i64 P).av), (19, .vint .i64 P.length), (20, .int .i64 0)], tfH L.length L, 1030⟩, none, fun _ =>
  (.exit 0, ⟨[(2, .ptr 1001 0), (4, .lo 1003 L.length)], tfH L.length (fuseT L P), 1030⟩)⟩
set_option maxRecDepth 100000 in
theorem tf_out (L : List Con) (P : List (List Int)) (hL : okL L) (hP : ∀ l ∈ P, l ≠ [] ∧ inR L.length l ∧ l.length ≤ L.length) (hm : P.length ≤ 1000) : AnnOk Tryz.prog EV.ng (Nat.max 1 Tryz.f19.ntmps) (bodyAt Tryz.f19 [0, 1, 0, 1, 1, 1]) (tfOut L P) := by
  refine ann_ofI evOk (callF_ok evOk (noOrc_ok _ _) 8) (by kernel_rfl) (by kernel_rfl) (fun i : Nat × List Con => (fun (j : Nat) (M : List Con) => (⟨[(2, .ptr 1001 0), (4, .lo 1003 L.length), (18, (roR .i64 P).av), (19, .vint .i64 P.length), (20, .vint .i64 (j : Int))], tfH L.length M, 1030⟩ : St)) i.1 i.2) (fun i : Nat × List Con => (fun (j : Nat) (M : List Con) => (P.length - j : Nat)) i.1 i.2) (fun (d : Bool) (i : Nat × List Con) => (fun (j : Nat) (M : List Con) => (j ≤ P.length ∧ okL M ∧ M.length = L.length ∧ fuseT M (P.drop j) = fuseT L P : Prop)) i.1 i.2) (fun i : Nat × List Con => (fun (j : Nat) (M : List Con) => ([([0, 1, 0, 1, 1, 0, 0, 1, 1, 0, 0, 1, 0, 1, 1, 1], tfIn L.length M P j)] : List (List Nat × Ann))) i.1 i.2) ?_ ?_ ?_
  · rintro d hd ⟨j, M⟩ hI
    exact one_ann (tf_in L.length M P j hI.2.1 hI.2.2.1 (by rcases Nat.lt_or_ge j P.length with h | h; exact (hP _ (rowAt_mem h)).2.1; intro x hx; simp [rowAt, h] at hx) (by have := hL.1; rcases Nat.lt_or_ge j P.length with h | h; have := (hP _ (rowAt_mem h)).2.2; omega; simp [rowAt, h]))
  · intro d hd
    exact ⟨(0, L), [L.length = L.length, P.length = P.length ∧ (fun i => [rI IntKind.i64 (P.getD i [])]) = fun i => [rI IntKind.i64 (P.getD i [])], (↑P.length : Int) = (↑P.length : Int), (0 : Int) = (↑(0 : Nat) : Int), L = L], by kernel_rfl, (by refine ⟨?_, ?_, ?_, ?_, (?_ : L = L)⟩ <;> (first | rfl | assumption | omega | simp_all)), (by exact ⟨Nat.zero_le _, hL, rfl, rfl⟩)⟩
  · rintro d hd ⟨j, M⟩ hI
    cases d
    · -- d = false
      exact Bool.noConfusion (show false = true from hd)
    · -- d = true
      obtain ⟨ht, hM, hn, hf⟩ := hI
      have ht : j ≤ P.length := ht
      have hM : okL M := hM
      have hn : M.length = L.length := hn
      have hf : fuseT M (P.drop j) = fuseT L P := hf
      have hl1 := hL.1
      have ek : IntKind.i64.wrap ((j : Int) + 1) = ((j + 1 : Nat) : Int) := by rw [w64 (by omega) (by omega)]; omega
      have hz : (zeroP M (rowAt P j)).length = L.length := by rw [zeroP_len, hn]
      refine Or.elim (Bool.eq_false_or_eq_true (decide ((↑j : Int) < (↑P.length : Int)))) (fun d1 => ⟨[true], .inl ⟨(j + 1, fuT M (rowAt P j)), [L.length = L.length, P.length = P.length ∧ (fun i => [rI IntKind.i64 (P.getD i [])]) = fun i => [rI IntKind.i64 (P.getD i [])], (↑P.length : Int) = (↑P.length : Int), IntKind.i64.wrap ((↑j : Int) + (1 : Int)) = (↑(j + (1 : Nat)) : Int), updT (zeroP M (rowAt P j)) ((rowAt P j).getD (Int.toNat (0 : Int)) (0 : Int)).toNat ((sumT M (rowAt P j)).tmod (8 : Int)) = fuT M (rowAt P j), ((rowAt P j).getD (Int.toNat (0 : Int)) (0 : Int)).toNat < (zeroP M (rowAt P j)).length, (0 : Int) ≤ (rowAt P j).getD (Int.toNat (0 : Int)) (0 : Int) ∧ (rowAt P j).getD (Int.toNat (0 : Int)) (0 : Int) < (↑L.length : Int), (8 : Int) ≠ (0 : Int), (0 : Int) ≤ (0 : Int) ∧ (0 : Int) < (↑(rowAt P j).length : Int), L.length = L.length, P.length = P.length ∧ (fun i => [rI IntKind.i64 (P.getD i [])]) = fun i => [rI IntKind.i64 (P.getD i [])], (↑P.length : Int) = (↑P.length : Int), (↑j : Int) = (↑j : Int), (P.getD j []).length = (rowAt P j).length ∧ (fun j_1 => [RV.int IntKind.i64 ((P.getD j []).getD j_1 (0 : Int))]) = fun j_1 => [RV.int IntKind.i64 ((rowAt P j).getD j_1 (0 : Int))], (P.getD j []).length = (rowAt P j).length ∧ (fun j_1 => [RV.int IntKind.i64 ((P.getD j []).getD j_1 (0 : Int))]) = fun j_1 => [RV.int IntKind.i64 ((rowAt P j).getD j_1 (0 : Int))], (↑(P.getD j []).length : Int) = (↑(rowAt P j).length : Int), M = M, (0 : Int) ≤ (↑j : Int) ∧ (↑j : Int) < (↑P.length : Int), Dec (decide ((↑j : Int) < (↑P.length : Int))) true], by kernel_rfl, ⟨?_, ?_, ?_, ?_, ?_, ?_, ?_, ?_, ?_, ?_, ?_, ?_, ?_, ?_, ?_, ?_, ?_, ?_, d1⟩, MuG.out ?_, InG.out ?_⟩⟩)
           (fun d1 => ⟨[false], .inr ⟨[L.length = L.length, M = fuseT L P, Dec (decide ((↑j : Int) < (↑P.length : Int))) false], by kernel_rfl, ⟨?_, ?_, d1⟩, rfl⟩⟩)
      all_goals first | (refine MuG.mk ?_; (simp only [decide_eq_true_eq] at *; show P.length - (j + 1) < P.length - j; omega)) | (refine InG.mk ?_; (simp only [decide_eq_true_eq] at *; have h0 := hP _ (rowAt_mem (P := P) (t := j) (by omega)); exact ⟨by omega, fuT_ok hM (by rw [hn]; exact h0.2.1) h0.1, by rw [fuT_len, hn], by rw [← fuseT_drop (by omega)]; exact hf⟩)) | (refine CtG.mk ?_; (simp_all)) | (first | (with_reducible rfl) | exact ⟨rfl, rfl⟩ | decide | ((try simp only [ek, Int.toNat_natCast, Int.toNat_zero, decide_eq_true_eq, decide_eq_false_iff_not] at *) <;> first | omega | (have h0 := hP _ (rowAt_mem (P := P) (t := j) (by omega)); have h1 : 0 < (rowAt P j).length := List.length_pos_iff.2 h0.1; first | omega | (have h2 := h0.2.1.at (t := 0) h1; omega) | (have h3 := (sumT_b hM (l := rowAt P j) (by rw [hn]; exact h0.2.1)).1; unfold fuT; rw [← Int.tmod_eq_emod_of_nonneg h3]; rfl)) | (rw [List.drop_eq_nil_of_le (by omega)] at hf; exact hf)))
set_option maxRecDepth 100000 in
theorem tfuse_yes (L : List Con) (hL : okL L) (hv : val2M 2 L = true) (hne : 0 < L.length) : PureC Tryz.prog [] 19 [.agg [.int .i64 2, roC L]] (.tup [.agg [.int .i64 2, roC (fuseM L)], .bool true]) := by
  have hl := hL.1; have k1 : val2M 2 (consR L.length fun i => (L.getD i Con.zero).rvs) = true := (by rw [consR_ro]; exact hv); have k2 : L.length.beq 0 = false := (by cases h : L.length.beq 0 with | false => rfl | true => have := Nat.eq_of_beq_eq_true h; omega)
  have rr := fun (tp : List Bool) (ms : List Prop) h hm => pure_run evOk (callF_ok evOk (orcOf_ok entsVW_ok) 8) Tryz.func19 (A := [.agg [.int .i64 2, roC L]]) (N := Nat.max 1 Tryz.f19.ntmps) rfl (one_ann (tf_out L (partsM L) hL parts_rows (Nat.le_trans parts_len hL.1))) rfl rfl evNg (tabs := []) (R := .tup [.agg [.int .i64 2, roC (fuseM L)], .bool true]) (tp := tp) (ms := ms) h hm
  refine rr [false, false] [(2 : Int) = (2 : Int), L.length = (fuseM L).length ∧ L.length = (fuseT L (partsM L)).length ∧ ∀ (i : Nat), i < L.length → (fun i => ((fuseM L).getD i Con.zero).rvs) i = ((fuseT L (partsM L)).getD i Con.zero).rvs, true = true, L.length = L.length, (partsM (consR L.length fun i => (L.getD i Con.zero).rvs)).length = (partsM L).length ∧ (fun i => [rI IntKind.i64 ((partsM (consR L.length fun i => (L.getD i Con.zero).rvs)).getD i [])]) = fun i => [rI IntKind.i64 ((partsM L).getD i [])], (↑(partsM (consR L.length fun i => (L.getD i Con.zero).rvs)).length : Int) = (↑(partsM L).length : Int), (consR L.length fun i => (L.getD i Con.zero).rvs) = L, (∀ (i : Nat), i < L.length → (fun i => (L.getD i Con.zero).rvs) i = (Con.ofR ((fun i => (L.getD i Con.zero).rvs) i)).rvs) ∧ okE (consR L.length fun i => (L.getD i Con.zero).rvs), (0 : Nat) < L.length ∧ L.length ≤ (1000000 : Nat), ∀ (i : Nat), i < L.length → (fun i => (L.getD i Con.zero).rvs) i = (Con.ofR ((fun i => (L.getD i Con.zero).rvs) i)).rvs, Dec (L.length.beq (0 : Nat)) false, (0 : Nat) < L.length, Dec (!val2M (2 : Int) (consR L.length fun i => (L.getD i Con.zero).rvs)) false, (∀ (i : Nat), i < L.length → (fun i => (L.getD i Con.zero).rvs) i = (Con.ofR ((fun i => (L.getD i Con.zero).rvs) i)).rvs) ∧ L.length ≤ (1000 : Nat)] (by kernel_rfl) ⟨?_, ?_, ?_, ?_, ?_, ?_, ?_, ?_, ?_, ?_, k2, ?_, (dN k1), (?_ : (∀ (i : Nat), i < L.length → (fun i => (L.getD i Con.zero).rvs) i = (Con.ofR ((fun i => (L.getD i Con.zero).rvs) i)).rvs) ∧ L.length ≤ (1000 : Nat))⟩
  all_goals first | (first | (with_reducible rfl) | exact ⟨rfl, rfl⟩ | (rw [← fuseT_parts]; exact ⟨by rw [fuseT_parts, fuseM_len], by rw [fuseT_parts, fuseM_len], fun _ _ => rfl⟩) | exact consR_ro L | (rw [consR_ro]; first | done | rfl | exact ⟨rfl, rfl⟩) | exact ⟨hne, by omega⟩ | exact hne | exact fun _ _ => rfl | exact ⟨fun _ _ => rfl, by rw [consR_ro]; exact hL.e⟩ | exact ⟨fun _ _ => rfl, hl⟩)
set_option maxRecDepth 100000 in
theorem tfuse_no (p : Int) (L : List Con) (hn : L.length ≤ 1000) (hv : val2M p L = false) : PureC Tryz.prog [] 19 [.agg [.int .i64 p, roC L]] (.tup [.agg [.int .i64 0, roC []], .bool false]) := by
  have k1 : val2M p (consR L.length fun i => (L.getD i Con.zero).rvs) = false := (by rw [consR_ro]; exact hv)
  have rr := fun (tp : List Bool) (ms : List Prop) h hm => pure_run evOk (callF_ok evOk (orcOf_ok entsVW_ok) 8) Tryz.func19 (A := [.agg [.int .i64 p, roC L]]) rfl none_ann rfl rfl evNg (tabs := []) (R := .tup [.agg [.int .i64 0, roC []], .bool false]) (tp := tp) (ms := ms) h hm
  refine rr [true] [(0 : Int) = (0 : Int), (0 : Nat) = (0 : Nat), false = false, Dec (!val2M p (consR L.length fun i => (L.getD i Con.zero).rvs)) true, (∀ (i : Nat), i < L.length → (fun i => (L.getD i Con.zero).rvs) i = (Con.ofR ((fun i => (L.getD i Con.zero).rvs) i)).rvs) ∧ L.length ≤ (1000 : Nat)] (by kernel_rfl) ⟨?_, ?_, ?_, (dN k1), (?_ : (∀ (i : Nat), i < L.length → (fun i => (L.getD i Con.zero).rvs) i = (Con.ofR ((fun i => (L.getD i Con.zero).rvs) i)).rvs) ∧ L.length ≤ (1000 : Nat))⟩
  all_goals first | (first | rfl | exact ⟨rfl, rfl⟩ | exact ⟨fun _ _ => rfl, hn⟩)

/- walk -/
theorem walkG_drop {x y : Int} {M : List Con} {P : List (List Int)} {j : Nat} (hj : j < P.length) : walkG x y M (P.drop j) = walkG x y (bif hasI x (rowAt P j) || hasI y (rowAt P j) then add4 M ((rowAt P j).getD 0 0) else M) (P.drop (j + 1)) := by
  rw [drop_row hj]; rfl
def wkT (x y : Int) (M : List Con) (l : List Int) : List Con := bif hasI x l || hasI y l then add4 M (l.getD 0 0) else M
theorem wkT_len {x y : Int} {M : List Con} {l : List Int} : (wkT x y M l).length = M.length := by unfold wkT; cases (hasI x l || hasI y l) <;> simp only [cond_true, cond_false, add4_len]
theorem wkT_ok {x y : Int} {M : List Con} (h : okL M) {l : List Int} (hl : inR M.length l) (hne : l ≠ []) : okL (wkT x y M l) := by
  unfold wkT
  cases (hasI x l || hasI y l)
  · exact h
  · exact add4_ok h (hl.at (List.length_pos_iff.2 hne))
theorem wkT_1 {x y : Int} {M : List Con} {l : List Int} (h : hasI x l = true) : wkT x y M l = add4 M (l.getD 0 0) := by unfold wkT; rw [h]; rfl
theorem wkT_2 {x y : Int} {M : List Con} {l : List Int} (h : hasI y l = true) : wkT x y M l = add4 M (l.getD 0 0) := by unfold wkT; rw [h, Bool.or_true]; rfl
theorem wkT_3 {x y : Int} {M : List Con} {l : List Int} (h : hasI x l = false) (h2 : hasI y l = false) : wkT x y M l = M := by unfold wkT; rw [h, h2]; rfl
noncomputable def twAnn (k : Nat) (L M0 : List Con) (P : List (List Int)) : Ann := ⟨⟨[(1, .vint .i64 (k : Int)), (4, .ptr 1001 0), (5, .lo 1003 L.length), (35, (roR .i64 P).av), (36, .vint .i64 P.length), (37, .int .i64 0)], tfH L.length M0, 1030⟩, none, fun _ =>
  (.exit 0, ⟨[(4, .ptr 1001 0), (5, .lo 1003 L.length)], tfH L.length (walkG ((k : Int) - 1) k M0 P), 1030⟩)⟩
set_option maxRecDepth 100000 in
theorem tw_loop (k : Nat) (L M0 : List Con) (P : List (List Int)) (hL : okL M0) (hn0 : M0.length = L.length) (h1 : 1 ≤ k) (h2 : k < L.length) (hP : ∀ l ∈ P, l ≠ [] ∧ inR L.length l ∧ l.length ≤ L.length) (hm : P.length ≤ 1000) : AnnOk Tryz.prog EV.ng (Nat.max 2 Tryz.f54.ntmps) (bodyAt Tryz.f54 [0, 1, 0, 1, 1, 1, 1]) (twAnn k L M0 P) := by
  refine ann_of evOk (callF_ok evOk (orcOf_ok entsVC_ok) 8) none_ann (by kernel_rfl) (by kernel_rfl) (fun i : Nat × List Con => (fun (j : Nat) (M : List Con) => (⟨[(1, .vint .i64 (k : Int)), (4, .ptr 1001 0), (5, .lo 1003 L.length), (35, (roR .i64 P).av), (36, .vint .i64 P.length), (37, .vint .i64 (j : Int))], tfH L.length M, 1030⟩ : St)) i.1 i.2) (fun i : Nat × List Con => (fun (j : Nat) (M : List Con) => (P.length - j : Nat)) i.1 i.2) (fun (d : Bool) (i : Nat × List Con) => (fun (j : Nat) (M : List Con) => (j ≤ P.length ∧ okL M ∧ M.length = L.length ∧ walkG ((k : Int) - 1) k M (P.drop j) = walkG ((k : Int) - 1) k M0 P : Prop)) i.1 i.2) ?_ ?_
  · intro d hd
    exact ⟨(0, M0), [(↑k : Int) = (↑k : Int), L.length = L.length, P.length = P.length ∧ (fun i => [rI IntKind.i64 (P.getD i [])]) = fun i => [rI IntKind.i64 (P.getD i [])], (↑P.length : Int) = (↑P.length : Int), (0 : Int) = (↑(0 : Nat) : Int), M0 = M0], by kernel_rfl, (by refine ⟨?_, ?_, ?_, ?_, ?_, (?_ : M0 = M0)⟩ <;> (first | rfl | assumption | omega | simp_all)), (by exact ⟨Nat.zero_le _, hL, hn0, rfl⟩)⟩
  · rintro d hd ⟨j, M⟩ hI
    cases d
    · -- d = false
      exact Bool.noConfusion (show false = true from hd)
    · -- d = true
      obtain ⟨ht, hM, hn, hf⟩ := hI
      have ht : j ≤ P.length := ht
      have hM : okL M := hM
      have hn : M.length = L.length := hn
      have hf : walkG ((k : Int) - 1) k M (P.drop j) = walkG ((k : Int) - 1) k M0 P := hf
      have hl1 := hL.1
      have ek : IntKind.i64.wrap ((j : Int) + 1) = ((j + 1 : Nat) : Int) := by rw [w64 (by omega) (by omega)]; omega
      have em : IntKind.i64.wrap ((k : Int) - 1) = (k : Int) - 1 := w64 (by omega) (by omega)
      refine Or.elim (Bool.eq_false_or_eq_true (decide ((↑j : Int) < (↑P.length : Int)))) (fun d1 => Or.elim (Bool.eq_false_or_eq_true (hasI (IntKind.i64.wrap ((↑k : Int) - (1 : Int))) (intsR (P.getD j []).length fun j_1 => [RV.int IntKind.i64 ((P.getD j []).getD j_1 (0 : Int))]))) (fun d2 => ⟨[true, true], .inl ⟨(j + 1, wkT ((k : Int) - 1) k M (rowAt P j)), [(↑k : Int) = (↑k : Int), L.length = L.length, P.length = P.length ∧ (fun i => [rI IntKind.i64 (P.getD i [])]) = fun i => [rI IntKind.i64 (P.getD i [])], (↑P.length : Int) = (↑P.length : Int), IntKind.i64.wrap ((↑j : Int) + (1 : Int)) = (↑(j + (1 : Nat)) : Int), updT M ((P.getD j []).getD (Int.toNat (0 : Int)) (0 : Int)).toNat ((IntKind.i64.wrap ((M.getD ((P.getD j []).getD (Int.toNat (0 : Int)) (0 : Int)).toNat Con.zero).oddity + (4 : Int))).tmod (8 : Int)) = wkT ((↑k : Int) - (1 : Int)) (↑k : Int) M (rowAt P j), ((P.getD j []).getD (Int.toNat (0 : Int)) (0 : Int)).toNat < M.length, (0 : Int) ≤ (P.getD j []).getD (Int.toNat (0 : Int)) (0 : Int) ∧ (P.getD j []).getD (Int.toNat (0 : Int)) (0 : Int) < (↑L.length : Int), (8 : Int) ≠ (0 : Int), ((P.getD j []).getD (Int.toNat (0 : Int)) (0 : Int)).toNat < M.length, (0 : Int) ≤ (P.getD j []).getD (Int.toNat (0 : Int)) (0 : Int) ∧ (P.getD j []).getD (Int.toNat (0 : Int)) (0 : Int) < (↑L.length : Int), (0 : Int) ≤ (0 : Int) ∧ (0 : Int) < (↑(P.getD j []).length : Int), Dec (hasI (IntKind.i64.wrap ((↑k : Int) - (1 : Int))) (intsR (P.getD j []).length fun j_1 => [RV.int IntKind.i64 ((P.getD j []).getD j_1 (0 : Int))])) true, (∀ (i : Nat), i < (P.getD j []).length → (fun j_1 => [RV.int IntKind.i64 ((P.getD j []).getD j_1 (0 : Int))]) i = [RV.int IntKind.i64 (intR ((fun j_1 => [RV.int IntKind.i64 ((P.getD j []).getD j_1 (0 : Int))]) i))]) ∧ (P.getD j []).length ≤ (1000 : Nat), (0 : Int) ≤ (↑j : Int) ∧ (↑j : Int) < (↑P.length : Int), Dec (decide ((↑j : Int) < (↑P.length : Int))) true], by kernel_rfl, ⟨?_, ?_, ?_, ?_, ?_, ?_, ?_, ?_, ?_, ?_, ?_, ?_, d2, ?_, ?_, d1⟩, MuG.out ?_, InG.out ?_⟩⟩)
           (fun d2 => Or.elim (Bool.eq_false_or_eq_true (hasI (↑k : Int) (intsR (P.getD j []).length fun j_1 => [RV.int IntKind.i64 ((P.getD j []).getD j_1 (0 : Int))]))) (fun d3 => ⟨[true, false, true], .inl ⟨(j + 1, wkT ((k : Int) - 1) k M (rowAt P j)), [(↑k : Int) = (↑k : Int), L.length = L.length, P.length = P.length ∧ (fun i => [rI IntKind.i64 (P.getD i [])]) = fun i => [rI IntKind.i64 (P.getD i [])], (↑P.length : Int) = (↑P.length : Int), IntKind.i64.wrap ((↑j : Int) + (1 : Int)) = (↑(j + (1 : Nat)) : Int), updT M ((P.getD j []).getD (Int.toNat (0 : Int)) (0 : Int)).toNat ((IntKind.i64.wrap ((M.getD ((P.getD j []).getD (Int.toNat (0 : Int)) (0 : Int)).toNat Con.zero).oddity + (4 : Int))).tmod (8 : Int)) = wkT ((↑k : Int) - (1 : Int)) (↑k : Int) M (rowAt P j), ((P.getD j []).getD (Int.toNat (0 : Int)) (0 : Int)).toNat < M.length, (0 : Int) ≤ (P.getD j []).getD (Int.toNat (0 : Int)) (0 : Int) ∧ (P.getD j []).getD (Int.toNat (0 : Int)) (0 : Int) < (↑L.length : Int), (8 : Int) ≠ (0 : Int), ((P.getD j []).getD (Int.toNat (0 : Int)) (0 : Int)).toNat < M.length, (0 : Int) ≤ (P.getD j []).getD (Int.toNat (0 : Int)) (0 : Int) ∧ (P.getD j []).getD (Int.toNat (0 : Int)) (0 : Int) < (↑L.length : Int), (0 : Int) ≤ (0 : Int) ∧ (0 : Int) < (↑(P.getD j []).length : Int), Dec (hasI (↑k : Int) (intsR (P.getD j []).length fun j_1 => [RV.int IntKind.i64 ((P.getD j []).getD j_1 (0 : Int))])) true, (∀ (i : Nat), i < (P.getD j []).length → (fun j_1 => [RV.int IntKind.i64 ((P.getD j []).getD j_1 (0 : Int))]) i = [RV.int IntKind.i64 (intR ((fun j_1 => [RV.int IntKind.i64 ((P.getD j []).getD j_1 (0 : Int))]) i))]) ∧ (P.getD j []).length ≤ (1000 : Nat), Dec (hasI (IntKind.i64.wrap ((↑k : Int) - (1 : Int))) (intsR (P.getD j []).length fun j_1 => [RV.int IntKind.i64 ((P.getD j []).getD j_1 (0 : Int))])) false, (∀ (i : Nat), i < (P.getD j []).length → (fun j_1 => [RV.int IntKind.i64 ((P.getD j []).getD j_1 (0 : Int))]) i = [RV.int IntKind.i64 (intR ((fun j_1 => [RV.int IntKind.i64 ((P.getD j []).getD j_1 (0 : Int))]) i))]) ∧ (P.getD j []).length ≤ (1000 : Nat), (0 : Int) ≤ (↑j : Int) ∧ (↑j : Int) < (↑P.length : Int), Dec (decide ((↑j : Int) < (↑P.length : Int))) true], by kernel_rfl, ⟨?_, ?_, ?_, ?_, ?_, ?_, ?_, ?_, ?_, ?_, ?_, ?_, d3, ?_, d2, ?_, ?_, d1⟩, MuG.out ?_, InG.out ?_⟩⟩)
           (fun d3 => ⟨[true, false, false], .inl ⟨(j + 1, wkT ((k : Int) - 1) k M (rowAt P j)), [(↑k : Int) = (↑k : Int), L.length = L.length, P.length = P.length ∧ (fun i => [rI IntKind.i64 (P.getD i [])]) = fun i => [rI IntKind.i64 (P.getD i [])], (↑P.length : Int) = (↑P.length : Int), IntKind.i64.wrap ((↑j : Int) + (1 : Int)) = (↑(j + (1 : Nat)) : Int), M = wkT ((↑k : Int) - (1 : Int)) (↑k : Int) M (rowAt P j), Dec (hasI (↑k : Int) (intsR (P.getD j []).length fun j_1 => [RV.int IntKind.i64 ((P.getD j []).getD j_1 (0 : Int))])) false, (∀ (i : Nat), i < (P.getD j []).length → (fun j_1 => [RV.int IntKind.i64 ((P.getD j []).getD j_1 (0 : Int))]) i = [RV.int IntKind.i64 (intR ((fun j_1 => [RV.int IntKind.i64 ((P.getD j []).getD j_1 (0 : Int))]) i))]) ∧ (P.getD j []).length ≤ (1000 : Nat), Dec (hasI (IntKind.i64.wrap ((↑k : Int) - (1 : Int))) (intsR (P.getD j []).length fun j_1 => [RV.int IntKind.i64 ((P.getD j []).getD j_1 (0 : Int))])) false, (∀ (i : Nat), i < (P.getD j []).length → (fun j_1 => [RV.int IntKind.i64 ((P.getD j []).getD j_1 (0 : Int))]) i = [RV.int IntKind.i64 (intR ((fun j_1 => [RV.int IntKind.i64 ((P.getD j []).getD j_1 (0 : Int))]) i))]) ∧ (P.getD j []).length ≤ (1000 : Nat), (0 : Int) ≤ (↑j : Int) ∧ (↑j : Int) < (↑P.length : Int), Dec (decide ((↑j : Int) < (↑P.length : Int))) true], by kernel_rfl, ⟨?_, ?_, ?_, ?_, ?_, ?_, d3, ?_, d2, ?_, ?_, d1⟩, MuG.out ?_, InG.out ?_⟩⟩)))
           (fun d1 => ⟨[false], .inr ⟨[L.length = L.length, M = walkG ((↑k : Int) - (1 : Int)) (↑k : Int) M0 P, Dec (decide ((↑j : Int) < (↑P.length : Int))) false], by kernel_rfl, ⟨?_, ?_, d1⟩, rfl⟩⟩)
      all_goals first | (refine MuG.mk ?_; (simp only [decide_eq_true_eq] at *; show P.length - (j + 1) < P.length - j; omega)) | (refine InG.mk ?_; (simp only [decide_eq_true_eq] at *; have h0 := hP _ (rowAt_mem (P := P) (t := j) (by omega)); exact ⟨by omega, wkT_ok hM (by rw [hn]; exact h0.2.1) h0.1, by rw [wkT_len, hn], by rw [walkG_drop (by omega)] at hf; exact hf⟩)) | (refine CtG.mk ?_; (simp_all)) | (first | (with_reducible rfl) | exact ⟨rfl, rfl⟩ | decide | ((try simp only [ek, em, intsR_ro, Int.toNat_natCast, Int.toNat_zero, decide_eq_true_eq, decide_eq_false_iff_not] at *) <;> first | omega | (rw [wkT_3 (by assumption) (by assumption)]; done) | (rw [List.drop_eq_nil_of_le (by omega)] at hf; exact hf) | (have h0 := hP _ (rowAt_mem (P := P) (t := j) (by omega)); have h3 : 0 < (rowAt P j).length := List.length_pos_iff.2 h0.1; have h5 : 0 ≤ (P.getD j []).getD 0 0 ∧ (P.getD j []).getD 0 0 < (L.length : Int) := h0.2.1.at (t := 0) h3; have h6 : (P.getD j []).length ≤ L.length := h0.2.2; have h7 : 0 < (P.getD j []).length := h3; first | omega | exact ⟨fun _ _ => rfl, by omega⟩ | (have h4 := add4_raw hM (i := (rowAt P j).getD 0 0) (by rw [hn]; exact h5); first | (rw [wkT_1 (by assumption)]; exact h4) | (rw [wkT_2 (by assumption)]; exact h4)))))
set_option maxRecDepth 100000 in
theorem twalk_pure (L : List Con) (k : Nat) (hL : okL L) (h1 : 1 ≤ k) (h2 : k < L.length) : PureC Tryz.prog [] 54 [.agg [.int .i64 2, roC L], .int .i64 (k : Int)] (.agg [.int .i64 2, roC (stepM L k)]) := by
  have hl := hL.1; have k2 : L.length.beq 0 = false := (by cases h : L.length.beq 0 with | false => rfl | true => have := Nat.eq_of_beq_eq_true h; omega); have em : IntKind.i64.wrap ((k : Int) - 1) = (k : Int) - 1 := w64 (by omega) (by omega); have et : ((k : Int) - 1).toNat = k - 1 := (by omega); have e1 := flip_raw hL (k := k - 1) (by omega); have e2 := flip_raw (flipS_ok hL (i := k - 1) (by omega)) (k := k) (by rw [flipS_len]; omega); have l1 : (flipS L (k - 1)).length = L.length := flipS_len; have hw : walkG ((k : Int) - 1) (k : Int) (flipS (flipS L (k - 1)) k) (partsM L) = stepM L k := walkM_eq h1 h2
  have rr := fun (tp : List Bool) (ms : List Prop) h hm => pure_run evOk (callF_ok evOk (orcOf_ok entsVC_ok) 8) Tryz.func54 (A := [.agg [.int .i64 2, roC L], .int .i64 (k : Int)]) (N := Nat.max 1 Tryz.f54.ntmps) rfl (one_ann (tw_loop k L (flipS (flipS L (k - 1)) k) (partsM L) (flipS_ok (flipS_ok hL (by omega)) (by rw [flipS_len]; omega)) (by rw [flipS_len, flipS_len]) h1 h2 parts_rows (Nat.le_trans parts_len hL.1))) rfl rfl evNg (tabs := []) (R := .agg [.int .i64 2, roC (stepM L k)]) (tp := tp) (ms := ms) h hm
  refine rr [false] [(2 : Int) = (2 : Int), L.length = (stepM L k).length ∧ L.length = (walkG ((↑k : Int) - (1 : Int)) (↑k : Int) (flipS (flipS L (k - (1 : Nat))) k) (partsM L)).length ∧ ∀ (i : Nat), i < L.length → (fun i => ((stepM L k).getD i Con.zero).rvs) i = ((walkG ((↑k : Int) - (1 : Int)) (↑k : Int) (flipS (flipS L (k - (1 : Nat))) k) (partsM L)).getD i Con.zero).rvs, (↑k : Int) = (↑k : Int), L.length = L.length, (partsM (consR L.length fun i => (L.getD i Con.zero).rvs)).length = (partsM L).length ∧ (fun i => [rI IntKind.i64 ((partsM (consR L.length fun i => (L.getD i Con.zero).rvs)).getD i [])]) = fun i => [rI IntKind.i64 ((partsM L).getD i [])], (↑(partsM (consR L.length fun i => (L.getD i Con.zero).rvs)).length : Int) = (↑(partsM L).length : Int), updS (updS (consR L.length fun i => (L.getD i Con.zero).rvs) (IntKind.i64.wrap ((↑k : Int) - (1 : Int))).toNat (IntKind.i64.wrap ((0 : Int) - ((consR L.length fun i => (L.getD i Con.zero).rvs).getD (IntKind.i64.wrap ((↑k : Int) - (1 : Int))).toNat Con.zero).sign))) k (IntKind.i64.wrap ((0 : Int) - ((updS (consR L.length fun i => (L.getD i Con.zero).rvs) (IntKind.i64.wrap ((↑k : Int) - (1 : Int))).toNat (IntKind.i64.wrap ((0 : Int) - ((consR L.length fun i => (L.getD i Con.zero).rvs).getD (IntKind.i64.wrap ((↑k : Int) - (1 : Int))).toNat Con.zero).sign))).getD k Con.zero).sign)) = flipS (flipS L (k - (1 : Nat))) k, (∀ (i : Nat), i < L.length → (fun i => (L.getD i Con.zero).rvs) i = (Con.ofR ((fun i => (L.getD i Con.zero).rvs) i)).rvs) ∧ okE (consR L.length fun i => (L.getD i Con.zero).rvs), k < (updS (consR L.length fun i => (L.getD i Con.zero).rvs) (IntKind.i64.wrap ((↑k : Int) - (1 : Int))).toNat (IntKind.i64.wrap ((0 : Int) - ((consR L.length fun i => (L.getD i Con.zero).rvs).getD (IntKind.i64.wrap ((↑k : Int) - (1 : Int))).toNat Con.zero).sign))).length, (0 : Int) ≤ (↑k : Int) ∧ (↑k : Int) < (↑L.length : Int), k < (updS (consR L.length fun i => (L.getD i Con.zero).rvs) (IntKind.i64.wrap ((↑k : Int) - (1 : Int))).toNat (IntKind.i64.wrap ((0 : Int) - ((consR L.length fun i => (L.getD i Con.zero).rvs).getD (IntKind.i64.wrap ((↑k : Int) - (1 : Int))).toNat Con.zero).sign))).length, (0 : Int) ≤ (↑k : Int) ∧ (↑k : Int) < (↑L.length : Int), (IntKind.i64.wrap ((↑k : Int) - (1 : Int))).toNat < (consR L.length fun i => (L.getD i Con.zero).rvs).length, (0 : Int) ≤ IntKind.i64.wrap ((↑k : Int) - (1 : Int)) ∧ IntKind.i64.wrap ((↑k : Int) - (1 : Int)) < (↑L.length : Int), (IntKind.i64.wrap ((↑k : Int) - (1 : Int))).toNat < (consR L.length fun i => (L.getD i Con.zero).rvs).length, (0 : Int) ≤ IntKind.i64.wrap ((↑k : Int) - (1 : Int)) ∧ IntKind.i64.wrap ((↑k : Int) - (1 : Int)) < (↑L.length : Int), (0 : Nat) < L.length ∧ L.length ≤ (1000000 : Nat), ∀ (i : Nat), i < L.length → (fun i => (L.getD i Con.zero).rvs) i = (Con.ofR ((fun i => (L.getD i Con.zero).rvs) i)).rvs, Dec (L.length.beq (0 : Nat)) false, (0 : Nat) < L.length] (by kernel_rfl) ⟨?_, ?_, ?_, ?_, ?_, ?_, ?_, ?_, ?_, ?_, ?_, ?_, ?_, ?_, ?_, ?_, ?_, ?_, k2, (?_ : (0 : Nat) < L.length)⟩
  all_goals first | (first | (with_reducible rfl) | exact ⟨rfl, rfl⟩ | exact fun _ _ => rfl | exact ⟨by omega, by omega⟩ | ((try simp only [consR_ro, em, et, Int.toNat_natCast, e1, e2, hw]) <;> first | done | omega | exact ⟨stepM_len.symm, stepM_len.symm, fun _ _ => rfl⟩ | exact ⟨stepM_len.symm, stepM_len.symm, fun _ _ => trivial⟩ | exact ⟨rfl, rfl⟩ | exact ⟨by trivial, by trivial⟩ | exact ⟨fun _ _ => rfl, hL.e⟩ | (rw [consR_ro]; exact ⟨rfl, rfl⟩)))
end Go.Proofs.YtcfdaddablojlaaGreatDoor.S

/- Parts of a symbol that is made, out of their rows; what such a list makes. -/
set_option linter.unusedSimpArgs false
set_option linter.unusedVariables false
namespace Go.Proofs.YtcfdaddablojlaaGreatDoor.S
open Go.QfSy Go.RowKit

/- a list of parts out of its rows -/
def Prt.ofR : List RV → Prt
  | [.int .u8 a, .int .u8 b, .int .u8 c, .int .u8 d, .int .u8 e] => ⟨a, b, c, d, e⟩
  | _ => Prt.zero
def prtR (n : Nat) (row : Nat → List RV) : List Prt := (List.range n).map fun i => Prt.ofR (row i)
theorem prtR_ro (L : List Prt) : prtR L.length (fun i => (L.getD i Prt.zero).rvs) = L := by
  apply List.ext_getElem
  · simp [prtR]
  · intro i h1 h2
    simp [prtR, h2]; rfl
theorem roP_ro {n : Nat} {row : Nat → List RV} (h : ∀ i, i < n → row i = (Prt.ofR (row i)).rvs) {F : Fz} {V : Value} (k : RRel F (.sl n 5 row) V) : RRel F (roP (prtR n row)) V := by
  unfold roP
  have hn : (prtR n row).length = n := by simp [prtR]
  rw [hn]
  refine k.rows (fun i hi => ?_)
  rw [h i hi]
  congr 1
  simp [prtR, hi]

theorem list_rows {pr most : Int} {two : Bool} {n : Nat} {row : Nat → List RV} (h1 : ∀ i, i < n → row i = (Prt.ofR (row i)).rvs) (h2 : ∀ p ∈ prtR n row, p.ok) (h3 : 1 ≤ most) (h4 : most ≤ 100) (h5 : n ≤ 1000) : PureC Tryz.prog [] 59 [.agg [.int .u8 pr, .sl n 5 row], .int .i64 most, .bool two] (roC (listV most two (prtR n row))) := by
  refine (list_pure pr _ most two h2 h3 h4 (by simpa [prtR] using h5)).args (fun F Args hr => ?_)
  cases hr with | cons k0 hr => cases k0 with | agg k0 => cases k0 with | cons a0 k0 => cases k0 with | cons a1 k0 =>
  cases k0
  exact .cons (.agg (.cons a0 (.cons (roP_ro h1 a1) .nil))) hr

theorem RImp.prt {n : Nat} {row : Nat → List RV} (h : ∀ i, i < n → row i = (Prt.ofR (row i)).rvs) : RImp (.sl n 5 row) (roP (prtR n row)) := fun F V k => roP_ro h k
theorem prtR_len {n : Nat} {row : Nat → List RV} : (prtR n row).length = n := by simp [prtR]
theorem listV_len {most : Int} {two : Bool} {X : List Prt} : (listV most two X).length ≤ X.length + 1 := by
  have key : ∀ (X : List Prt) (e n : Int), (listM most two X e n).length ≤ X.length := by
    intro X
    induction X with
    | nil => intro e n; simp [listM]
    | cons p l ih =>
      intro e n
      simp only [listM]
      split
      · simp
      · simp; exact ih _ _
  unfold listV
  cases (listF most two X).isEmpty
  · have := key X (-1) 0
    simp only [cond_false]; unfold listF; omega
  · simp
end Go.Proofs.YtcfdaddablojlaaGreatDoor.S

/- Lists of constituents in memory; quadformref24.SameList, quadformref26.Same of equal lists; OddPrime. -/
namespace Go.Proofs.YtcfdaddablojlaaGreatDoor.Q
open Go.RowKit

theorem below_drewN {B : Nat} {a w : World} (h : Below B a w) (n : Nat) : Below B a (w.drewN n) := ⟨h.os, h.tape, h.output, h.size, h.block⟩
theorem ret_i64 {a b : Int} (h : a = b) : Ending.returned (.int .i64 a) = .returned (.int .i64 b) := by rw [h]
structure Con where
  exp : Int
  dim : Int
  sign : Int
  odd : Bool
  oddity : Int
deriving DecidableEq

/-- Each number fits an int. -/
def I64 (n : Int) : Prop := -9223372036854775808 ≤ n ∧ n ≤ 9223372036854775807
def Con.fits (c : Con) : Prop := I64 c.exp ∧ I64 c.dim ∧ I64 c.sign ∧ I64 c.oddity
def Con.agg (c : Con) : Value := .agg #[.int .i64 c.exp, .int .i64 c.dim, .int .i64 c.sign, .bool c.odd, .int .i64 c.oddity]

/-- Five cells from o of block b hold c. -/
structure ConAt (w : World) (b o : Nat) (c : Con) : Prop where
  c0 : w.cell? ⟨b, o, none⟩ = some (.int .i64 c.exp)
  c1 : w.cell? ⟨b, o + 1, none⟩ = some (.int .i64 c.dim)
  c2 : w.cell? ⟨b, o + 2, none⟩ = some (.int .i64 c.sign)
  c3 : w.cell? ⟨b, o + 3, none⟩ = some (.bool c.odd)
  c4 : w.cell? ⟨b, o + 4, none⟩ = some (.int .i64 c.oddity)

theorem ConAt.below {w w' : World} {b o n : Nat} {c : Con} (h : ConAt w b o c) (hb : Below n w w') (hl : b < n) : ConAt w' b o c :=
  ⟨(hb.cell (p := ⟨b, _, none⟩) hl).trans h.c0, (hb.cell (p := ⟨b, _, none⟩) hl).trans h.c1, (hb.cell (p := ⟨b, _, none⟩) hl).trans h.c2, (hb.cell (p := ⟨b, _, none⟩) hl).trans h.c3, (hb.cell (p := ⟨b, _, none⟩) hl).trans h.c4⟩

/-- The slice value v holds the list l. -/
def Lst (w : World) (v : Value) (l : List Con) : Prop :=
  (l = [] ∧ ∃ a c, v = .slice a 0 c) ∨
  (l ≠ [] ∧ ∃ b o cap, v = .slice (some ⟨b, o, none⟩) l.length cap ∧ b < w.heap.size ∧ l.length ≤ cap ∧ (∀ i c, l[i]? = some c → ConAt w b (o + i * 5) c))

/-- A list as the rows allow it. -/
def Ok (l : List Con) : Prop := l.length ≤ 1000 ∧ ∀ c ∈ l, c.fits

theorem Lst.below {w w' : World} {v : Value} {l : List Con} {n : Nat} (h : Lst w v l) (hb : Below n w w') (hn : w.heap.size ≤ n) : Lst w' v l := by
  rcases h with ⟨h1, h2⟩ | ⟨h1, b, o, cap, h2, h3, hcp, h4⟩
  · exact .inl ⟨h1, h2⟩
  · refine .inr ⟨h1, b, o, cap, h2, ?_, hcp, fun i c hi => (h4 i c hi).below hb (by omega)⟩
    have := hb.size; omega

theorem con_eql (c : Con) (w : World) : (binOp .neq 49 c.agg c.agg).run Tryz.prog w = .ok (.bool false) w := by
  have u3 := Tryz.underlying3
  have a3 := Tryz.isAgg3
  have z3 := Tryz.sizeOf3
  have u4 := Tryz.underlying4
  have a4 := Tryz.isAgg4
  have z4 := Tryz.sizeOf4
  have hS : Tryz.prog.underlying 49 = some (.struct (Tryz.prog.fieldsOf 49)) := by kernel_rfl
  have hp : Tryz.prog.stoodInHeld 49 = false := by kernel_rfl
  simp only [Con.agg]
  rw [run_neq_struct, show (10000 : Nat) = 9999 + 1 from rfl, run_equalIn_agg w 9999 49 _ _ hS hp]
  simp only [Program.fieldsOf, Tryz.underlying49]
  go_simp

set_option maxHeartbeats 4000000 in
theorem sameList_cons (l : List Con) (n b o cap b' o' cap' : Nat) (w : World) (hn : Hid (l.length = n)) (hn0 : 0 < n) (hn1 : n ≤ 1000) (hb : b < w.heap.size) (hb' : b' < w.heap.size)
    (hc : Hid (∀ i c, l[i]? = some c → ConAt w b (o + i * 5) c)) (hc' : Hid (∀ i c, l[i]? = some c → ConAt w b' (o' + i * 5) c)) :
    Calls Tryz.prog 52 #[.slice (some ⟨b, o, none⟩) n cap, .slice (some ⟨b', o', none⟩) n cap'] w fun e w' => e = .returned (.bool true) ∧ Below w.heap.size w w' := by
  go_enter Tryz.func52, Tryz.ntmps52
  go_wp2
  go_loopw [13] (fun i wr => ∃ (k : Nat), k ≤ n ∧ i = .int .i64 k ∧ Below w.heap.size w wr) (fun i _ => (n - (intOf i).toNat))
  case atStart => exact ⟨0, by omega, rfl, Below.refl _ _⟩
  case round =>
    obtain ⟨k, hk, rfl, hbe⟩ := hrel
    by_cases hlt : k < n
    · obtain ⟨c, hkc⟩ : ∃ c, l[k]? = some c := ⟨l[k]'(by rw [hn.out]; exact hlt), List.getElem?_eq_getElem _⟩
      obtain ⟨g0, g1, g2, g3, g4⟩ := (hc.out k c hkc).below hbe hb
      obtain ⟨f0, f1, f2, f3, f4⟩ := (hc'.out k c hkc).below hbe hb'
      have hix : (0 : Int) ≤ (k : Int) := by omega
      have hix' : (k : Int) < (n : Int) := by omega
      clear hkc
      have hneq := con_eql c
      unfold Con.agg at hneq
      go_wp2
      go_hide hQ
      go_quiet (fail)
      subst hQ
      go_wp2
      go_roundw
      case rel => exact ⟨k + 1, by omega, by go_num, below_drewN hbe _⟩
      case measure => simp [intOf]; omega
    · go_wp2
      go_ret
      exact ⟨rfl, hbe⟩
theorem sameList_nil (a a' : Option Addr) (cap cap' : Nat) (w : World) :
    Calls Tryz.prog 52 #[.slice a 0 cap, .slice a' 0 cap'] w fun e w' => e = .returned (.bool true) ∧ Below w.heap.size w w' := by
  go_enter Tryz.func52, Tryz.ntmps52
  go_wp2
  go_loopw [13] (fun i wr => i = .int .i64 0 ∧ wr = w) (fun _ _ => 0)
  case atStart => exact ⟨rfl, rfl⟩
  case round =>
    obtain ⟨rfl, rfl⟩ := hrel
    go_wp2
    go_ret
    exact ⟨rfl, Below.refl _ _⟩

theorem sameList_calls (l : List Con) (v v' : Value) (w : World) (h : Lst w v l) (h' : Lst w v' l) (hn : l.length ≤ 1000) :
    Calls Tryz.prog 52 #[v, v'] w fun e w' => e = .returned (.bool true) ∧ Below w.heap.size w w' := by
  rcases h with ⟨rfl, a, c, rfl⟩ | ⟨hne, b, o, cap, rfl, hb, hcp, hc⟩
  · rcases h' with ⟨_, a', c', rfl⟩ | ⟨hne, _⟩
    · exact sameList_nil a a' c c' w
    · exact absurd rfl hne
  · rcases h' with ⟨rfl, _⟩ | ⟨_, b', o', cap', rfl, hb', hcp', hc'⟩
    · exact absurd rfl hne
    · have hpos : 0 < l.length := by cases l; exact absurd rfl hne; simp
      exact sameList_cons l l.length b o cap b' o' cap' w rfl hpos hn hb hb' hc hc'

set_option maxRecDepth 100000 in
set_option maxHeartbeats 1000000 in
theorem same_calls (p : Int) (l : List Con) (a a' : Option Addr) (n n' c c' : Nat) (w : World) (h : Hid (Lst w (.slice a n c) l)) (h' : Hid (Lst w (.slice a' n' c') l)) (hn : Hid (l.length ≤ 1000)) :
    Calls Tryz.prog 21 #[.agg #[.int .i64 p, .slice a n c], .agg #[.int .i64 p, .slice a' n' c']] w fun e w' => e = .returned (.bool true) ∧ Below w.heap.size w w' := by
  have hcall := Lib.hid (fun (W : World) (hW : Below w.heap.size w W) => sameList_calls l (.slice a n c) (.slice a' n' c') W (h.out.below hW (Nat.le_refl _)) (h'.out.below hW (Nat.le_refl _)) hn.out)
  clear h h'
  go_enter Tryz.func21, Tryz.ntmps21
  go_wp2_with (go_at_call 52; refine (hcall.out _ ?_).mono ?_; (exact ((Below.refl _ _).alloc (Nat.le_refl _) _).alloc (by simp) _); rintro e w1 ⟨rfl, hb1⟩)
  go_ret
  exact ⟨rfl, (((Below.refl _ _).alloc (Nat.le_refl _) _).alloc (by simp) _).trans (hb1.mono (by simp; omega))⟩
def oddPr (k : Int) : Int := ([3, 5, 7, 11, 13, 17, 19, 23] : List Int).getD (k % 8).toNat 3

theorem oddPrime_calls (k : Int) (w : World) (h0 : 0 ≤ k) (h1 : k ≤ 255) : Calls Tryz.prog 86 #[.int .u8 k] w fun e w' => e = .returned (.int .i64 (oddPr k)) ∧ Below w.heap.size w w' := by
  have hk : k % 8 = 0 ∨ k % 8 = 1 ∨ k % 8 = 2 ∨ k % 8 = 3 ∨ k % 8 = 4 ∨ k % 8 = 5 ∨ k % 8 = 6 ∨ k % 8 = 7 := by omega
  rcases hk with h | h | h | h | h | h | h | h
  all_goals
    have HO := Lib.hid (show oddPr k = _ by unfold oddPr; rw [h])
    generalize oddPr k = r at HO ⊢
    go_enter Tryz.func86, Tryz.ntmps86
    go_wp2
    go_ret
    exact ⟨ret_i64 HO.out.symm, (Below.refl _ _).alloc (Nat.le_refl _) _⟩
end Go.Proofs.YtcfdaddablojlaaGreatDoor.Q

/- Same of equal lists and OddPrime as pure calls. -/
set_option linter.unusedSimpArgs false
set_option linter.unusedVariables false
namespace Go.Proofs.YtcfdaddablojlaaGreatDoor.S
open Go.QfSy Go.RowKit

def toQ (c : Con) : Q.Con := ⟨c.exp, c.dim, c.sign, c.odd, c.oddity⟩

theorem cell_of {F : Fz} {w : World} (hF : Vld F w) {B o : Nat} {v : Value} (h : FzAt F B o v) : w.cell? ⟨B, o, none⟩ = some v ∧ B < w.heap.size := by
  obtain ⟨cs, el, fr, h1, h2⟩ := h
  have h3 := hF _ _ h1
  refine ⟨?_, (Array.getElem?_eq_some_iff.1 h3).1⟩
  simp [World.cell?, h3, h2]

theorem rs5 {F : Fz} {c : Con} {Vs : List Value} (h : RsRel F c.rvs Vs) : Vs = [.int .i64 c.exp, .int .i64 c.dim, .int .i64 c.sign, .bool c.odd, .int .i64 c.oddity] := by
  unfold Con.rvs at h
  cases h with | cons h0 h => cases h with | cons h1 h => cases h with | cons h2 h => cases h with | cons h3 h => cases h with | cons h4 h =>
  cases h; cases h0; cases h1; cases h2; cases h3; cases h4
  rfl

theorem lst_of {F : Fz} {w : World} (hF : Vld F w) {L : List Con} {V : Value} (h : RRel F (roC L) V) : Q.Lst w V (L.map toQ) ∧ ∃ a n c, V = .slice a n c := by
  unfold roC at h
  cases h with
  | sl0 sz row a c hn =>
    have : L = [] := List.eq_nil_of_length_eq_zero hn
    subst this
    exact ⟨.inl ⟨rfl, a, c, rfl⟩, _, _, _, rfl⟩
  | @sl _ _ B o c _ cs hc hl hf h =>
    refine ⟨?_, _, _, _, rfl⟩
    cases L with
    | nil => exact .inl ⟨rfl, _, _, rfl⟩
    | cons c0 l =>
      have key : ∀ i, i < (c0 :: l).length → ∀ j v, ([.int .i64 ((c0 :: l).getD i Con.zero).exp, .int .i64 ((c0 :: l).getD i Con.zero).dim, .int .i64 ((c0 :: l).getD i Con.zero).sign, .bool ((c0 :: l).getD i Con.zero).odd, .int .i64 ((c0 :: l).getD i Con.zero).oddity] : List Value)[j]? = some v → w.cell? ⟨B, o + i * 5 + j, none⟩ = some v ∧ B < w.heap.size := by
        intro i hi j v hv
        have := rs5 (h i hi)
        exact cell_of hF (hf i j v hi (by rw [this]; exact hv))
      refine .inr ⟨by simp, B, o, c, by simp, (key 0 (by simp) 0 _ rfl).2, by simpa using hc, ?_⟩
      intro i q hq
      rw [List.getElem?_map] at hq
      cases hi : (c0 :: l)[i]? with
      | none => rw [hi] at hq; cases hq
      | some x =>
        rw [hi] at hq
        cases hq
        have hlt := (List.getElem?_eq_some_iff.1 hi).1
        have hx : (c0 :: l).getD i Con.zero = x := by rw [List.getD_eq_getElem?_getD, hi]; rfl
        have k := key i hlt
        rw [hx] at k
        exact ⟨(k 0 _ rfl).1, (k 1 _ rfl).1, (k 2 _ rfl).1, (k 3 _ rfl).1, (k 4 _ rfl).1⟩

/-- A result without slices makes a pure call. -/
theorem flat_pure {tabs : List Tb} {f : Nat} {A : List RV} {R : RV} {V : Value} (hR : ∀ F, RRel F R V) (hfn : ∃ fn, Tryz.prog.funcs[f]? = some fn ∧ fn.body.isSome = true)
    (h : ∀ (w : World) (F : Fz) (Args : List Value), TabW tabs w → Vld F w → RsRel F A Args → Calls Tryz.prog f Args.toArray w fun e w' => e = .returned V ∧ Below w.heap.size w w') : PureC Tryz.prog tabs f A R := by
  refine ⟨hfn, ?_⟩
  intro w F Args ht hF hr
  refine (h w F Args ht hF hr).mono ?_
  rintro e w' ⟨rfl, hb⟩
  exact ⟨V, F, rfl, fun _ _ h => h, hF.below hb, fun _ _ h => .inl h, hR F, hb⟩

theorem same_pure (p : Int) (L : List Con) (hn : L.length ≤ 1000) : PureC Tryz.prog [] 21 [.agg [.int .i64 p, roC L], .agg [.int .i64 p, roC L]] (.bool true) := by
  refine flat_pure (fun _ => .bool _) ⟨_, Tryz.func21, rfl⟩ ?_
  intro w F Args ht hF hr
  cases hr with | cons h0 hr => cases hr with | cons k0 hr => cases hr; cases h0 with | agg h0 => cases h0 with | cons h1 h0 => cases h1; cases h0 with | cons h2 h0 => cases h0; cases k0 with | agg k0 => cases k0 with | cons k1 k0 => cases k1; cases k0 with | cons k2 k0 =>
  cases k0
  obtain ⟨l1, a, n, c, rfl⟩ := lst_of hF h2
  obtain ⟨l2, a', n', c', rfl⟩ := lst_of hF k2
  exact Q.same_calls p _ a a' n n' c c' w (Lib.hid l1) (Lib.hid l2) (Lib.hid (by simpa using hn))

theorem oddPrime_pure (k : Int) (h0 : 0 ≤ k) (h1 : k ≤ 255) : PureC Tryz.prog [] 86 [.int .u8 k] (.int .i64 (Q.oddPr k)) := by
  refine flat_pure (fun _ => .int _ _) ⟨_, Tryz.func86, rfl⟩ ?_
  intro w F Args ht hF hr
  cases hr with | cons k0 hr =>
  cases hr; cases k0
  exact Q.oddPrime_calls k w h0 h1

end Go.Proofs.YtcfdaddablojlaaGreatDoor.S

