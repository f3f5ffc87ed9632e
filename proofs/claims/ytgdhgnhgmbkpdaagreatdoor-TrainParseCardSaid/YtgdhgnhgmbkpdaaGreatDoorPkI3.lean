/- A part of the proof of TiedTrainParse: VC, VG, VP, VH0, FT, PT, PU, PS, PV, PM, DM, TX, FR, FV, PN. -/
import Derived.Test.YtgdhgnhgmbkpdaaGreatDoorPkI2
import Derived.Test.YtgdhgnhgmbkpdaaGreatDoorPkIM3
import Derived.Test.YtgdhgnhgmbkpdaaGreatDoorPkI1
set_option linter.unusedSimpArgs false
set_option linter.unusedVariables false
set_option maxRecDepth 100000
namespace Go.Proofs.YtgdhgnhgmbkpdaaGreatDoor.S
open Go.QfSy Go.RowKit
theorem sh_drop {L : List Con} {k : Nat} (hk : k < L.length) (l s : Int) : shL (L.drop k) l s = (shO (at_ L k) l s && shL (L.drop (k + 1)) (at_ L k).exp (s + (at_ L k).dim)) := by
  rw [drop_at hk]; rfl
noncomputable def shAnn (L : List Con) : Ann := ⟨⟨[(3, .int .i64 0), (4, .int .i64 (-1)), (17, (roC L).av), (18, .vint .i64 L.length), (19, .int .i64 0)], [], 1001⟩, some (shL L (-1) 0), fun d => match d with
  | true => (.exit 0, ⟨[], [], 1001⟩)
  | false => (.ret, ⟨[(2, .bool false)], [], 1001⟩)⟩
theorem sh_loop (L : List Con) (hn : L.length ≤ 1000) : AnnOk Tryz.prog EV.ng (Nat.max 1 Tryz.f72.ntmps) (bodyAt Tryz.f72 [0, 1, 0, 1, 1, 1]) (shAnn L) := by
  refine ann_of evOk (callF_ok evOk (noOrc_ok _ _) 8) none_ann (by kernel_rfl) (by kernel_rfl) (fun i : Nat × Int × Int => (fun (k : Nat) (s e : Int) => (⟨[(3, .vint .i64 s), (4, .vint .i64 e), (17, (roC L).av), (18, .vint .i64 L.length), (19, .vint .i64 (k : Int))], [], 1001⟩ : St)) i.1 i.2.1 i.2.2) (fun i : Nat × Int × Int => (fun (k : Nat) (s e : Int) => (L.length - k : Nat)) i.1 i.2.1 i.2.2) (fun (d : Bool) (i : Nat × Int × Int) => (fun (k : Nat) (s e : Int) => (k ≤ L.length ∧ (0 ≤ s ∧ s ≤ 8) ∧ shL (L.drop k) e s = d : Prop)) i.1 i.2.1 i.2.2) ?_ ?_
  · intro d hd
    exact ⟨(0, 0, -1), [(0 : Int) = 0, (-1 : Int) = -1, L.length = L.length ∧ (rws L) = (rws L), (↑L.length : Int) = ↑L.length, (0 : Int) = (↑(0 : Nat) : Int)], by kernel_rfl, (by refine ⟨?_, ?_, ?_, ?_, (?_ : (0 : Int) = (↑(0 : Nat) : Int))⟩ <;> (first | rfl | assumption | omega | simp_all)), (by exact ⟨Nat.zero_le _, by decide, hd⟩)⟩
  · rintro d hd ⟨k, s, e⟩ hI
    cases d
    · -- d = false
      obtain ⟨hk, hs, hd'⟩ := hI
      have hs : 0 ≤ s ∧ s ≤ 8 := hs
      have hd' : shL (L.drop k) e s = _ := hd'
      have hk : k ≤ L.length := hk
      have ek : IntKind.i64.wrap ((k : Int) + 1) = ((k + 1 : Nat) : Int) := by rw [w64 (by omega) (by omega)]; omega
      have e8 : IntKind.i64.wrap (8 - s) = 8 - s := w64 (by omega) (by omega)
      refine oe (decide ((↑k : Int) < ↑L.length)) (fun d1 => oe (decide ((L.getD k Con.zero).exp ≤ e)) (fun d2 => ⟨[true, true], .inr ⟨[Dec (decide ((L.getD k Con.zero).exp ≤ e)) true, (0 : Int) ≤ ↑k ∧ (↑k : Int) < ↑L.length, Dec (decide ((↑k : Int) < ↑L.length)) true], by kernel_rfl, ⟨d2, ?_, d1⟩, rfl⟩⟩) (fun d2 => oe (decide ((L.getD k Con.zero).exp > 60)) (fun d3 => ⟨[true, false, true], .inr ⟨[Dec (decide ((L.getD k Con.zero).exp > 60)) true, Dec (decide ((L.getD k Con.zero).exp ≤ e)) false, (0 : Int) ≤ ↑k ∧ (↑k : Int) < ↑L.length, Dec (decide ((↑k : Int) < ↑L.length)) true], by kernel_rfl, ⟨d3, d2, ?_, d1⟩, rfl⟩⟩) (fun d3 => oe (decide ((L.getD k Con.zero).dim < 1)) (fun d4 => ⟨[true, false, false, true], .inr ⟨[Dec (decide ((L.getD k Con.zero).dim < 1)) true, Dec (decide ((L.getD k Con.zero).exp > 60)) false, Dec (decide ((L.getD k Con.zero).exp ≤ e)) false, (0 : Int) ≤ ↑k ∧ (↑k : Int) < ↑L.length, Dec (decide ((↑k : Int) < ↑L.length)) true], by kernel_rfl, ⟨d4, d3, d2, ?_, d1⟩, rfl⟩⟩) (fun d4 => oe (decide ((L.getD k Con.zero).dim > IntKind.i64.wrap ((8 : Int) - s))) (fun d5 => ⟨[true, false, false, false, true], .inr ⟨[Dec (decide ((L.getD k Con.zero).dim > IntKind.i64.wrap ((8 : Int) - s))) true, Dec (decide ((L.getD k Con.zero).dim < 1)) false, Dec (decide ((L.getD k Con.zero).exp > 60)) false, Dec (decide ((L.getD k Con.zero).exp ≤ e)) false, (0 : Int) ≤ ↑k ∧ (↑k : Int) < ↑L.length, Dec (decide ((↑k : Int) < ↑L.length)) true], by kernel_rfl, ⟨d5, d4, d3, d2, ?_, d1⟩, rfl⟩⟩) (fun d5 => ⟨[true, false, false, false, false], .inl ⟨(k + 1, s + (at_ L k).dim, (at_ L k).exp), [IntKind.i64.wrap (s + (L.getD k Con.zero).dim) = s + (at_ L k).dim, (L.getD k Con.zero).exp = (at_ L k).exp, L.length = L.length ∧ (rws L) = (rws L), (↑L.length : Int) = ↑L.length, IntKind.i64.wrap ((↑k : Int) + 1) = (↑(k + (1 : Nat)) : Int), Dec (decide ((L.getD k Con.zero).dim > IntKind.i64.wrap ((8 : Int) - s))) false, Dec (decide ((L.getD k Con.zero).dim < 1)) false, Dec (decide ((L.getD k Con.zero).exp > 60)) false, Dec (decide ((L.getD k Con.zero).exp ≤ e)) false, (0 : Int) ≤ ↑k ∧ (↑k : Int) < ↑L.length, Dec (decide ((↑k : Int) < ↑L.length)) true], by kernel_rfl, ⟨?_, ?_, ?_, ?_, ?_, d5, d4, d3, d2, ?_, d1⟩, MuG.out ?_, InG.out ?_⟩⟩))))) (fun d1 => CtG.no ?_)
      all_goals first | (refine MuG.mk ?_; (simp only [decide_eq_true_eq] at *; show L.length - (k + 1) < L.length - k; omega)) | (refine InG.mk ?_; (simp only [e8, Int.toNat_natCast, decide_eq_true_eq, decide_eq_false_iff_not, gt_iff_lt] at *; rw [sh_drop (by omega), show shO (at_ L k) e s = true from decide_eq_true ⟨by simp only [at_]; omega, by simp only [at_]; omega, by simp only [at_]; omega, by simp only [at_]; omega⟩] at hd'; exact ⟨by omega, by simp only [at_]; omega, hd'⟩)) | (refine CtG.mk ?_; (simp only [e8, Int.toNat_natCast, decide_eq_true_eq, decide_eq_false_iff_not, gt_iff_lt] at *; first | (rw [List.drop_eq_nil_of_le (by omega)] at hd'; cases hd'; done) | (rw [sh_drop (by omega), show shO (at_ L k) e s = false from decide_eq_false (by simp only [at_]; omega)] at hd'; cases hd'; done))) | (first | (with_reducible rfl) | exact ⟨rfl, rfl⟩ | ((try simp only [ek, e8, at_, Int.toNat_natCast, decide_eq_true_eq, decide_eq_false_iff_not, gt_iff_lt] at *) <;> first | omega | (exact w64 (by omega) (by omega))))
    · -- d = true
      obtain ⟨hk, hs, hd'⟩ := hI
      have hs : 0 ≤ s ∧ s ≤ 8 := hs
      have hd' : shL (L.drop k) e s = _ := hd'
      have hk : k ≤ L.length := hk
      have ek : IntKind.i64.wrap ((k : Int) + 1) = ((k + 1 : Nat) : Int) := by rw [w64 (by omega) (by omega)]; omega
      have e8 : IntKind.i64.wrap (8 - s) = 8 - s := w64 (by omega) (by omega)
      refine oe (decide ((↑k : Int) < (↑L.length : Int))) (fun d1 => oe (decide ((L.getD k Con.zero).exp ≤ e)) (fun d2 => CtG.no ?_) (fun d2 => oe (decide ((L.getD k Con.zero).exp > (60 : Int))) (fun d3 => CtG.no ?_) (fun d3 => oe (decide ((L.getD k Con.zero).dim < (1 : Int))) (fun d4 => CtG.no ?_) (fun d4 => oe (decide ((L.getD k Con.zero).dim > IntKind.i64.wrap ((8 : Int) - s))) (fun d5 => CtG.no ?_) (fun d5 => ⟨[true, false, false, false, false], .inl ⟨(k + 1, s + (at_ L k).dim, (at_ L k).exp), [IntKind.i64.wrap (s + (L.getD k Con.zero).dim) = s + (at_ L k).dim, (L.getD k Con.zero).exp = (at_ L k).exp, L.length = L.length ∧ (rws L) = (rws L), (↑L.length : Int) = ↑L.length, IntKind.i64.wrap ((↑k : Int) + 1) = (↑(k + (1 : Nat)) : Int), Dec (decide ((L.getD k Con.zero).dim > IntKind.i64.wrap ((8 : Int) - s))) false, Dec (decide ((L.getD k Con.zero).dim < 1)) false, Dec (decide ((L.getD k Con.zero).exp > 60)) false, Dec (decide ((L.getD k Con.zero).exp ≤ e)) false, (0 : Int) ≤ ↑k ∧ (↑k : Int) < ↑L.length, Dec (decide ((↑k : Int) < ↑L.length)) true], by kernel_rfl, ⟨?_, ?_, ?_, ?_, ?_, d5, d4, d3, d2, ?_, d1⟩, MuG.out ?_, InG.out ?_⟩⟩))))) (fun d1 => ⟨[false], .inr ⟨[Dec (decide ((↑k : Int) < (↑L.length : Int))) false], by kernel_rfl, d1, rfl⟩⟩)
      all_goals first | (refine MuG.mk ?_; (simp only [decide_eq_true_eq] at *; show L.length - (k + 1) < L.length - k; omega)) | (refine InG.mk ?_; (simp only [e8, Int.toNat_natCast, decide_eq_true_eq, decide_eq_false_iff_not, gt_iff_lt] at *; rw [sh_drop (by omega), show shO (at_ L k) e s = true from decide_eq_true ⟨by simp only [at_]; omega, by simp only [at_]; omega, by simp only [at_]; omega, by simp only [at_]; omega⟩] at hd'; exact ⟨by omega, by simp only [at_]; omega, hd'⟩)) | (refine CtG.mk ?_; (simp only [e8, Int.toNat_natCast, decide_eq_true_eq, decide_eq_false_iff_not, gt_iff_lt] at *; first | (rw [List.drop_eq_nil_of_le (by omega)] at hd'; cases hd'; done) | (rw [sh_drop (by omega), show shO (at_ L k) e s = false from decide_eq_false (by simp only [at_]; omega)] at hd'; cases hd'; done))) | (first | (with_reducible rfl) | exact ⟨rfl, rfl⟩ | ((try simp only [ek, e8, at_, Int.toNat_natCast, decide_eq_true_eq, decide_eq_false_iff_not, gt_iff_lt] at *) <;> first | omega | (exact w64 (by omega) (by omega))))
theorem sh_pure (p : Int) (L : List Con) (hn : L.length ≤ 1000) : PureC Tryz.prog [] 72 [.agg [.int .i64 p, roC L]] (.bool (shapeM p L)) := by
  have rr := fun (tp : List Bool) (ms : List Prop) h hm => pure_run evOk (callF_ok evOk (noOrc_ok _ _) 8) Tryz.func72 (A := [.agg [.int .i64 p, roC L]]) (N := Nat.max 1 Tryz.f72.ntmps) rfl (one_ann (sh_loop L hn)) rfl rfl evNg (tabs := []) (R := .bool (shapeM p L)) (tp := tp) (ms := ms) h hm
  refine oe (p == (2 : Int)) (fun d1 => oe ((↑L.length : Int) == (0 : Int)) (fun d2 => rr [false, true] [false = shapeM p L, Dec ((↑L.length : Int) == (0 : Int)) true, Dec (p != (2 : Int)) false] (by kernel_rfl) ⟨?_, d2, (dN d1)⟩) (fun d2 => oe (shL L (-1 : Int) (0 : Int)) (fun d3 => rr [false, false, true] [true = shapeM p L, L.length = L.length ∧ (rws L) = (rws L), (↑L.length : Int) = ↑L.length, Dec (shL L (-1 : Int) (0 : Int)) true, Dec ((↑L.length : Int) == 0) false, Dec (p != (2 : Int)) false] (by kernel_rfl) ⟨?_, ?_, ?_, d3, d2, (dN d1)⟩) (fun d3 => rr [false, false, false] [false = shapeM p L, L.length = L.length ∧ (rws L) = (rws L), (↑L.length : Int) = ↑L.length, Dec (shL L (-1 : Int) (0 : Int)) false, Dec ((↑L.length : Int) == 0) false, Dec (p != (2 : Int)) false] (by kernel_rfl) ⟨?_, ?_, ?_, d3, d2, (dN d1)⟩))) (fun d1 => rr [true] [false = shapeM p L, Dec (p != (2 : Int)) true] (by kernel_rfl) ⟨?_, (dN d1)⟩)
  all_goals first | (refine GnG.mk ?_; (simp_all)) | (first | (with_reducible rfl) | exact ⟨rfl, rfl⟩ | (unfold shapeM; simp_all; done))
theorem legalT_eq (c : Con) : legalT_v c.exp c.dim c.sign c.odd c.oddity = legalB c := legalR_eq c
noncomputable def entsVS : List OEnt := [
  ⟨73, [], fun A => match A with
    | [.agg [.int .i64 e, .int .i64 d, .int .i64 s, .bool o, .int .i64 t]] => some (.bool (legalB ⟨e, d, s, o, t⟩), [])
    | _ => none⟩,
  ⟨72, [], fun A => match A with
    | [.agg [.int .i64 p, .sl n 5 row]] => some (.bool (shapeM p (consR n row)), [(∀ i, i < n → row i = (Con.ofR (row i)).rvs) ∧ n ≤ 1000])
    | _ => none⟩]
theorem entsVS_ok : ∀ e ∈ entsVS, EntOk Tryz.prog e := by
  intro e he
  simp only [entsVS, List.mem_cons, List.not_mem_nil, or_false] at he
  rcases he with rfl | rfl
  all_goals
    intro A R ms h hm
    simp only at h
    split at h
    all_goals first | (cases h; done) | cases h
  · rw [← legalT_eq]; exact legalT _ _ _ _ _
  · obtain ⟨h1, h2⟩ := all_one hm
    exact PureC.imp (sh_pure _ _ (by rw [consR_len]; exact h2)) (.cons (.agg (.cons .same (.cons (.con h1) .nil))) .nil)
noncomputable def vaAnn (L : List Con) : Ann := ⟨⟨[(9, (roC L).av), (10, .vint .i64 L.length), (11, .int .i64 0)], [], 1001⟩, some (L.all legalB), fun d => match d with
  | true => (.exit 0, ⟨[], [], 1001⟩)
  | false => (.ret, ⟨[(2, .bool false)], [], 1001⟩)⟩
theorem va_loop (L : List Con) (hn : L.length ≤ 1000) : AnnOk Tryz.prog EV.ng (Nat.max 1 Tryz.f46.ntmps) (bodyAt Tryz.f46 [0, 1, 0, 1, 1]) (vaAnn L) := by
  refine ann_of evOk (callF_ok evOk (orcOf_ok entsVS_ok) 8) none_ann (by kernel_rfl) (by kernel_rfl) (fun i : Nat => (fun (k : Nat) => (⟨[(9, (roC L).av), (10, .vint .i64 L.length), (11, .vint .i64 (k : Int))], [], 1001⟩ : St)) i) (fun i : Nat => (fun (k : Nat) => (L.length - k : Nat)) i) (fun (d : Bool) (i : Nat) => (fun (k : Nat) => (k ≤ L.length ∧ (L.drop k).all legalB = d : Prop)) i) ?_ ?_
  · intro d hd
    exact ⟨(0), [L.length = L.length ∧ (rws L) = (rws L), (↑L.length : Int) = ↑L.length, (0 : Int) = (↑(0 : Nat) : Int)], by kernel_rfl, (by refine ⟨?_, ?_, (?_ : (0 : Int) = (↑(0 : Nat) : Int))⟩ <;> (first | rfl | assumption | omega | simp_all)), (by exact ⟨Nat.zero_le _, hd⟩)⟩
  · rintro d hd k hI
    cases d
    · -- d = false
      obtain ⟨hk, hs⟩ := hI
      have ek : IntKind.i64.wrap ((k : Int) + 1) = ((k + 1 : Nat) : Int) := by rw [w64 (by omega) (by omega)]; omega
      refine oe (decide ((↑k : Int) < ↑L.length)) (fun d1 => oe (legalB (L.getD k Con.zero)) (fun d2 => ⟨[true, false], .inl ⟨(k + 1), [L.length = L.length ∧ (rws L) = (rws L), (↑L.length : Int) = ↑L.length, IntKind.i64.wrap ((↑k : Int) + 1) = (↑(k + (1 : Nat)) : Int), Dec (!legalB (L.getD k Con.zero)) false, (0 : Int) ≤ ↑k ∧ (↑k : Int) < ↑L.length, Dec (decide ((↑k : Int) < ↑L.length)) true], by kernel_rfl, ⟨?_, ?_, ?_, (dN d2), ?_, d1⟩, MuG.out ?_, InG.out ?_⟩⟩) (fun d2 => ⟨[true, true], .inr ⟨[Dec (!legalB (L.getD k Con.zero)) true, (0 : Int) ≤ (↑k : Int) ∧ (↑k : Int) < (↑L.length : Int), Dec (decide ((↑k : Int) < (↑L.length : Int))) true], by kernel_rfl, ⟨(dN d2), ?_, d1⟩, rfl⟩⟩)) (fun d1 => CtG.no ?_)
      all_goals first | (refine MuG.mk ?_; (simp only [decide_eq_true_eq] at *; show L.length - (k + 1) < L.length - k; omega)) | (refine InG.mk ?_; (simp only [decide_eq_true_eq] at *; rw [all_drop (by omega)] at hs; rw [show legalB (at_ L k) = true from d2] at hs; exact ⟨by omega, hs⟩)) | (refine CtG.mk ?_; (simp only [decide_eq_true_eq, decide_eq_false_iff_not] at *; first | (rw [List.drop_eq_nil_of_le (by omega)] at hs; cases hs; done) | (rw [all_drop (by omega)] at hs; rw [show legalB (at_ L k) = false from d2] at hs; cases hs; done))) | (first | rfl | exact ⟨rfl, rfl⟩ | ((try simp only [ek, Int.toNat_natCast, decide_eq_true_eq, decide_eq_false_iff_not] at *) <;> omega))
    · -- d = true
      obtain ⟨hk, hs⟩ := hI
      have ek : IntKind.i64.wrap ((k : Int) + 1) = ((k + 1 : Nat) : Int) := by rw [w64 (by omega) (by omega)]; omega
      refine oe (decide ((↑k : Int) < ↑L.length)) (fun d1 => oe (legalB (L.getD k Con.zero)) (fun d2 => ⟨[true, false], .inl ⟨(k + 1), [L.length = L.length ∧ (rws L) = (rws L), (↑L.length : Int) = ↑L.length, IntKind.i64.wrap ((↑k : Int) + 1) = (↑(k + (1 : Nat)) : Int), Dec (!legalB (L.getD k Con.zero)) false, (0 : Int) ≤ ↑k ∧ (↑k : Int) < ↑L.length, Dec (decide ((↑k : Int) < ↑L.length)) true], by kernel_rfl, ⟨?_, ?_, ?_, (dN d2), ?_, d1⟩, MuG.out ?_, InG.out ?_⟩⟩) (fun d2 => CtG.no ?_)) (fun d1 => ⟨[false], .inr ⟨[Dec (decide ((↑k : Int) < (↑L.length : Int))) false], by kernel_rfl, d1, rfl⟩⟩)
      all_goals first | (refine MuG.mk ?_; (simp only [decide_eq_true_eq] at *; show L.length - (k + 1) < L.length - k; omega)) | (refine InG.mk ?_; (simp only [decide_eq_true_eq] at *; rw [all_drop (by omega)] at hs; rw [show legalB (at_ L k) = true from d2] at hs; exact ⟨by omega, hs⟩)) | (refine CtG.mk ?_; (simp only [decide_eq_true_eq, decide_eq_false_iff_not] at *; first | (rw [List.drop_eq_nil_of_le (by omega)] at hs; cases hs; done) | (rw [all_drop (by omega)] at hs; rw [show legalB (at_ L k) = false from d2] at hs; cases hs; done))) | (first | rfl | exact ⟨rfl, rfl⟩ | ((try simp only [ek, Int.toNat_natCast, decide_eq_true_eq, decide_eq_false_iff_not] at *) <;> omega))
theorem tvalid_pure (p : Int) (L : List Con) (hn : L.length ≤ 1000) : PureC Tryz.prog [] 46 [.agg [.int .i64 p, roC L]] (.bool (val2M p L)) := by
  have rr := fun (tp : List Bool) (ms : List Prop) h hm => pure_run evOk (callF_ok evOk (orcOf_ok entsVS_ok) 8) Tryz.func46 (A := [.agg [.int .i64 p, roC L]]) (N := Nat.max 1 Tryz.f46.ntmps) rfl (one_ann (va_loop L hn)) rfl rfl evNg (tabs := []) (R := .bool (val2M p L)) (tp := tp) (ms := ms) h hm
  refine oe (shapeM p (consR L.length (rws L))) (fun d1 => oe (L.all legalB) (fun d2 => rr [false, true] [true = val2M p L, L.length = L.length ∧ (rws L) = (rws L), (↑L.length : Int) = ↑L.length, Dec (L.all legalB) true, Dec (!shapeM p (consR L.length (rws L))) false, (∀ (i : Nat), i < L.length → (rws L) i = (Con.ofR ((rws L) i)).rvs) ∧ L.length ≤ (1000 : Nat)] (by kernel_rfl) ⟨?_, ?_, ?_, d2, (dN d1), (?_ : (∀ (i : Nat), i < L.length → (rws L) i = (Con.ofR ((rws L) i)).rvs) ∧ L.length ≤ (1000 : Nat))⟩) (fun d2 => rr [false, false] [false = val2M p L, L.length = L.length ∧ (rws L) = (rws L), (↑L.length : Int) = ↑L.length, Dec (L.all legalB) false, Dec (!shapeM p (consR L.length (rws L))) false, (∀ (i : Nat), i < L.length → (rws L) i = (Con.ofR ((rws L) i)).rvs) ∧ L.length ≤ (1000 : Nat)] (by kernel_rfl) ⟨?_, ?_, ?_, d2, (dN d1), (?_ : (∀ (i : Nat), i < L.length → (rws L) i = (Con.ofR ((rws L) i)).rvs) ∧ L.length ≤ (1000 : Nat))⟩)) (fun d1 => rr [true] [false = val2M p L, Dec (!shapeM p (consR L.length (rws L))) true, (∀ (i : Nat), i < L.length → (rws L) i = (Con.ofR ((rws L) i)).rvs) ∧ L.length ≤ (1000 : Nat)] (by kernel_rfl) ⟨?_, (dN d1), (?_ : (∀ (i : Nat), i < L.length → (rws L) i = (Con.ofR ((rws L) i)).rvs) ∧ L.length ≤ (1000 : Nat))⟩)
  all_goals first | (first | (with_reducible rfl) | exact ⟨rfl, rfl⟩ | exact ⟨fun _ _ => rfl, hn⟩ | ((try simp only [consR_ro] at *) <;> first | trivial | (rw [val2_sh]; simp_all; done)))
def fusB (c : Con) : Bool := sgB c && fusC c
noncomputable def loH (p : Int) (L : List Con) : List (Nat × Blk) := [(1000, ⟨.plain [.vint .i64 p, (roC L).av], 24, 0, false, true⟩)]
noncomputable def f1Ann (p : Int) (L : List Con) : Ann := ⟨⟨[(1, .ptr 1000 0), (14, (roC L).av), (15, .vint .i64 L.length), (16, .int .i64 0)], loH p L, 1010⟩, some (L.all fusB), fun d => match d with
  | true => (.exit 0, ⟨[(1, .ptr 1000 0)], loH p L, 1010⟩)
  | false => (.ret, ⟨[(2, .bool false)], [], 1010⟩)⟩
theorem fusB_iff {c : Con} : fusB c = true ↔ (c.sign = 1 ∨ c.sign = -1) ∧ (0 ≤ c.oddity ∧ c.oddity ≤ 7) ∧ (c.odd = false → c.dim.tmod 2 = 0 ∧ c.oddity = 0) := by
  simp only [fusB, sgB, fusC, Bool.and_eq_true, decide_eq_true_eq, Bool.or_eq_true, tmod2]
  cases c.odd <;> simp
theorem fusB_no {c : Con} (h : ¬ ((c.sign = 1 ∨ c.sign = -1) ∧ (0 ≤ c.oddity ∧ c.oddity ≤ 7) ∧ (c.odd = false → c.dim.tmod 2 = 0 ∧ c.oddity = 0))) : fusB c = false := by
  cases hf : fusB c with
  | false => rfl
  | true => exact absurd (fusB_iff.1 hf) h
theorem f1_loop (p : Int) (L : List Con) (hn : L.length ≤ 1000) : AnnOk Tryz.prog EV.ng (Nat.max 1 Tryz.f47.ntmps) (bodyAt Tryz.f47 [0, 1, 0, 1, 1]) (f1Ann p L) := by
  refine ann_of evOk (callF_ok evOk (noOrc_ok _ _) 8) none_ann (by kernel_rfl) (by kernel_rfl) (fun i : Nat => (fun (k : Nat) => (⟨[(1, .ptr 1000 0), (14, (roC L).av), (15, .vint .i64 L.length), (16, .vint .i64 (k : Int))], loH p L, 1010⟩ : St)) i) (fun i : Nat => (fun (k : Nat) => (L.length - k : Nat)) i) (fun (d : Bool) (i : Nat) => (fun (k : Nat) => (k ≤ L.length ∧ (L.drop k).all fusB = d : Prop)) i) ?_ ?_
  · intro d hd
    exact ⟨(0), [L.length = L.length ∧ (rws L) = (rws L), (↑L.length : Int) = ↑L.length, (0 : Int) = (↑(0 : Nat) : Int), p = p, L.length = L.length ∧ (rws L) = (rws L)], by kernel_rfl, (by refine ⟨?_, ?_, ?_, ?_, (?_ : L.length = L.length ∧ (rws L) = (rws L))⟩ <;> (first | rfl | assumption | omega | simp_all)), (by exact ⟨Nat.zero_le _, hd⟩)⟩
  · rintro d hd k hI
    cases d
    · -- d = false
      obtain ⟨hk, hs⟩ := hI
      have ek : IntKind.i64.wrap ((k : Int) + 1) = ((k + 1 : Nat) : Int) := by rw [w64 (by omega) (by omega)]; omega
      refine oe (decide ((↑k : Int) < ↑L.length)) (fun d1 => oe ((L.getD k Con.zero).sign == 1) (fun d2 => oe (decide ((L.getD k Con.zero).oddity < 0)) (fun d3 => ⟨[true, false, true], .inr ⟨[Dec (decide ((L.getD k Con.zero).oddity < 0)) true, Dec ((L.getD k Con.zero).sign != (1 : Int)) false, (0 : Int) ≤ ↑k ∧ (↑k : Int) < ↑L.length, Dec (decide ((↑k : Int) < ↑L.length)) true], by kernel_rfl, ⟨d3, (dN d2), ?_, d1⟩, rfl⟩⟩) (fun d3 => oe (decide ((L.getD k Con.zero).oddity > 7)) (fun d4 => ⟨[true, false, false, true], .inr ⟨[Dec (decide ((L.getD k Con.zero).oddity > 7)) true, Dec (decide ((L.getD k Con.zero).oddity < 0)) false, Dec ((L.getD k Con.zero).sign != (1 : Int)) false, (0 : Int) ≤ ↑k ∧ (↑k : Int) < ↑L.length, Dec (decide ((↑k : Int) < ↑L.length)) true], by kernel_rfl, ⟨d4, d3, (dN d2), ?_, d1⟩, rfl⟩⟩) (fun d4 => oe ((L.getD k Con.zero).odd) (fun d5 => ⟨[true, false, false, false, false], .inl ⟨(k + 1), [L.length = L.length ∧ (rws L) = (rws L), (↑L.length : Int) = ↑L.length, IntKind.i64.wrap ((↑k : Int) + 1) = (↑(k + (1 : Nat)) : Int), p = p, L.length = L.length ∧ (rws L) = (rws L), Dec (!(L.getD k Con.zero).odd) false, Dec (decide ((L.getD k Con.zero).oddity > 7)) false, Dec (decide ((L.getD k Con.zero).oddity < 0)) false, Dec ((L.getD k Con.zero).sign != (1 : Int)) false, (0 : Int) ≤ ↑k ∧ (↑k : Int) < ↑L.length, Dec (decide ((↑k : Int) < ↑L.length)) true], by kernel_rfl, ⟨?_, ?_, ?_, ?_, ?_, (dN d5), d4, d3, (dN d2), ?_, d1⟩, MuG.out ?_, InG.out ?_⟩⟩) (fun d5 => oe ((L.getD k Con.zero).dim.tmod (2 : Int) == 0) (fun d6 => oe ((L.getD k Con.zero).oddity == 0) (fun d7 => ⟨[true, false, false, false, true, false, false], .inl ⟨(k + 1), [L.length = L.length ∧ (rws L) = (rws L), (↑L.length : Int) = ↑L.length, IntKind.i64.wrap ((↑k : Int) + 1) = (↑(k + (1 : Nat)) : Int), p = p, L.length = L.length ∧ (rws L) = (rws L), Dec ((L.getD k Con.zero).oddity != (0 : Int)) false, Dec ((L.getD k Con.zero).dim.tmod (2 : Int) != (0 : Int)) false, (2 : Int) ≠ (0 : Int), Dec (!(L.getD k Con.zero).odd) true, Dec (decide ((L.getD k Con.zero).oddity > 7)) false, Dec (decide ((L.getD k Con.zero).oddity < 0)) false, Dec ((L.getD k Con.zero).sign != (1 : Int)) false, (0 : Int) ≤ ↑k ∧ (↑k : Int) < ↑L.length, Dec (decide ((↑k : Int) < ↑L.length)) true], by kernel_rfl, ⟨?_, ?_, ?_, ?_, ?_, (dN d7), (dN d6), ?_, (dN d5), d4, d3, (dN d2), ?_, d1⟩, MuG.out ?_, InG.out ?_⟩⟩) (fun d7 => ⟨[true, false, false, false, true, false, true], .inr ⟨[Dec ((L.getD k Con.zero).oddity != (0 : Int)) true, Dec ((L.getD k Con.zero).dim.tmod (2 : Int) != (0 : Int)) false, (2 : Int) ≠ (0 : Int), Dec (!(L.getD k Con.zero).odd) true, Dec (decide ((L.getD k Con.zero).oddity > 7)) false, Dec (decide ((L.getD k Con.zero).oddity < 0)) false, Dec ((L.getD k Con.zero).sign != (1 : Int)) false, (0 : Int) ≤ ↑k ∧ (↑k : Int) < ↑L.length, Dec (decide ((↑k : Int) < ↑L.length)) true], by kernel_rfl, ⟨(dN d7), (dN d6), ?_, (dN d5), d4, d3, (dN d2), ?_, d1⟩, rfl⟩⟩)) (fun d6 => ⟨[true, false, false, false, true, true], .inr ⟨[Dec ((L.getD k Con.zero).dim.tmod (2 : Int) != (0 : Int)) true, (2 : Int) ≠ (0 : Int), Dec (!(L.getD k Con.zero).odd) true, Dec (decide ((L.getD k Con.zero).oddity > 7)) false, Dec (decide ((L.getD k Con.zero).oddity < 0)) false, Dec ((L.getD k Con.zero).sign != (1 : Int)) false, (0 : Int) ≤ ↑k ∧ (↑k : Int) < ↑L.length, Dec (decide ((↑k : Int) < ↑L.length)) true], by kernel_rfl, ⟨(dN d6), ?_, (dN d5), d4, d3, (dN d2), ?_, d1⟩, rfl⟩⟩))))) (fun d2 => oe ((L.getD k Con.zero).sign == -1) (fun d3 => oe (decide ((L.getD k Con.zero).oddity < 0)) (fun d4 => ⟨[true, true, false, true], .inr ⟨[Dec (decide ((L.getD k Con.zero).oddity < 0)) true, Dec ((L.getD k Con.zero).sign != (-1 : Int)) false, Dec ((L.getD k Con.zero).sign != (1 : Int)) true, (0 : Int) ≤ ↑k ∧ (↑k : Int) < ↑L.length, Dec (decide ((↑k : Int) < ↑L.length)) true], by kernel_rfl, ⟨d4, (dN d3), (dN d2), ?_, d1⟩, rfl⟩⟩) (fun d4 => oe (decide ((L.getD k Con.zero).oddity > 7)) (fun d5 => ⟨[true, true, false, false, true], .inr ⟨[Dec (decide ((L.getD k Con.zero).oddity > 7)) true, Dec (decide ((L.getD k Con.zero).oddity < 0)) false, Dec ((L.getD k Con.zero).sign != (-1 : Int)) false, Dec ((L.getD k Con.zero).sign != (1 : Int)) true, (0 : Int) ≤ ↑k ∧ (↑k : Int) < ↑L.length, Dec (decide ((↑k : Int) < ↑L.length)) true], by kernel_rfl, ⟨d5, d4, (dN d3), (dN d2), ?_, d1⟩, rfl⟩⟩) (fun d5 => oe ((L.getD k Con.zero).odd) (fun d6 => ⟨[true, true, false, false, false, false], .inl ⟨(k + 1), [L.length = L.length ∧ (rws L) = (rws L), (↑L.length : Int) = ↑L.length, IntKind.i64.wrap ((↑k : Int) + 1) = (↑(k + (1 : Nat)) : Int), p = p, L.length = L.length ∧ (rws L) = (rws L), Dec (!(L.getD k Con.zero).odd) false, Dec (decide ((L.getD k Con.zero).oddity > 7)) false, Dec (decide ((L.getD k Con.zero).oddity < 0)) false, Dec ((L.getD k Con.zero).sign != (-1 : Int)) false, Dec ((L.getD k Con.zero).sign != (1 : Int)) true, (0 : Int) ≤ ↑k ∧ (↑k : Int) < ↑L.length, Dec (decide ((↑k : Int) < ↑L.length)) true], by kernel_rfl, ⟨?_, ?_, ?_, ?_, ?_, (dN d6), d5, d4, (dN d3), (dN d2), ?_, d1⟩, MuG.out ?_, InG.out ?_⟩⟩) (fun d6 => oe ((L.getD k Con.zero).dim.tmod (2 : Int) == 0) (fun d7 => oe ((L.getD k Con.zero).oddity == 0) (fun d8 => ⟨[true, true, false, false, false, true, false, false], .inl ⟨(k + 1), [L.length = L.length ∧ (rws L) = (rws L), (↑L.length : Int) = ↑L.length, IntKind.i64.wrap ((↑k : Int) + 1) = (↑(k + (1 : Nat)) : Int), p = p, L.length = L.length ∧ (rws L) = (rws L), Dec ((L.getD k Con.zero).oddity != (0 : Int)) false, Dec ((L.getD k Con.zero).dim.tmod (2 : Int) != (0 : Int)) false, (2 : Int) ≠ (0 : Int), Dec (!(L.getD k Con.zero).odd) true, Dec (decide ((L.getD k Con.zero).oddity > 7)) false, Dec (decide ((L.getD k Con.zero).oddity < 0)) false, Dec ((L.getD k Con.zero).sign != (-1 : Int)) false, Dec ((L.getD k Con.zero).sign != (1 : Int)) true, (0 : Int) ≤ ↑k ∧ (↑k : Int) < ↑L.length, Dec (decide ((↑k : Int) < ↑L.length)) true], by kernel_rfl, ⟨?_, ?_, ?_, ?_, ?_, (dN d8), (dN d7), ?_, (dN d6), d5, d4, (dN d3), (dN d2), ?_, d1⟩, MuG.out ?_, InG.out ?_⟩⟩) (fun d8 => ⟨[true, true, false, false, false, true, false, true], .inr ⟨[Dec ((L.getD k Con.zero).oddity != (0 : Int)) true, Dec ((L.getD k Con.zero).dim.tmod (2 : Int) != (0 : Int)) false, (2 : Int) ≠ (0 : Int), Dec (!(L.getD k Con.zero).odd) true, Dec (decide ((L.getD k Con.zero).oddity > 7)) false, Dec (decide ((L.getD k Con.zero).oddity < 0)) false, Dec ((L.getD k Con.zero).sign != (-1 : Int)) false, Dec ((L.getD k Con.zero).sign != (1 : Int)) true, (0 : Int) ≤ ↑k ∧ (↑k : Int) < ↑L.length, Dec (decide ((↑k : Int) < ↑L.length)) true], by kernel_rfl, ⟨(dN d8), (dN d7), ?_, (dN d6), d5, d4, (dN d3), (dN d2), ?_, d1⟩, rfl⟩⟩)) (fun d7 => ⟨[true, true, false, false, false, true, true], .inr ⟨[Dec ((L.getD k Con.zero).dim.tmod (2 : Int) != (0 : Int)) true, (2 : Int) ≠ (0 : Int), Dec (!(L.getD k Con.zero).odd) true, Dec (decide ((L.getD k Con.zero).oddity > 7)) false, Dec (decide ((L.getD k Con.zero).oddity < 0)) false, Dec ((L.getD k Con.zero).sign != (-1 : Int)) false, Dec ((L.getD k Con.zero).sign != (1 : Int)) true, (0 : Int) ≤ ↑k ∧ (↑k : Int) < ↑L.length, Dec (decide ((↑k : Int) < ↑L.length)) true], by kernel_rfl, ⟨(dN d7), ?_, (dN d6), d5, d4, (dN d3), (dN d2), ?_, d1⟩, rfl⟩⟩))))) (fun d3 => ⟨[true, true, true], .inr ⟨[Dec ((L.getD k Con.zero).sign != (-1 : Int)) true, Dec ((L.getD k Con.zero).sign != (1 : Int)) true, (0 : Int) ≤ ↑k ∧ (↑k : Int) < ↑L.length, Dec (decide ((↑k : Int) < ↑L.length)) true], by kernel_rfl, ⟨(dN d3), (dN d2), ?_, d1⟩, rfl⟩⟩))) (fun d1 => CtG.no ?_)
      all_goals first | (refine MuG.mk ?_; (simp only [decide_eq_true_eq] at *; show L.length - (k + 1) < L.length - k; omega)) | (refine InG.mk ?_; (simp only [decide_eq_true_eq, decide_eq_false_iff_not, Int.toNat_natCast, beq_iff_eq, beq_eq_false_iff_ne, ne_eq, gt_iff_lt] at *; rw [all_drop (by omega)] at hs; rw [show fusB (at_ L k) = true from fusB_iff.2 (by simp only [at_]; refine ⟨?_, ?_, ?_⟩ <;> first | omega | (intro ho; simp_all; done) | (simp_all; done))] at hs; exact ⟨by omega, hs⟩)) | (refine CtG.mk ?_; (simp only [decide_eq_true_eq, decide_eq_false_iff_not, Int.toNat_natCast, beq_iff_eq, beq_eq_false_iff_ne, ne_eq, gt_iff_lt] at *; first | (rw [List.drop_eq_nil_of_le (by omega)] at hs; cases hs; done) | (rw [all_drop (by omega)] at hs; rw [show fusB (at_ L k) = false from fusB_no (by simp only [at_]; first | (intro hq; omega) | (rintro ⟨q1, q2, q3⟩; have q4 := q3 (by assumption); first | omega | (simp_all; done)))] at hs; cases hs; done))) | (first | (with_reducible rfl) | exact ⟨rfl, rfl⟩ | decide | ((try simp only [ek, Int.toNat_natCast, decide_eq_true_eq, decide_eq_false_iff_not] at *) <;> omega))
    · -- d = true
      obtain ⟨hk, hs⟩ := hI
      have ek : IntKind.i64.wrap ((k : Int) + 1) = ((k + 1 : Nat) : Int) := by rw [w64 (by omega) (by omega)]; omega
      refine oe (decide ((↑k : Int) < (↑L.length : Int))) (fun d1 => oe ((L.getD k Con.zero).sign == (1 : Int)) (fun d2 => oe (decide ((L.getD k Con.zero).oddity < (0 : Int))) (fun d3 => CtG.no ?_) (fun d3 => oe (decide ((L.getD k Con.zero).oddity > (7 : Int))) (fun d4 => CtG.no ?_) (fun d4 => oe ((L.getD k Con.zero).odd) (fun d5 => ⟨[true, false, false, false, false], .inl ⟨(k + 1), [L.length = L.length ∧ (rws L) = (rws L), (↑L.length : Int) = ↑L.length, IntKind.i64.wrap ((↑k : Int) + 1) = (↑(k + (1 : Nat)) : Int), p = p, L.length = L.length ∧ (rws L) = (rws L), Dec (!(L.getD k Con.zero).odd) false, Dec (decide ((L.getD k Con.zero).oddity > 7)) false, Dec (decide ((L.getD k Con.zero).oddity < 0)) false, Dec ((L.getD k Con.zero).sign != (1 : Int)) false, (0 : Int) ≤ ↑k ∧ (↑k : Int) < ↑L.length, Dec (decide ((↑k : Int) < ↑L.length)) true], by kernel_rfl, ⟨?_, ?_, ?_, ?_, ?_, (dN d5), d4, d3, (dN d2), ?_, d1⟩, MuG.out ?_, InG.out ?_⟩⟩) (fun d5 => oe ((L.getD k Con.zero).dim.tmod (2 : Int) == 0) (fun d6 => oe ((L.getD k Con.zero).oddity == 0) (fun d7 => ⟨[true, false, false, false, true, false, false], .inl ⟨(k + 1), [L.length = L.length ∧ (rws L) = (rws L), (↑L.length : Int) = ↑L.length, IntKind.i64.wrap ((↑k : Int) + 1) = (↑(k + (1 : Nat)) : Int), p = p, L.length = L.length ∧ (rws L) = (rws L), Dec ((L.getD k Con.zero).oddity != (0 : Int)) false, Dec ((L.getD k Con.zero).dim.tmod (2 : Int) != (0 : Int)) false, (2 : Int) ≠ (0 : Int), Dec (!(L.getD k Con.zero).odd) true, Dec (decide ((L.getD k Con.zero).oddity > 7)) false, Dec (decide ((L.getD k Con.zero).oddity < 0)) false, Dec ((L.getD k Con.zero).sign != (1 : Int)) false, (0 : Int) ≤ ↑k ∧ (↑k : Int) < ↑L.length, Dec (decide ((↑k : Int) < ↑L.length)) true], by kernel_rfl, ⟨?_, ?_, ?_, ?_, ?_, (dN d7), (dN d6), ?_, (dN d5), d4, d3, (dN d2), ?_, d1⟩, MuG.out ?_, InG.out ?_⟩⟩) (fun d7 => CtG.no ?_)) (fun d6 => CtG.no ?_))))) (fun d2 => oe ((L.getD k Con.zero).sign == (-1 : Int)) (fun d3 => oe (decide ((L.getD k Con.zero).oddity < (0 : Int))) (fun d4 => CtG.no ?_) (fun d4 => oe (decide ((L.getD k Con.zero).oddity > (7 : Int))) (fun d5 => CtG.no ?_) (fun d5 => oe ((L.getD k Con.zero).odd) (fun d6 => ⟨[true, true, false, false, false, false], .inl ⟨(k + 1), [L.length = L.length ∧ (rws L) = (rws L), (↑L.length : Int) = ↑L.length, IntKind.i64.wrap ((↑k : Int) + 1) = (↑(k + (1 : Nat)) : Int), p = p, L.length = L.length ∧ (rws L) = (rws L), Dec (!(L.getD k Con.zero).odd) false, Dec (decide ((L.getD k Con.zero).oddity > 7)) false, Dec (decide ((L.getD k Con.zero).oddity < 0)) false, Dec ((L.getD k Con.zero).sign != (-1 : Int)) false, Dec ((L.getD k Con.zero).sign != (1 : Int)) true, (0 : Int) ≤ ↑k ∧ (↑k : Int) < ↑L.length, Dec (decide ((↑k : Int) < ↑L.length)) true], by kernel_rfl, ⟨?_, ?_, ?_, ?_, ?_, (dN d6), d5, d4, (dN d3), (dN d2), ?_, d1⟩, MuG.out ?_, InG.out ?_⟩⟩) (fun d6 => oe ((L.getD k Con.zero).dim.tmod (2 : Int) == 0) (fun d7 => oe ((L.getD k Con.zero).oddity == 0) (fun d8 => ⟨[true, true, false, false, false, true, false, false], .inl ⟨(k + 1), [L.length = L.length ∧ (rws L) = (rws L), (↑L.length : Int) = ↑L.length, IntKind.i64.wrap ((↑k : Int) + 1) = (↑(k + (1 : Nat)) : Int), p = p, L.length = L.length ∧ (rws L) = (rws L), Dec ((L.getD k Con.zero).oddity != (0 : Int)) false, Dec ((L.getD k Con.zero).dim.tmod (2 : Int) != (0 : Int)) false, (2 : Int) ≠ (0 : Int), Dec (!(L.getD k Con.zero).odd) true, Dec (decide ((L.getD k Con.zero).oddity > 7)) false, Dec (decide ((L.getD k Con.zero).oddity < 0)) false, Dec ((L.getD k Con.zero).sign != (-1 : Int)) false, Dec ((L.getD k Con.zero).sign != (1 : Int)) true, (0 : Int) ≤ ↑k ∧ (↑k : Int) < ↑L.length, Dec (decide ((↑k : Int) < ↑L.length)) true], by kernel_rfl, ⟨?_, ?_, ?_, ?_, ?_, (dN d8), (dN d7), ?_, (dN d6), d5, d4, (dN d3), (dN d2), ?_, d1⟩, MuG.out ?_, InG.out ?_⟩⟩) (fun d8 => CtG.no ?_)) (fun d7 => CtG.no ?_))))) (fun d3 => CtG.no ?_))) (fun d1 => ⟨[false], .inr ⟨[p = p, L.length = L.length ∧ (fun i => (L.getD i Con.zero).rvs) = fun i => (L.getD i Con.zero).rvs, Dec (decide ((↑k : Int) < (↑L.length : Int))) false], by kernel_rfl, ⟨?_, ?_, d1⟩, rfl⟩⟩)
      all_goals first | (refine MuG.mk ?_; (simp only [decide_eq_true_eq] at *; show L.length - (k + 1) < L.length - k; omega)) | (refine InG.mk ?_; (simp only [decide_eq_true_eq, decide_eq_false_iff_not, Int.toNat_natCast, beq_iff_eq, beq_eq_false_iff_ne, ne_eq, gt_iff_lt] at *; rw [all_drop (by omega)] at hs; rw [show fusB (at_ L k) = true from fusB_iff.2 (by simp only [at_]; refine ⟨?_, ?_, ?_⟩ <;> first | omega | (intro ho; simp_all; done) | (simp_all; done))] at hs; exact ⟨by omega, hs⟩)) | (refine CtG.mk ?_; (simp only [decide_eq_true_eq, decide_eq_false_iff_not, Int.toNat_natCast, beq_iff_eq, beq_eq_false_iff_ne, ne_eq, gt_iff_lt] at *; first | (rw [List.drop_eq_nil_of_le (by omega)] at hs; cases hs; done) | (rw [all_drop (by omega)] at hs; rw [show fusB (at_ L k) = false from fusB_no (by simp only [at_]; first | (intro hq; omega) | (rintro ⟨q1, q2, q3⟩; have q4 := q3 (by assumption); first | omega | (simp_all; done)))] at hs; cases hs; done))) | (first | (with_reducible rfl) | exact ⟨rfl, rfl⟩ | decide | ((try simp only [ek, Int.toNat_natCast, decide_eq_true_eq, decide_eq_false_iff_not] at *) <;> omega))
theorem dimR_b {L : List Con} (hL : okL L) : ∀ {l : List Int}, inR L.length l → 0 ≤ dimR L l ∧ dimR L l ≤ 1000 * l.length
  | [], _ => by simp [dimR]
  | i :: l, h => by
    have h1 := h i (by simp)
    have h2 := (hL.at (k := i.toNat) (by omega)).2.1
    have ih := dimR_b hL (l := l) (fun x hx => h x (by simp [hx]))
    simp only [dimR, List.length_cons]
    omega
theorem dimR_app (L : List Con) (a b : List Int) : dimR L (a ++ b) = dimR L a + dimR L b := by
  induction a with
  | nil => simp [dimR]
  | cons c a ih => simp only [List.cons_append, dimR, ih]; omega
theorem dimR_take {L : List Con} {l : List Int} {t : Nat} (ht : t < l.length) : dimR L (l.take (t + 1)) = dimR L (l.take t) + (at_ L (l.getD t 0).toNat).dim := by
  rw [take_int ht, dimR_app]; simp [dimR]
theorem dim_b {L : List Con} {l : List Int} {t : Nat} (hL : okL L) (hl : inR L.length l) (ht : t < l.length) : 0 ≤ (at_ L (l.getD t 0).toNat).dim ∧ (at_ L (l.getD t 0).toNat).dim ≤ 1000 := by
  have h1 := hl.at ht
  have := (hL.at (k := (l.getD t 0).toNat) (by omega)).2.1
  omega
def zerD (L : List Con) (l : List Int) (t : Nat) : Bool := (l.drop (Nat.max t 1)).all fun i => (at_ L i.toNat).oddity == 0
theorem zerD_0 {L : List Con} {l : List Int} : zerD L l 0 = zerR L l := by unfold zerD zerR; rw [show Nat.max 0 1 = 1 from rfl, List.drop_one]
theorem zerD_1 {L : List Con} {l : List Int} {t : Nat} (h : ¬ 0 < t) : zerD L l (t + 1) = zerD L l t := by
  have : t = 0 := by omega
  subst this; rfl
theorem zerD_s {L : List Con} {l : List Int} {t : Nat} (h : 0 < t) (ht : t < l.length) : zerD L l t = ((at_ L (l.getD t 0).toNat).oddity == 0 && zerD L l (t + 1)) := by
  unfold zerD
  rw [show Nat.max t 1 = t by simp only [Nat.max_def]; split <;> omega, show Nat.max (t + 1) 1 = t + 1 by simp only [Nat.max_def]; split <;> omega, drop_int ht]; rfl
theorem zerD_e {L : List Con} {l : List Int} {t : Nat} (ht : l.length ≤ t) : zerD L l t = true := by
  unfold zerD
  rw [List.drop_eq_nil_of_le (by simp only [Nat.max_def]; split <;> omega)]; rfl
noncomputable def f3T (P : List (List Int)) (j : Nat) : List (Nat × AV) := [(1, .ptr 1000 0), (54, (roR .i64 P).av), (55, .vint .i64 P.length), (56, .vint .i64 (j : Int)), (6, (rI .i64 (rowAt P j)).av)]
noncomputable def f3Ann (p : Int) (L : List Con) (P : List (List Int)) (j : Nat) : Ann := ⟨⟨f3T P j ++ [(7, .int .i64 0), (60, (rI .i64 (rowAt P j)).av), (61, .vint .i64 (rowAt P j).length), (62, .int .i64 0)], loH p L, 1010⟩, some (zerR L (rowAt P j)), fun d => match d with
  | true => (.exit 4, ⟨f3T P j ++ [(7, .vint .i64 (dimR L (rowAt P j)))], loH p L, 1010⟩)
  | false => (.ret, ⟨[(2, .bool false)], [], 1010⟩)⟩
theorem f3_loop (p : Int) (L : List Con) (P : List (List Int)) (j : Nat) (hL : okL L) (hr : inR L.length (rowAt P j)) (hn : (rowAt P j).length ≤ 1000) : AnnOk Tryz.prog EV.ng (Nat.max 1 Tryz.f47.ntmps) (bodyAt Tryz.f47 [0, 1, 0, 1, 1, 0, 0, 1, 1, 0, 0, 1, 0, 1, 1, 1]) (f3Ann p L P j) := by
  refine ann_of evOk (callF_ok evOk (noOrc_ok _ _) 8) none_ann (by kernel_rfl) (by kernel_rfl) (fun i : Nat × Int => (fun (t : Nat) (n : Int) => (⟨f3T P j ++ [(7, .vint .i64 n), (60, (rI .i64 (rowAt P j)).av), (61, .vint .i64 (rowAt P j).length), (62, .vint .i64 (t : Int))], loH p L, 1010⟩ : St)) i.1 i.2) (fun i : Nat × Int => (fun (t : Nat) (n : Int) => ((rowAt P j).length - t : Nat)) i.1 i.2) (fun (d : Bool) (i : Nat × Int) => (fun (t : Nat) (n : Int) => (t ≤ (rowAt P j).length ∧ n = dimR L ((rowAt P j).take t) ∧ zerD L (rowAt P j) t = d : Prop)) i.1 i.2) ?_ ?_
  · intro d hd
    exact ⟨(0, 0), [P.length = P.length ∧ (fun i => [rI IntKind.i64 (P.getD i [])]) = fun i => [rI IntKind.i64 (P.getD i [])], (↑P.length : Int) = ↑P.length, (↑j : Int) = ↑j, (rowAt P j).length = (rowAt P j).length ∧ (fun j_1 => [RV.int IntKind.i64 ((rowAt P j).getD j_1 (0 : Int))]) = fun j_1 => [RV.int IntKind.i64 ((rowAt P j).getD j_1 (0 : Int))], (0 : Int) = 0, (rowAt P j).length = (rowAt P j).length ∧ (fun j_1 => [RV.int IntKind.i64 ((rowAt P j).getD j_1 (0 : Int))]) = fun j_1 => [RV.int IntKind.i64 ((rowAt P j).getD j_1 (0 : Int))], (↑(rowAt P j).length : Int) = (↑(rowAt P j).length : Int), (0 : Int) = (↑(0 : Nat) : Int), p = p, L.length = L.length ∧ (rws L) = (rws L)], by kernel_rfl, (by refine ⟨?_, ?_, ?_, ?_, ?_, ?_, ?_, ?_, ?_, (?_ : L.length = L.length ∧ (rws L) = (rws L))⟩ <;> (first | rfl | assumption | omega | simp_all)), (by exact ⟨Nat.zero_le _, rfl, zerD_0.trans hd⟩)⟩
  · rintro d hd ⟨t, n⟩ hI
    cases d
    · -- d = false
      obtain ⟨ht, hs, hz⟩ := hI
      have ht : t ≤ (rowAt P j).length := ht
      have hs : n = dimR L ((rowAt P j).take t) := hs
      have ek : IntKind.i64.wrap ((t : Int) + 1) = ((t + 1 : Nat) : Int) := by rw [w64 (by omega) (by omega)]; omega
      have hb := dimR_b hL (l := (rowAt P j).take t) (fun x hx => hr x (List.mem_of_mem_take hx))
      have hb2 : (((rowAt P j).take t).length : Int) ≤ 1000 := by simp only [List.length_take]; omega
      refine oe (decide ((↑t : Int) < (↑(rowAt P j).length : Int))) (fun d1 => oe (decide ((↑t : Int) > 0)) (fun d2 => oe ((L.getD ((rowAt P j).getD t (0 : Int)).toNat Con.zero).oddity == 0) (fun d3 => ⟨[true, true, false], .inl ⟨(t + 1, n + (at_ L ((rowAt P j).getD t 0).toNat).dim), [P.length = P.length ∧ (fun i => [rI IntKind.i64 (P.getD i [])]) = fun i => [rI IntKind.i64 (P.getD i [])], (↑P.length : Int) = ↑P.length, (↑j : Int) = ↑j, (rowAt P j).length = (rowAt P j).length ∧ (fun j_1 => [RV.int IntKind.i64 ((rowAt P j).getD j_1 (0 : Int))]) = fun j_1 => [RV.int IntKind.i64 ((rowAt P j).getD j_1 (0 : Int))], IntKind.i64.wrap (n + (L.getD ((rowAt P j).getD t (0 : Int)).toNat Con.zero).dim) = n + (at_ L ((rowAt P j).getD t (0 : Int)).toNat).dim, (rowAt P j).length = (rowAt P j).length ∧ (fun j_1 => [RV.int IntKind.i64 ((rowAt P j).getD j_1 (0 : Int))]) = fun j_1 => [RV.int IntKind.i64 ((rowAt P j).getD j_1 (0 : Int))], (↑(rowAt P j).length : Int) = (↑(rowAt P j).length : Int), IntKind.i64.wrap ((↑t : Int) + 1) = (↑(t + (1 : Nat)) : Int), p = p, L.length = L.length ∧ (rws L) = (rws L), Dec ((L.getD ((rowAt P j).getD t (0 : Int)).toNat Con.zero).oddity != (0 : Int)) false, (0 : Int) ≤ (rowAt P j).getD t (0 : Int) ∧ (rowAt P j).getD t (0 : Int) < ↑L.length, Dec (decide ((↑t : Int) > 0)) true, (0 : Int) ≤ (rowAt P j).getD t (0 : Int) ∧ (rowAt P j).getD t (0 : Int) < ↑L.length, (0 : Int) ≤ ↑t ∧ (↑t : Int) < (↑(rowAt P j).length : Int), Dec (decide ((↑t : Int) < (↑(rowAt P j).length : Int))) true], by kernel_rfl, ⟨?_, ?_, ?_, ?_, ?_, ?_, ?_, ?_, ?_, ?_, (dN d3), ?_, d2, ?_, ?_, d1⟩, MuG.out ?_, InG.out ?_⟩⟩) (fun d3 => ⟨[true, true, true], .inr ⟨[Dec ((L.getD ((rowAt P j).getD t (0 : Int)).toNat Con.zero).oddity != (0 : Int)) true, (0 : Int) ≤ (rowAt P j).getD t (0 : Int) ∧ (rowAt P j).getD t (0 : Int) < ↑L.length, Dec (decide ((↑t : Int) > 0)) true, (0 : Int) ≤ (rowAt P j).getD t (0 : Int) ∧ (rowAt P j).getD t (0 : Int) < ↑L.length, (0 : Int) ≤ ↑t ∧ (↑t : Int) < (↑(rowAt P j).length : Int), Dec (decide ((↑t : Int) < (↑(rowAt P j).length : Int))) true], by kernel_rfl, ⟨(dN d3), ?_, d2, ?_, ?_, d1⟩, rfl⟩⟩)) (fun d2 => ⟨[true, false], .inl ⟨(t + 1, n + (at_ L ((rowAt P j).getD t 0).toNat).dim), [P.length = P.length ∧ (fun i => [rI IntKind.i64 (P.getD i [])]) = fun i => [rI IntKind.i64 (P.getD i [])], (↑P.length : Int) = ↑P.length, (↑j : Int) = ↑j, (rowAt P j).length = (rowAt P j).length ∧ (fun j_1 => [RV.int IntKind.i64 ((rowAt P j).getD j_1 (0 : Int))]) = fun j_1 => [RV.int IntKind.i64 ((rowAt P j).getD j_1 (0 : Int))], IntKind.i64.wrap (n + (L.getD ((rowAt P j).getD t (0 : Int)).toNat Con.zero).dim) = n + (at_ L ((rowAt P j).getD t (0 : Int)).toNat).dim, (rowAt P j).length = (rowAt P j).length ∧ (fun j_1 => [RV.int IntKind.i64 ((rowAt P j).getD j_1 (0 : Int))]) = fun j_1 => [RV.int IntKind.i64 ((rowAt P j).getD j_1 (0 : Int))], (↑(rowAt P j).length : Int) = (↑(rowAt P j).length : Int), IntKind.i64.wrap ((↑t : Int) + 1) = (↑(t + (1 : Nat)) : Int), p = p, L.length = L.length ∧ (rws L) = (rws L), Dec (decide ((↑t : Int) > 0)) false, (0 : Int) ≤ (rowAt P j).getD t (0 : Int) ∧ (rowAt P j).getD t (0 : Int) < ↑L.length, (0 : Int) ≤ ↑t ∧ (↑t : Int) < (↑(rowAt P j).length : Int), Dec (decide ((↑t : Int) < (↑(rowAt P j).length : Int))) true], by kernel_rfl, ⟨?_, ?_, ?_, ?_, ?_, ?_, ?_, ?_, ?_, ?_, d2, ?_, ?_, d1⟩, MuG.out ?_, InG.out ?_⟩⟩)) (fun d1 => CtG.no ?_)
      all_goals first | (refine MuG.mk ?_; (simp only [decide_eq_true_eq] at *; show (rowAt P j).length - (t + 1) < (rowAt P j).length - t; omega)) | (refine InG.mk ?_; (simp only [decide_eq_true_eq, decide_eq_false_iff_not, Int.toNat_natCast, gt_iff_lt] at *; refine ⟨by omega, by rw [dimR_take (by omega), hs], ?_⟩; first | (show zerD L (rowAt P j) (t + 1) = _; rw [zerD_1 (by omega)]; exact hz) | (rw [zerD_s (by omega) (by omega), show ((at_ L ((rowAt P j).getD t 0).toNat).oddity == 0) = true from d3] at hz; exact hz))) | (refine CtG.mk ?_; (simp only [decide_eq_true_eq, decide_eq_false_iff_not, Int.toNat_natCast, gt_iff_lt] at *; first | (rw [zerD_e (by omega)] at hz; cases hz; done) | (rw [zerD_s (by omega) (by omega), show ((at_ L ((rowAt P j).getD t 0).toNat).oddity == 0) = false from d3] at hz; cases hz; done))) | (first | (with_reducible rfl) | exact ⟨rfl, rfl⟩ | ((try simp only [ek, Int.toNat_natCast, decide_eq_true_eq, decide_eq_false_iff_not, gt_iff_lt] at *) <;> first | omega | (have h1 := hr.at (t := t) (by omega); omega) | (have h2 := dim_b (t := t) hL hr (by omega); simp only [at_] at h2 ⊢; exact w64 (by omega) (by omega)) | (rw [hs, List.take_of_length_le (by omega)]; done)))
    · -- d = true
      obtain ⟨ht, hs, hz⟩ := hI
      have ht : t ≤ (rowAt P j).length := ht
      have hs : n = dimR L ((rowAt P j).take t) := hs
      have ek : IntKind.i64.wrap ((t : Int) + 1) = ((t + 1 : Nat) : Int) := by rw [w64 (by omega) (by omega)]; omega
      have hb := dimR_b hL (l := (rowAt P j).take t) (fun x hx => hr x (List.mem_of_mem_take hx))
      have hb2 : (((rowAt P j).take t).length : Int) ≤ 1000 := by simp only [List.length_take]; omega
      refine oe (decide ((↑t : Int) < (↑(rowAt P j).length : Int))) (fun d1 => oe (decide ((↑t : Int) > 0)) (fun d2 => oe ((L.getD ((rowAt P j).getD t (0 : Int)).toNat Con.zero).oddity == 0) (fun d3 => ⟨[true, true, false], .inl ⟨(t + 1, n + (at_ L ((rowAt P j).getD t 0).toNat).dim), [P.length = P.length ∧ (fun i => [rI IntKind.i64 (P.getD i [])]) = fun i => [rI IntKind.i64 (P.getD i [])], (↑P.length : Int) = ↑P.length, (↑j : Int) = ↑j, (rowAt P j).length = (rowAt P j).length ∧ (fun j_1 => [RV.int IntKind.i64 ((rowAt P j).getD j_1 (0 : Int))]) = fun j_1 => [RV.int IntKind.i64 ((rowAt P j).getD j_1 (0 : Int))], IntKind.i64.wrap (n + (L.getD ((rowAt P j).getD t (0 : Int)).toNat Con.zero).dim) = n + (at_ L ((rowAt P j).getD t (0 : Int)).toNat).dim, (rowAt P j).length = (rowAt P j).length ∧ (fun j_1 => [RV.int IntKind.i64 ((rowAt P j).getD j_1 (0 : Int))]) = fun j_1 => [RV.int IntKind.i64 ((rowAt P j).getD j_1 (0 : Int))], (↑(rowAt P j).length : Int) = (↑(rowAt P j).length : Int), IntKind.i64.wrap ((↑t : Int) + 1) = (↑(t + (1 : Nat)) : Int), p = p, L.length = L.length ∧ (rws L) = (rws L), Dec ((L.getD ((rowAt P j).getD t (0 : Int)).toNat Con.zero).oddity != (0 : Int)) false, (0 : Int) ≤ (rowAt P j).getD t (0 : Int) ∧ (rowAt P j).getD t (0 : Int) < ↑L.length, Dec (decide ((↑t : Int) > 0)) true, (0 : Int) ≤ (rowAt P j).getD t (0 : Int) ∧ (rowAt P j).getD t (0 : Int) < ↑L.length, (0 : Int) ≤ ↑t ∧ (↑t : Int) < (↑(rowAt P j).length : Int), Dec (decide ((↑t : Int) < (↑(rowAt P j).length : Int))) true], by kernel_rfl, ⟨?_, ?_, ?_, ?_, ?_, ?_, ?_, ?_, ?_, ?_, (dN d3), ?_, d2, ?_, ?_, d1⟩, MuG.out ?_, InG.out ?_⟩⟩) (fun d3 => CtG.no ?_)) (fun d2 => ⟨[true, false], .inl ⟨(t + 1, n + (at_ L ((rowAt P j).getD t 0).toNat).dim), [P.length = P.length ∧ (fun i => [rI IntKind.i64 (P.getD i [])]) = fun i => [rI IntKind.i64 (P.getD i [])], (↑P.length : Int) = ↑P.length, (↑j : Int) = ↑j, (rowAt P j).length = (rowAt P j).length ∧ (fun j_1 => [RV.int IntKind.i64 ((rowAt P j).getD j_1 (0 : Int))]) = fun j_1 => [RV.int IntKind.i64 ((rowAt P j).getD j_1 (0 : Int))], IntKind.i64.wrap (n + (L.getD ((rowAt P j).getD t (0 : Int)).toNat Con.zero).dim) = n + (at_ L ((rowAt P j).getD t (0 : Int)).toNat).dim, (rowAt P j).length = (rowAt P j).length ∧ (fun j_1 => [RV.int IntKind.i64 ((rowAt P j).getD j_1 (0 : Int))]) = fun j_1 => [RV.int IntKind.i64 ((rowAt P j).getD j_1 (0 : Int))], (↑(rowAt P j).length : Int) = (↑(rowAt P j).length : Int), IntKind.i64.wrap ((↑t : Int) + 1) = (↑(t + (1 : Nat)) : Int), p = p, L.length = L.length ∧ (rws L) = (rws L), Dec (decide ((↑t : Int) > 0)) false, (0 : Int) ≤ (rowAt P j).getD t (0 : Int) ∧ (rowAt P j).getD t (0 : Int) < ↑L.length, (0 : Int) ≤ ↑t ∧ (↑t : Int) < (↑(rowAt P j).length : Int), Dec (decide ((↑t : Int) < (↑(rowAt P j).length : Int))) true], by kernel_rfl, ⟨?_, ?_, ?_, ?_, ?_, ?_, ?_, ?_, ?_, ?_, d2, ?_, ?_, d1⟩, MuG.out ?_, InG.out ?_⟩⟩)) (fun d1 => ⟨[false], .inr ⟨[P.length = P.length ∧ (fun i => [rI IntKind.i64 (P.getD i [])]) = fun i => [rI IntKind.i64 (P.getD i [])], (↑P.length : Int) = ↑P.length, (↑j : Int) = ↑j, (rowAt P j).length = (rowAt P j).length ∧ (fun j_1 => [RV.int IntKind.i64 ((rowAt P j).getD j_1 (0 : Int))]) = fun j_1 => [RV.int IntKind.i64 ((rowAt P j).getD j_1 (0 : Int))], n = dimR L (rowAt P j), p = p, L.length = L.length ∧ (rws L) = (rws L), Dec (decide ((↑t : Int) < (↑(rowAt P j).length : Int))) false], by kernel_rfl, ⟨?_, ?_, ?_, ?_, ?_, ?_, ?_, d1⟩, rfl⟩⟩)
      all_goals first | (refine MuG.mk ?_; (simp only [decide_eq_true_eq] at *; show (rowAt P j).length - (t + 1) < (rowAt P j).length - t; omega)) | (refine InG.mk ?_; (simp only [decide_eq_true_eq, decide_eq_false_iff_not, Int.toNat_natCast, gt_iff_lt] at *; refine ⟨by omega, by rw [dimR_take (by omega), hs], ?_⟩; first | (show zerD L (rowAt P j) (t + 1) = _; rw [zerD_1 (by omega)]; exact hz) | (rw [zerD_s (by omega) (by omega), show ((at_ L ((rowAt P j).getD t 0).toNat).oddity == 0) = true from d3] at hz; exact hz))) | (refine CtG.mk ?_; (simp only [decide_eq_true_eq, decide_eq_false_iff_not, Int.toNat_natCast, gt_iff_lt] at *; first | (rw [zerD_e (by omega)] at hz; cases hz; done) | (rw [zerD_s (by omega) (by omega), show ((at_ L ((rowAt P j).getD t 0).toNat).oddity == 0) = false from d3] at hz; cases hz; done))) | (first | (with_reducible rfl) | exact ⟨rfl, rfl⟩ | ((try simp only [ek, Int.toNat_natCast, decide_eq_true_eq, decide_eq_false_iff_not, gt_iff_lt] at *) <;> first | omega | (have h1 := hr.at (t := t) (by omega); omega) | (have h2 := dim_b (t := t) hL hr (by omega); simp only [at_] at h2 ⊢; exact w64 (by omega) (by omega)) | (rw [hs, List.take_of_length_le (by omega)]; done)))
def fusR (L : List Con) (l : List Int) : Bool := zerR L l && parR L l
theorem allP_drop {P : List (List Int)} {j : Nat} (hj : j < P.length) (q : List Int → Bool) : (P.drop j).all q = (q (rowAt P j) && (P.drop (j + 1)).all q) := by
  rw [drop_row hj]; rfl
theorem par_w {L : List Con} (hL : okL L) {l : List Int} (hne : l ≠ []) (hl : inR L.length l) (hn : l.length ≤ 1000) : ((IntKind.i64.wrap ((at_ L (l.getD 0 0).toNat).oddity - dimR L l)).tmod 2 == 0) = parR L l := by
  have hb := dimR_b hL hl
  have ho := odd_b (t := 0) hL hl (List.length_pos_iff.2 hne)
  rw [w64 (by omega) (by omega)]
  unfold parR
  rw [Bool.eq_iff_iff, beq_iff_eq, decide_eq_true_eq]
  exact tmod2 _
noncomputable def f2Ann (p : Int) (L : List Con) (P : List (List Int)) : Ann := ⟨⟨[(1, .ptr 1000 0), (54, (roR .i64 P).av), (55, .vint .i64 P.length), (56, .int .i64 0)], loH p L, 1010⟩, some (P.all (fusR L)), fun d => match d with
  | true => (.exit 2, ⟨[], [], 1010⟩)
  | false => (.ret, ⟨[(2, .bool false)], [], 1010⟩)⟩
theorem f2_loop (p : Int) (L : List Con) (P : List (List Int)) (hL : okL L) (hP : ∀ l ∈ P, l ≠ [] ∧ inR L.length l ∧ l.length ≤ L.length) (hm : P.length ≤ 1000) : AnnOk Tryz.prog EV.ng (Nat.max 1 Tryz.f47.ntmps) (bodyAt Tryz.f47 [0, 1, 0, 1, 1, 1]) (f2Ann p L P) := by
  refine ann_ofI evOk (callF_ok evOk (noOrc_ok _ _) 8) (by kernel_rfl) (by kernel_rfl) (fun i : Nat => (fun (j : Nat) => (⟨[(1, .ptr 1000 0), (54, (roR .i64 P).av), (55, .vint .i64 P.length), (56, .vint .i64 (j : Int))], loH p L, 1010⟩ : St)) i) (fun i : Nat => (fun (j : Nat) => (P.length - j : Nat)) i) (fun (d : Bool) (i : Nat) => (fun (j : Nat) => (j ≤ P.length ∧ (P.drop j).all (fusR L) = d : Prop)) i) (fun i : Nat => (fun (j : Nat) => ([([0, 1, 0, 1, 1, 0, 0, 1, 1, 0, 0, 1, 0, 1, 1, 1], f3Ann p L P j)] : List (List Nat × Ann))) i) ?_ ?_ ?_
  · rintro d hd j hI
    exact one_ann (f3_loop p L P j hL (by rcases Nat.lt_or_ge j P.length with h | h; exact (hP _ (rowAt_mem h)).2.1; intro x hx; simp [rowAt, h] at hx) (by have := hL.1; rcases Nat.lt_or_ge j P.length with h | h; have := (hP _ (rowAt_mem h)).2.2; omega; simp [rowAt, h]))
  · intro d hd
    exact ⟨(0), [P.length = P.length ∧ (fun i => [rI IntKind.i64 (P.getD i [])]) = fun i => [rI IntKind.i64 (P.getD i [])], (↑P.length : Int) = ↑P.length, (0 : Int) = (↑(0 : Nat) : Int), p = p, L.length = L.length ∧ (rws L) = (rws L)], by kernel_rfl, (by refine ⟨?_, ?_, ?_, ?_, (?_ : L.length = L.length ∧ (rws L) = (rws L))⟩ <;> (first | rfl | assumption | omega | simp_all)), (by exact ⟨Nat.zero_le _, hd⟩)⟩
  · rintro d hd j hI
    cases d
    · -- d = false
      obtain ⟨ht, hs⟩ := hI
      have ht : j ≤ P.length := ht
      have hl1 := hL.1
      have ek : IntKind.i64.wrap ((j : Int) + 1) = ((j + 1 : Nat) : Int) := by rw [w64 (by omega) (by omega)]; omega
      refine oe (decide ((↑j : Int) < ↑P.length)) (fun d1 => oe (zerR L (rowAt P j)) (fun d2 => oe ((IntKind.i64.wrap ((L.getD ((rowAt P j).getD (Int.toNat (0 : Int)) (0 : Int)).toNat Con.zero).oddity - dimR L (rowAt P j))).tmod (2 : Int) == 0) (fun d3 => ⟨[true, true, false], .inl ⟨(j + 1), [P.length = P.length ∧ (fun i => [rI IntKind.i64 (P.getD i [])]) = fun i => [rI IntKind.i64 (P.getD i [])], (↑P.length : Int) = ↑P.length, IntKind.i64.wrap ((↑j : Int) + 1) = (↑(j + (1 : Nat)) : Int), p = p, L.length = L.length ∧ (rws L) = (rws L), Dec ((IntKind.i64.wrap ((L.getD ((rowAt P j).getD (Int.toNat (0 : Int)) (0 : Int)).toNat Con.zero).oddity - dimR L (rowAt P j))).tmod (2 : Int) != (0 : Int)) false, (2 : Int) ≠ (0 : Int), (0 : Int) ≤ (rowAt P j).getD (Int.toNat (0 : Int)) (0 : Int) ∧ (rowAt P j).getD (Int.toNat (0 : Int)) (0 : Int) < ↑L.length, (0 : Int) ≤ 0 ∧ (0 : Int) < (↑(rowAt P j).length : Int), P.length = P.length ∧ (fun i => [rI IntKind.i64 (P.getD i [])]) = fun i => [rI IntKind.i64 (P.getD i [])], (↑P.length : Int) = ↑P.length, (↑j : Int) = ↑j, (P.getD j []).length = (rowAt P j).length ∧ (fun j_1 => [RV.int IntKind.i64 ((P.getD j []).getD j_1 (0 : Int))]) = fun j_1 => [RV.int IntKind.i64 ((rowAt P j).getD j_1 (0 : Int))], (P.getD j []).length = (rowAt P j).length ∧ (fun j_1 => [RV.int IntKind.i64 ((P.getD j []).getD j_1 (0 : Int))]) = fun j_1 => [RV.int IntKind.i64 ((rowAt P j).getD j_1 (0 : Int))], (↑(P.getD j []).length : Int) = (↑(rowAt P j).length : Int), p = p, L.length = L.length ∧ (rws L) = (rws L), Dec (zerR L (rowAt P j)) true, (0 : Int) ≤ ↑j ∧ (↑j : Int) < ↑P.length, Dec (decide ((↑j : Int) < ↑P.length)) true], by kernel_rfl, ⟨?_, ?_, ?_, ?_, ?_, (dN d3), ?_, ?_, ?_, ?_, ?_, ?_, ?_, ?_, ?_, ?_, ?_, d2, ?_, d1⟩, MuG.out ?_, InG.out ?_⟩⟩) (fun d3 => ⟨[true, true, true], .inr ⟨[Dec ((IntKind.i64.wrap ((L.getD ((rowAt P j).getD (Int.toNat (0 : Int)) (0 : Int)).toNat Con.zero).oddity - dimR L (rowAt P j))).tmod (2 : Int) != (0 : Int)) true, (2 : Int) ≠ (0 : Int), (0 : Int) ≤ (rowAt P j).getD (Int.toNat (0 : Int)) (0 : Int) ∧ (rowAt P j).getD (Int.toNat (0 : Int)) (0 : Int) < ↑L.length, (0 : Int) ≤ 0 ∧ (0 : Int) < (↑(rowAt P j).length : Int), P.length = P.length ∧ (fun i => [rI IntKind.i64 (P.getD i [])]) = fun i => [rI IntKind.i64 (P.getD i [])], (↑P.length : Int) = ↑P.length, (↑j : Int) = ↑j, (P.getD j []).length = (rowAt P j).length ∧ (fun j_1 => [RV.int IntKind.i64 ((P.getD j []).getD j_1 (0 : Int))]) = fun j_1 => [RV.int IntKind.i64 ((rowAt P j).getD j_1 (0 : Int))], (P.getD j []).length = (rowAt P j).length ∧ (fun j_1 => [RV.int IntKind.i64 ((P.getD j []).getD j_1 (0 : Int))]) = fun j_1 => [RV.int IntKind.i64 ((rowAt P j).getD j_1 (0 : Int))], (↑(P.getD j []).length : Int) = (↑(rowAt P j).length : Int), p = p, L.length = L.length ∧ (rws L) = (rws L), Dec (zerR L (rowAt P j)) true, (0 : Int) ≤ ↑j ∧ (↑j : Int) < ↑P.length, Dec (decide ((↑j : Int) < ↑P.length)) true], by kernel_rfl, ⟨(dN d3), ?_, ?_, ?_, ?_, ?_, ?_, ?_, ?_, ?_, ?_, ?_, d2, ?_, d1⟩, rfl⟩⟩)) (fun d2 => ⟨[true, false], .inr ⟨[P.length = P.length ∧ (fun i => [rI IntKind.i64 (P.getD i [])]) = fun i => [rI IntKind.i64 (P.getD i [])], (↑P.length : Int) = ↑P.length, (↑j : Int) = ↑j, (P.getD j []).length = (rowAt P j).length ∧ (fun j_1 => [RV.int IntKind.i64 ((P.getD j []).getD j_1 (0 : Int))]) = fun j_1 => [RV.int IntKind.i64 ((rowAt P j).getD j_1 (0 : Int))], (P.getD j []).length = (rowAt P j).length ∧ (fun j_1 => [RV.int IntKind.i64 ((P.getD j []).getD j_1 (0 : Int))]) = fun j_1 => [RV.int IntKind.i64 ((rowAt P j).getD j_1 (0 : Int))], (↑(P.getD j []).length : Int) = (↑(rowAt P j).length : Int), p = p, L.length = L.length ∧ (rws L) = (rws L), Dec (zerR L (rowAt P j)) false, (0 : Int) ≤ ↑j ∧ (↑j : Int) < ↑P.length, Dec (decide ((↑j : Int) < ↑P.length)) true], by kernel_rfl, ⟨?_, ?_, ?_, ?_, ?_, ?_, ?_, ?_, d2, ?_, d1⟩, rfl⟩⟩)) (fun d1 => CtG.no ?_)
      all_goals first | (refine MuG.mk ?_; (simp only [decide_eq_true_eq] at *; show P.length - (j + 1) < P.length - j; omega)) | (refine InG.mk ?_; (simp only [decide_eq_true_eq, Int.toNat_natCast, Int.toNat_zero] at *; have h0 := hP _ (rowAt_mem (P := P) (t := j) (by omega)); rw [allP_drop (by omega), fusR, d2, ← par_w hL h0.1 h0.2.1 (by omega)] at hs; refine ⟨by omega, ?_⟩; simp only [at_] at hs; first | (rw [d3] at hs; exact hs) | (simp only [Bool.not_eq_eq_eq_not, bne] at d3 hs; rw [d3] at hs; exact hs))) | (refine CtG.mk ?_; (simp only [decide_eq_true_eq, decide_eq_false_iff_not, Int.toNat_natCast, Int.toNat_zero] at *; first | (rw [List.drop_eq_nil_of_le (by omega)] at hs; cases hs; done) | (rw [allP_drop (by omega), fusR, d2] at hs; cases hs; done) | (have h0 := hP _ (rowAt_mem (P := P) (t := j) (by omega)); rw [allP_drop (by omega), fusR, d2, ← par_w hL h0.1 h0.2.1 (by omega)] at hs; simp only [at_] at hs; rw [d3] at hs; cases hs; done))) | (first | (with_reducible rfl) | exact ⟨rfl, rfl⟩ | decide | ((try simp only [ek, Int.toNat_natCast, Int.toNat_zero, decide_eq_true_eq, decide_eq_false_iff_not] at *) <;> first | omega | (have h0 := hP _ (rowAt_mem (P := P) (t := j) (by omega)); have h1 : 0 < (rowAt P j).length := List.length_pos_iff.2 h0.1; first | omega | (have h2 := h0.2.1.at (t := 0) h1; omega))))
    · -- d = true
      obtain ⟨ht, hs⟩ := hI
      have ht : j ≤ P.length := ht
      have hl1 := hL.1
      have ek : IntKind.i64.wrap ((j : Int) + 1) = ((j + 1 : Nat) : Int) := by rw [w64 (by omega) (by omega)]; omega
      refine oe (decide ((↑j : Int) < ↑P.length)) (fun d1 => oe (zerR L (rowAt P j)) (fun d2 => oe ((IntKind.i64.wrap ((L.getD ((rowAt P j).getD (Int.toNat (0 : Int)) (0 : Int)).toNat Con.zero).oddity - dimR L (rowAt P j))).tmod (2 : Int) == 0) (fun d3 => ⟨[true, true, false], .inl ⟨(j + 1), [P.length = P.length ∧ (fun i => [rI IntKind.i64 (P.getD i [])]) = fun i => [rI IntKind.i64 (P.getD i [])], (↑P.length : Int) = ↑P.length, IntKind.i64.wrap ((↑j : Int) + 1) = (↑(j + (1 : Nat)) : Int), p = p, L.length = L.length ∧ (rws L) = (rws L), Dec ((IntKind.i64.wrap ((L.getD ((rowAt P j).getD (Int.toNat (0 : Int)) (0 : Int)).toNat Con.zero).oddity - dimR L (rowAt P j))).tmod (2 : Int) != (0 : Int)) false, (2 : Int) ≠ (0 : Int), (0 : Int) ≤ (rowAt P j).getD (Int.toNat (0 : Int)) (0 : Int) ∧ (rowAt P j).getD (Int.toNat (0 : Int)) (0 : Int) < ↑L.length, (0 : Int) ≤ 0 ∧ (0 : Int) < (↑(rowAt P j).length : Int), P.length = P.length ∧ (fun i => [rI IntKind.i64 (P.getD i [])]) = fun i => [rI IntKind.i64 (P.getD i [])], (↑P.length : Int) = ↑P.length, (↑j : Int) = ↑j, (P.getD j []).length = (rowAt P j).length ∧ (fun j_1 => [RV.int IntKind.i64 ((P.getD j []).getD j_1 (0 : Int))]) = fun j_1 => [RV.int IntKind.i64 ((rowAt P j).getD j_1 (0 : Int))], (P.getD j []).length = (rowAt P j).length ∧ (fun j_1 => [RV.int IntKind.i64 ((P.getD j []).getD j_1 (0 : Int))]) = fun j_1 => [RV.int IntKind.i64 ((rowAt P j).getD j_1 (0 : Int))], (↑(P.getD j []).length : Int) = (↑(rowAt P j).length : Int), p = p, L.length = L.length ∧ (rws L) = (rws L), Dec (zerR L (rowAt P j)) true, (0 : Int) ≤ ↑j ∧ (↑j : Int) < ↑P.length, Dec (decide ((↑j : Int) < ↑P.length)) true], by kernel_rfl, ⟨?_, ?_, ?_, ?_, ?_, (dN d3), ?_, ?_, ?_, ?_, ?_, ?_, ?_, ?_, ?_, ?_, ?_, d2, ?_, d1⟩, MuG.out ?_, InG.out ?_⟩⟩) (fun d3 => CtG.no ?_)) (fun d2 => CtG.no ?_)) (fun d1 => ⟨[false], .inr ⟨[Dec (decide ((↑j : Int) < (↑P.length : Int))) false], by kernel_rfl, d1, rfl⟩⟩)
      all_goals first | (refine MuG.mk ?_; (simp only [decide_eq_true_eq] at *; show P.length - (j + 1) < P.length - j; omega)) | (refine InG.mk ?_; (simp only [decide_eq_true_eq, Int.toNat_natCast, Int.toNat_zero] at *; have h0 := hP _ (rowAt_mem (P := P) (t := j) (by omega)); rw [allP_drop (by omega), fusR, d2, ← par_w hL h0.1 h0.2.1 (by omega)] at hs; refine ⟨by omega, ?_⟩; simp only [at_] at hs; first | (rw [d3] at hs; exact hs) | (simp only [Bool.not_eq_eq_eq_not, bne] at d3 hs; rw [d3] at hs; exact hs))) | (refine CtG.mk ?_; (simp only [decide_eq_true_eq, decide_eq_false_iff_not, Int.toNat_natCast, Int.toNat_zero] at *; first | (rw [List.drop_eq_nil_of_le (by omega)] at hs; cases hs; done) | (rw [allP_drop (by omega), fusR, d2] at hs; cases hs; done) | (have h0 := hP _ (rowAt_mem (P := P) (t := j) (by omega)); rw [allP_drop (by omega), fusR, d2, ← par_w hL h0.1 h0.2.1 (by omega)] at hs; simp only [at_] at hs; rw [d3] at hs; cases hs; done))) | (first | (with_reducible rfl) | exact ⟨rfl, rfl⟩ | decide | ((try simp only [ek, Int.toNat_natCast, Int.toNat_zero, decide_eq_true_eq, decide_eq_false_iff_not] at *) <;> first | omega | (have h0 := hP _ (rowAt_mem (P := P) (t := j) (by omega)); have h1 : 0 < (rowAt P j).length := List.length_pos_iff.2 h0.1; first | omega | (have h2 := h0.2.1.at (t := 0) h1; omega))))
theorem okL_sh {p : Int} {L : List Con} (h1 : shapeM p L = true) (h2 : L.all fusB = true) : okL L := by
  simp only [shapeM, Bool.and_eq_true] at h1
  obtain ⟨i1, i2, i3⟩ := sh_at (by decide) (by decide) h1.2.2
  have hne : L ≠ [] := by intro e; rw [e] at h1; cases h1.2.1
  have hd : dimS L ≤ 8 := by rcases i2 with i2 | i2; omega; exact absurd i2 hne
  refine ⟨by omega, fun c hc => ?_⟩
  have h4 := i1 c hc
  have h5 := fusB_iff.1 (List.all_eq_true.1 h2 c hc)
  exact ⟨⟨h4.1, by omega⟩, ⟨h4.2.2.1, by omega⟩, h5.1, h5.2.1⟩
noncomputable def entsVF : List OEnt := entsVC ++ entsVS
theorem entsVF_ok : ∀ e ∈ entsVF, EntOk Tryz.prog e := by
  intro e he
  rcases List.mem_append.1 he with he | he
  · exact entsVC_ok e he
  · exact entsVS_ok e he
theorem fusT_eq (p : Int) (L : List Con) : fusT p L = (shapeM p L && (L.all fusB && (partsM L).all (fusR L))) := rfl
theorem fused_1 (p : Int) (L : List Con) (hn : L.length ≤ 1000) (h1 : shapeM p L = false) : PureC Tryz.prog [] 47 [.agg [.int .i64 p, roC L]] (.bool (fusT p L)) := by
  have k1 : shapeM p (consR L.length fun i => (L.getD i Con.zero).rvs) = false := (by rw [consR_ro]; exact h1)
  have rr := fun (tp : List Bool) (ms : List Prop) h hm => pure_run evOk (callF_ok evOk (orcOf_ok entsVF_ok) 8) Tryz.func47 (A := [.agg [.int .i64 p, roC L]]) rfl none_ann rfl rfl evNg (tabs := []) (R := .bool (fusT p L)) (tp := tp) (ms := ms) h hm
  refine rr [true] [false = fusT p L, Dec (!shapeM p (consR L.length (rws L))) true, (∀ (i : Nat), i < L.length → (rws L) i = (Con.ofR ((rws L) i)).rvs) ∧ L.length ≤ (1000 : Nat)] (by kernel_rfl) ⟨?_, (dN k1), (?_ : (∀ (i : Nat), i < L.length → (rws L) i = (Con.ofR ((rws L) i)).rvs) ∧ L.length ≤ (1000 : Nat))⟩
  all_goals first | (first | (with_reducible rfl) | exact ⟨rfl, rfl⟩ | exact ⟨fun _ _ => rfl, hn⟩ | (rw [fusT_eq, h1]; rfl))
theorem fused_2 (p : Int) (L : List Con) (hn : L.length ≤ 1000) (h1 : shapeM p L = true) (h2 : L.all fusB = false) : PureC Tryz.prog [] 47 [.agg [.int .i64 p, roC L]] (.bool (fusT p L)) := by
  have k1 : shapeM p (consR L.length fun i => (L.getD i Con.zero).rvs) = true := (by rw [consR_ro]; exact h1)
  have rr := fun (tp : List Bool) (ms : List Prop) h hm => pure_run evOk (callF_ok evOk (orcOf_ok entsVF_ok) 8) Tryz.func47 (A := [.agg [.int .i64 p, roC L]]) (N := Nat.max 1 Tryz.f47.ntmps) rfl (one_ann (f1_loop p L hn)) rfl rfl evNg (tabs := []) (R := .bool (fusT p L)) (tp := tp) (ms := ms) h hm
  refine rr [false, false] [false = fusT p L, L.length = L.length ∧ (rws L) = (rws L), (↑L.length : Int) = ↑L.length, p = p, L.length = L.length ∧ (rws L) = (rws L), Dec (L.all fusB) false, Dec (!shapeM p (consR L.length (rws L))) false, (∀ (i : Nat), i < L.length → (rws L) i = (Con.ofR ((rws L) i)).rvs) ∧ L.length ≤ (1000 : Nat)] (by kernel_rfl) ⟨?_, ?_, ?_, ?_, ?_, h2, (dN k1), (?_ : (∀ (i : Nat), i < L.length → (rws L) i = (Con.ofR ((rws L) i)).rvs) ∧ L.length ≤ (1000 : Nat))⟩
  all_goals first | (first | (with_reducible rfl) | exact ⟨rfl, rfl⟩ | exact ⟨fun _ _ => rfl, hn⟩ | (rw [fusT_eq, h1, h2]; rfl))
theorem fused_3 (p : Int) (L : List Con) (hn : L.length ≤ 1000) (hL : okL L) (h1 : shapeM p L = true) (h2 : L.all fusB = true) : PureC Tryz.prog [] 47 [.agg [.int .i64 p, roC L]] (.bool (fusT p L)) := by
  have k1 : shapeM p (consR L.length fun i => (L.getD i Con.zero).rvs) = true := (by rw [consR_ro]; exact h1)
  have rr := fun (tp : List Bool) (ms : List Prop) h hm => pure_run evOk (callF_ok evOk (orcOf_ok entsVF_ok) 8) Tryz.func47 (A := [.agg [.int .i64 p, roC L]]) (N := Nat.max 1 Tryz.f47.ntmps) rfl (cons_ann (f1_loop p L hn) (one_ann (f2_loop p L (partsM L) hL parts_rows (Nat.le_trans parts_len hn)))) rfl rfl evNg (tabs := []) (R := .bool (fusT p L)) (tp := tp) (ms := ms) h hm
  refine oe ((partsM L).all (fusR L)) (fun d1 => rr [false, true, true] [true = fusT p L, (partsM (consR L.length (rws L))).length = (partsM L).length ∧ (fun i => [rI IntKind.i64 ((partsM (consR L.length (rws L))).getD i [])]) = fun i => [rI IntKind.i64 ((partsM L).getD i [])], (↑(partsM (consR L.length (rws L))).length : Int) = (↑(partsM L).length : Int), p = p, L.length = L.length ∧ (rws L) = (rws L), Dec ((partsM L).all (fusR L)) true, (∀ (i : Nat), i < L.length → (rws L) i = (Con.ofR ((rws L) i)).rvs) ∧ okE (consR L.length (rws L)), L.length = L.length ∧ (rws L) = (rws L), (↑L.length : Int) = ↑L.length, p = p, L.length = L.length ∧ (rws L) = (rws L), Dec (L.all fusB) true, Dec (!shapeM p (consR L.length (rws L))) false, (∀ (i : Nat), i < L.length → (rws L) i = (Con.ofR ((rws L) i)).rvs) ∧ L.length ≤ (1000 : Nat)] (by kernel_rfl) ⟨?_, ?_, ?_, ?_, ?_, d1, ?_, ?_, ?_, ?_, ?_, h2, (dN k1), (?_ : (∀ (i : Nat), i < L.length → (rws L) i = (Con.ofR ((rws L) i)).rvs) ∧ L.length ≤ (1000 : Nat))⟩) (fun d1 => rr [false, true, false] [false = fusT p L, (partsM (consR L.length (rws L))).length = (partsM L).length ∧ (fun i => [rI IntKind.i64 ((partsM (consR L.length (rws L))).getD i [])]) = fun i => [rI IntKind.i64 ((partsM L).getD i [])], (↑(partsM (consR L.length (rws L))).length : Int) = (↑(partsM L).length : Int), p = p, L.length = L.length ∧ (rws L) = (rws L), Dec ((partsM L).all (fusR L)) false, (∀ (i : Nat), i < L.length → (rws L) i = (Con.ofR ((rws L) i)).rvs) ∧ okE (consR L.length (rws L)), L.length = L.length ∧ (rws L) = (rws L), (↑L.length : Int) = ↑L.length, p = p, L.length = L.length ∧ (rws L) = (rws L), Dec (L.all fusB) true, Dec (!shapeM p (consR L.length (rws L))) false, (∀ (i : Nat), i < L.length → (rws L) i = (Con.ofR ((rws L) i)).rvs) ∧ L.length ≤ (1000 : Nat)] (by kernel_rfl) ⟨?_, ?_, ?_, ?_, ?_, d1, ?_, ?_, ?_, ?_, ?_, h2, (dN k1), (?_ : (∀ (i : Nat), i < L.length → (rws L) i = (Con.ofR ((rws L) i)).rvs) ∧ L.length ≤ (1000 : Nat))⟩)
  all_goals first | (first | (with_reducible rfl) | exact ⟨rfl, rfl⟩ | exact ⟨fun _ _ => rfl, hn⟩ | exact ⟨fun _ _ => rfl, by rw [consR_ro]; exact hL.e⟩ | (rw [consR_ro]; first | done | rfl | exact ⟨rfl, rfl⟩) | (rw [fusT_eq, h1, h2, d1]; rfl))
theorem tfused_pure (p : Int) (L : List Con) (hn : L.length ≤ 1000) : PureC Tryz.prog [] 47 [.agg [.int .i64 p, roC L]] (.bool (fusM p L)) := by
  rw [← fus_eq]
  cases h1 : shapeM p L with
  | false => exact fused_1 p L hn h1
  | true =>
    cases h2 : L.all fusB with
    | false => exact fused_2 p L hn h1 h2
    | true => exact fused_3 p L hn (okL_sh h1 h2) h1 h2
end Go.Proofs.YtgdhgnhgmbkpdaaGreatDoor.S

namespace Go.Proofs.YtgdhgnhgmbkpdaaGreatDoor.S
open Go.QfSy Go.RowKit
noncomputable def entsRF : List OEnt := entsP ++ (entsQ ++ entsL)
theorem entsRF_ok : ∀ e ∈ entsRF, EntOk Tryz.prog e := by
  intro e he
  rcases List.mem_append.1 he with he | he
  · exact entsP_ok e he
  · rcases List.mem_append.1 he with he | he
    · exact entsQ_ok e he
    · exact entsL_ok e he
theorem rng_drop {n k : Nat} (h : k < n) : (List.range n).drop k = k :: (List.range n).drop (k + 1) := by
  rw [List.drop_eq_getElem_cons (by simpa using h)]; simp
theorem rngA_drop {n k : Nat} (h : k < n) (q : Nat → Bool) : ((List.range n).drop k).all q = (q k && ((List.range n).drop (k + 1)).all q) := by
  rw [rng_drop h]; rfl
theorem rngA_end {n k : Nat} (h : n ≤ k) (q : Nat → Bool) : ((List.range n).drop k).all q = true := by
  rw [List.drop_eq_nil_of_le (by simpa using h)]; rfl
theorem fusI_iff {L : List Con} {i : Nat} : fusI L i = true ↔ (0 ≤ (at_ L i).oddity ∧ (at_ L i).oddity ≤ 7) ∧ ((at_ L i).odd = false → (at_ L i).dim.tmod 2 = 0 ∧ (at_ L i).oddity = 0) ∧ ((at_ L i).odd = true → (partM L i).getD 0 0 = (i : Int) ∨ (at_ L i).oddity = 0) := by
  simp only [fusI, fusC, oddB, tmod2]
  cases (at_ L i).odd <;> simp
theorem fusI_no {L : List Con} {i : Nat} (h : ¬ ((0 ≤ (at_ L i).oddity ∧ (at_ L i).oddity ≤ 7) ∧ ((at_ L i).odd = false → (at_ L i).dim.tmod 2 = 0 ∧ (at_ L i).oddity = 0) ∧ ((at_ L i).odd = true → (partM L i).getD 0 0 = (i : Int) ∨ (at_ L i).oddity = 0))) : fusI L i = false := by
  cases hf : fusI L i with
  | false => rfl
  | true => exact absurd (fusI_iff.1 hf) h
theorem part_pos {L : List Con} {i : Nat} (h : i < L.length) (ho : (L.getD i Con.zero).odd = true) : 0 < (partM L (i : Int)).length := by
  have := (partM_odd h (show oddB L i = true from ho)).2
  exact List.length_pos_iff.2 (fun e => by rw [e] at this; simp at this)
noncomputable def r1Ann (p : Int) (L : List Con) : Ann := ⟨⟨[(1, .ptr 1000 0), (20, (roC L).av), (21, .vint .i64 L.length), (22, .int .i64 0)], loH p L, 1020⟩, some ((List.range L.length).all (fusI L)), fun d => match d with
  | true => (.exit 0, ⟨[(1, .ptr 1000 0)], loH p L, 1020⟩)
  | false => (.ret, ⟨[(2, .bool false)], [], 1020⟩)⟩
set_option maxHeartbeats 2000000 in
theorem r1_loop (p : Int) (L : List Con) (hL : okE L) : AnnOk Tryz.prog EV.ng (Nat.max 1 Tryz.f49.ntmps) (bodyAt Tryz.f49 [0, 1, 0, 1, 1]) (r1Ann p L) := by
  refine ann_of evOk (callF_ok evOk (orcOf_ok entsRF_ok) 8) none_ann (by kernel_rfl) (by kernel_rfl) (fun i : Nat => (fun (k : Nat) => (⟨[(1, .ptr 1000 0), (20, (roC L).av), (21, .vint .i64 L.length), (22, .vint .i64 (k : Int))], loH p L, 1020⟩ : St)) i) (fun i : Nat => (fun (k : Nat) => (L.length - k : Nat)) i) (fun (d : Bool) (i : Nat) => (fun (k : Nat) => (k ≤ L.length ∧ ((List.range L.length).drop k).all (fusI L) = d : Prop)) i) ?_ ?_
  · intro d hd
    exact ⟨(0), [L.length = L.length ∧ (rws L) = (rws L), (↑L.length : Int) = ↑L.length, (0 : Int) = (↑(0 : Nat) : Int), p = p, L.length = L.length ∧ (rws L) = (rws L)], by kernel_rfl, (by refine ⟨?_, ?_, ?_, ?_, (?_ : L.length = L.length ∧ (rws L) = (rws L))⟩ <;> (first | rfl | assumption | omega | simp_all)), (by exact ⟨Nat.zero_le _, hd⟩)⟩
  · rintro d hd k hI
    cases d
    · -- d = false
      obtain ⟨hk, hs⟩ := hI
      have hk : k ≤ L.length := hk
      have hl := hL.1
      have ek : IntKind.i64.wrap ((k : Int) + 1) = ((k + 1 : Nat) : Int) := by rw [w64 (by omega) (by omega)]; omega
      refine oe (decide ((↑k : Int) < ↑L.length)) (fun d1 => oe (decide ((L.getD k Con.zero).oddity < 0)) (fun d2 => ⟨[true, true], .inr ⟨[Dec (decide ((L.getD k Con.zero).oddity < 0)) true, (0 : Int) ≤ ↑k ∧ (↑k : Int) < ↑L.length, Dec (decide ((↑k : Int) < ↑L.length)) true], by kernel_rfl, ⟨d2, ?_, d1⟩, rfl⟩⟩) (fun d2 => oe (decide ((L.getD k Con.zero).oddity > 7)) (fun d3 => ⟨[true, false, true], .inr ⟨[Dec (decide ((L.getD k Con.zero).oddity > 7)) true, Dec (decide ((L.getD k Con.zero).oddity < 0)) false, (0 : Int) ≤ ↑k ∧ (↑k : Int) < ↑L.length, Dec (decide ((↑k : Int) < ↑L.length)) true], by kernel_rfl, ⟨d3, d2, ?_, d1⟩, rfl⟩⟩) (fun d3 => oe ((L.getD k Con.zero).odd) (fun d4 => oe ((partM (consR L.length (rws L)) (↑k : Int)).getD (Int.toNat (0 : Int)) (0 : Int) == ↑k) (fun d5 => ⟨[true, false, false, false, true, false], .inl ⟨(k + 1), [L.length = L.length ∧ (rws L) = (rws L), (↑L.length : Int) = ↑L.length, IntKind.i64.wrap ((↑k : Int) + 1) = (↑(k + (1 : Nat)) : Int), p = p, L.length = L.length ∧ (rws L) = (rws L), Dec ((partM (consR L.length (rws L)) (↑k : Int)).getD (Int.toNat (0 : Int)) (0 : Int) != (↑k : Int)) false, (0 : Int) ≤ 0 ∧ (0 : Int) < (↑(partM (consR L.length (rws L)) (↑k : Int)).length : Int), (∀ (i : Nat), i < L.length → (rws L) i = (Con.ofR ((rws L) i)).rvs) ∧ okE (consR L.length (rws L)), Dec (L.getD k Con.zero).odd true, Dec (!(L.getD k Con.zero).odd) false, Dec (decide ((L.getD k Con.zero).oddity > 7)) false, Dec (decide ((L.getD k Con.zero).oddity < 0)) false, (0 : Int) ≤ ↑k ∧ (↑k : Int) < ↑L.length, Dec (decide ((↑k : Int) < ↑L.length)) true], by kernel_rfl, ⟨?_, ?_, ?_, ?_, ?_, (dN d5), ?_, ?_, d4, (dN d4), d3, d2, ?_, d1⟩, MuG.out ?_, InG.out ?_⟩⟩) (fun d5 => oe ((L.getD k Con.zero).oddity == 0) (fun d6 => ⟨[true, false, false, false, true, true, false], .inl ⟨(k + 1), [L.length = L.length ∧ (rws L) = (rws L), (↑L.length : Int) = ↑L.length, IntKind.i64.wrap ((↑k : Int) + 1) = (↑(k + (1 : Nat)) : Int), p = p, L.length = L.length ∧ (rws L) = (rws L), Dec ((L.getD k Con.zero).oddity != (0 : Int)) false, Dec ((partM (consR L.length (rws L)) (↑k : Int)).getD (Int.toNat (0 : Int)) (0 : Int) != (↑k : Int)) true, (0 : Int) ≤ 0 ∧ (0 : Int) < (↑(partM (consR L.length (rws L)) (↑k : Int)).length : Int), (∀ (i : Nat), i < L.length → (rws L) i = (Con.ofR ((rws L) i)).rvs) ∧ okE (consR L.length (rws L)), Dec (L.getD k Con.zero).odd true, Dec (!(L.getD k Con.zero).odd) false, Dec (decide ((L.getD k Con.zero).oddity > 7)) false, Dec (decide ((L.getD k Con.zero).oddity < 0)) false, (0 : Int) ≤ ↑k ∧ (↑k : Int) < ↑L.length, Dec (decide ((↑k : Int) < ↑L.length)) true], by kernel_rfl, ⟨?_, ?_, ?_, ?_, ?_, (dN d6), (dN d5), ?_, ?_, d4, (dN d4), d3, d2, ?_, d1⟩, MuG.out ?_, InG.out ?_⟩⟩) (fun d6 => ⟨[true, false, false, false, true, true, true], .inr ⟨[Dec ((L.getD k Con.zero).oddity != (0 : Int)) true, Dec ((partM (consR L.length (rws L)) (↑k : Int)).getD (Int.toNat (0 : Int)) (0 : Int) != (↑k : Int)) true, (0 : Int) ≤ 0 ∧ (0 : Int) < (↑(partM (consR L.length (rws L)) (↑k : Int)).length : Int), (∀ (i : Nat), i < L.length → (rws L) i = (Con.ofR ((rws L) i)).rvs) ∧ okE (consR L.length (rws L)), Dec (L.getD k Con.zero).odd true, Dec (!(L.getD k Con.zero).odd) false, Dec (decide ((L.getD k Con.zero).oddity > 7)) false, Dec (decide ((L.getD k Con.zero).oddity < 0)) false, (0 : Int) ≤ ↑k ∧ (↑k : Int) < ↑L.length, Dec (decide ((↑k : Int) < ↑L.length)) true], by kernel_rfl, ⟨(dN d6), (dN d5), ?_, ?_, d4, (dN d4), d3, d2, ?_, d1⟩, rfl⟩⟩))) (fun d4 => oe ((L.getD k Con.zero).dim.tmod (2 : Int) == 0) (fun d5 => oe ((L.getD k Con.zero).oddity == 0) (fun d6 => ⟨[true, false, false, true, false, false, false], .inl ⟨(k + 1), [L.length = L.length ∧ (rws L) = (rws L), (↑L.length : Int) = ↑L.length, IntKind.i64.wrap ((↑k : Int) + 1) = (↑(k + (1 : Nat)) : Int), p = p, L.length = L.length ∧ (rws L) = (rws L), Dec (L.getD k Con.zero).odd false, Dec ((L.getD k Con.zero).oddity != (0 : Int)) false, Dec ((L.getD k Con.zero).dim.tmod (2 : Int) != (0 : Int)) false, (2 : Int) ≠ (0 : Int), Dec (!(L.getD k Con.zero).odd) true, Dec (decide ((L.getD k Con.zero).oddity > 7)) false, Dec (decide ((L.getD k Con.zero).oddity < 0)) false, (0 : Int) ≤ ↑k ∧ (↑k : Int) < ↑L.length, Dec (decide ((↑k : Int) < ↑L.length)) true], by kernel_rfl, ⟨?_, ?_, ?_, ?_, ?_, d4, (dN d6), (dN d5), ?_, (dN d4), d3, d2, ?_, d1⟩, MuG.out ?_, InG.out ?_⟩⟩) (fun d6 => ⟨[true, false, false, true, false, true], .inr ⟨[Dec ((L.getD k Con.zero).oddity != (0 : Int)) true, Dec ((L.getD k Con.zero).dim.tmod (2 : Int) != (0 : Int)) false, (2 : Int) ≠ (0 : Int), Dec (!(L.getD k Con.zero).odd) true, Dec (decide ((L.getD k Con.zero).oddity > 7)) false, Dec (decide ((L.getD k Con.zero).oddity < 0)) false, (0 : Int) ≤ ↑k ∧ (↑k : Int) < ↑L.length, Dec (decide ((↑k : Int) < ↑L.length)) true], by kernel_rfl, ⟨(dN d6), (dN d5), ?_, (dN d4), d3, d2, ?_, d1⟩, rfl⟩⟩)) (fun d5 => ⟨[true, false, false, true, true], .inr ⟨[Dec ((L.getD k Con.zero).dim.tmod (2 : Int) != (0 : Int)) true, (2 : Int) ≠ (0 : Int), Dec (!(L.getD k Con.zero).odd) true, Dec (decide ((L.getD k Con.zero).oddity > 7)) false, Dec (decide ((L.getD k Con.zero).oddity < 0)) false, (0 : Int) ≤ ↑k ∧ (↑k : Int) < ↑L.length, Dec (decide ((↑k : Int) < ↑L.length)) true], by kernel_rfl, ⟨(dN d5), ?_, (dN d4), d3, d2, ?_, d1⟩, rfl⟩⟩))))) (fun d1 => CtG.no ?_)
      all_goals first | (refine MuG.mk ?_; (simp only [decide_eq_true_eq] at *; show L.length - (k + 1) < L.length - k; omega)) | (refine InG.mk ?_; (simp only [decide_eq_true_eq, decide_eq_false_iff_not, consR_ro, Int.toNat_natCast, Int.toNat_zero, beq_iff_eq, beq_eq_false_iff_ne, ne_eq, gt_iff_lt] at *; rw [rngA_drop (by omega)] at hs; rw [show fusI L k = true from fusI_iff.2 (by simp only [at_]; refine ⟨?_, ?_, ?_⟩ <;> first | omega | (intro ho; simp_all; done) | (simp_all; done))] at hs; exact ⟨by omega, hs⟩)) | (refine CtG.mk ?_; (simp only [decide_eq_true_eq, decide_eq_false_iff_not, consR_ro, Int.toNat_natCast, Int.toNat_zero, beq_iff_eq, beq_eq_false_iff_ne, ne_eq, gt_iff_lt] at *; first | (rw [rngA_end (by omega)] at hs; cases hs; done) | (rw [rngA_drop (by omega)] at hs; rw [show fusI L k = false from fusI_no (by simp only [at_]; first | (rintro ⟨q1, q2, q3⟩; omega) | (rintro ⟨q1, q2, q3⟩; simp_all; done))] at hs; cases hs; done))) | (first | (with_reducible rfl) | exact ⟨rfl, rfl⟩ | (exact (by decide : (2 : Int) ≠ 0)) | exact ⟨fun _ _ => rfl, by rw [consR_ro]; exact hL⟩ | ((try simp only [ek, consR_ro, Int.toNat_natCast, Int.toNat_zero, decide_eq_true_eq, decide_eq_false_iff_not] at *) <;> first | omega | (have h0 := part_pos (L := L) (i := k) (by omega) (by assumption); omega)))
    · -- d = true
      obtain ⟨hk, hs⟩ := hI
      have hk : k ≤ L.length := hk
      have hl := hL.1
      have ek : IntKind.i64.wrap ((k : Int) + 1) = ((k + 1 : Nat) : Int) := by rw [w64 (by omega) (by omega)]; omega
      refine oe (decide ((↑k : Int) < (↑L.length : Int))) (fun d1 => oe (decide ((L.getD k Con.zero).oddity < (0 : Int))) (fun d2 => CtG.no ?_) (fun d2 => oe (decide ((L.getD k Con.zero).oddity > (7 : Int))) (fun d3 => CtG.no ?_) (fun d3 => oe ((L.getD k Con.zero).odd) (fun d4 => oe ((partM (consR L.length (rws L)) (↑k : Int)).getD (Int.toNat (0 : Int)) (0 : Int) == ↑k) (fun d5 => ⟨[true, false, false, false, true, false], .inl ⟨(k + 1), [L.length = L.length ∧ (rws L) = (rws L), (↑L.length : Int) = ↑L.length, IntKind.i64.wrap ((↑k : Int) + 1) = (↑(k + (1 : Nat)) : Int), p = p, L.length = L.length ∧ (rws L) = (rws L), Dec ((partM (consR L.length (rws L)) (↑k : Int)).getD (Int.toNat (0 : Int)) (0 : Int) != (↑k : Int)) false, (0 : Int) ≤ 0 ∧ (0 : Int) < (↑(partM (consR L.length (rws L)) (↑k : Int)).length : Int), (∀ (i : Nat), i < L.length → (rws L) i = (Con.ofR ((rws L) i)).rvs) ∧ okE (consR L.length (rws L)), Dec (L.getD k Con.zero).odd true, Dec (!(L.getD k Con.zero).odd) false, Dec (decide ((L.getD k Con.zero).oddity > 7)) false, Dec (decide ((L.getD k Con.zero).oddity < 0)) false, (0 : Int) ≤ ↑k ∧ (↑k : Int) < ↑L.length, Dec (decide ((↑k : Int) < ↑L.length)) true], by kernel_rfl, ⟨?_, ?_, ?_, ?_, ?_, (dN d5), ?_, ?_, d4, (dN d4), d3, d2, ?_, d1⟩, MuG.out ?_, InG.out ?_⟩⟩) (fun d5 => oe ((L.getD k Con.zero).oddity == 0) (fun d6 => ⟨[true, false, false, false, true, true, false], .inl ⟨(k + 1), [L.length = L.length ∧ (rws L) = (rws L), (↑L.length : Int) = ↑L.length, IntKind.i64.wrap ((↑k : Int) + 1) = (↑(k + (1 : Nat)) : Int), p = p, L.length = L.length ∧ (rws L) = (rws L), Dec ((L.getD k Con.zero).oddity != (0 : Int)) false, Dec ((partM (consR L.length (rws L)) (↑k : Int)).getD (Int.toNat (0 : Int)) (0 : Int) != (↑k : Int)) true, (0 : Int) ≤ 0 ∧ (0 : Int) < (↑(partM (consR L.length (rws L)) (↑k : Int)).length : Int), (∀ (i : Nat), i < L.length → (rws L) i = (Con.ofR ((rws L) i)).rvs) ∧ okE (consR L.length (rws L)), Dec (L.getD k Con.zero).odd true, Dec (!(L.getD k Con.zero).odd) false, Dec (decide ((L.getD k Con.zero).oddity > 7)) false, Dec (decide ((L.getD k Con.zero).oddity < 0)) false, (0 : Int) ≤ ↑k ∧ (↑k : Int) < ↑L.length, Dec (decide ((↑k : Int) < ↑L.length)) true], by kernel_rfl, ⟨?_, ?_, ?_, ?_, ?_, (dN d6), (dN d5), ?_, ?_, d4, (dN d4), d3, d2, ?_, d1⟩, MuG.out ?_, InG.out ?_⟩⟩) (fun d6 => CtG.no ?_))) (fun d4 => oe ((L.getD k Con.zero).dim.tmod (2 : Int) == 0) (fun d5 => oe ((L.getD k Con.zero).oddity == 0) (fun d6 => ⟨[true, false, false, true, false, false, false], .inl ⟨(k + 1), [L.length = L.length ∧ (rws L) = (rws L), (↑L.length : Int) = ↑L.length, IntKind.i64.wrap ((↑k : Int) + 1) = (↑(k + (1 : Nat)) : Int), p = p, L.length = L.length ∧ (rws L) = (rws L), Dec (L.getD k Con.zero).odd false, Dec ((L.getD k Con.zero).oddity != (0 : Int)) false, Dec ((L.getD k Con.zero).dim.tmod (2 : Int) != (0 : Int)) false, (2 : Int) ≠ (0 : Int), Dec (!(L.getD k Con.zero).odd) true, Dec (decide ((L.getD k Con.zero).oddity > 7)) false, Dec (decide ((L.getD k Con.zero).oddity < 0)) false, (0 : Int) ≤ ↑k ∧ (↑k : Int) < ↑L.length, Dec (decide ((↑k : Int) < ↑L.length)) true], by kernel_rfl, ⟨?_, ?_, ?_, ?_, ?_, d4, (dN d6), (dN d5), ?_, (dN d4), d3, d2, ?_, d1⟩, MuG.out ?_, InG.out ?_⟩⟩) (fun d6 => CtG.no ?_)) (fun d5 => CtG.no ?_))))) (fun d1 => ⟨[false], .inr ⟨[p = p, L.length = L.length ∧ (fun i => (L.getD i Con.zero).rvs) = fun i => (L.getD i Con.zero).rvs, Dec (decide ((↑k : Int) < (↑L.length : Int))) false], by kernel_rfl, ⟨?_, ?_, d1⟩, rfl⟩⟩)
      all_goals first | (refine MuG.mk ?_; (simp only [decide_eq_true_eq] at *; show L.length - (k + 1) < L.length - k; omega)) | (refine InG.mk ?_; (simp only [decide_eq_true_eq, decide_eq_false_iff_not, consR_ro, Int.toNat_natCast, Int.toNat_zero, beq_iff_eq, beq_eq_false_iff_ne, ne_eq, gt_iff_lt] at *; rw [rngA_drop (by omega)] at hs; rw [show fusI L k = true from fusI_iff.2 (by simp only [at_]; refine ⟨?_, ?_, ?_⟩ <;> first | omega | (intro ho; simp_all; done) | (simp_all; done))] at hs; exact ⟨by omega, hs⟩)) | (refine CtG.mk ?_; (simp only [decide_eq_true_eq, decide_eq_false_iff_not, consR_ro, Int.toNat_natCast, Int.toNat_zero, beq_iff_eq, beq_eq_false_iff_ne, ne_eq, gt_iff_lt] at *; first | (rw [rngA_end (by omega)] at hs; cases hs; done) | (rw [rngA_drop (by omega)] at hs; rw [show fusI L k = false from fusI_no (by simp only [at_]; first | (rintro ⟨q1, q2, q3⟩; omega) | (rintro ⟨q1, q2, q3⟩; simp_all; done))] at hs; cases hs; done))) | (first | (with_reducible rfl) | exact ⟨rfl, rfl⟩ | (exact (by decide : (2 : Int) ≠ 0)) | exact ⟨fun _ _ => rfl, by rw [consR_ro]; exact hL⟩ | ((try simp only [ek, consR_ro, Int.toNat_natCast, Int.toNat_zero, decide_eq_true_eq, decide_eq_false_iff_not] at *) <;> first | omega | (have h0 := part_pos (L := L) (i := k) (by omega) (by assumption); omega)))
noncomputable def r3T (P : List (List Int)) (j : Nat) : List (Nat × AV) := [(1, .ptr 1000 0), (71, (roR .i64 P).av), (72, .vint .i64 P.length), (73, .vint .i64 (j : Int)), (6, (rI .i64 (rowAt P j)).av)]
noncomputable def r3Ann (p : Int) (L : List Con) (P : List (List Int)) (j : Nat) : Ann := ⟨⟨r3T P j ++ [(7, .int .i64 0), (77, (rI .i64 (rowAt P j)).av), (78, .vint .i64 (rowAt P j).length), (79, .int .i64 0)], loH p L, 1020⟩, none, fun _ =>
  (.exit 4, ⟨r3T P j ++ [(7, .vint .i64 (dimR L (rowAt P j)))], loH p L, 1020⟩)⟩
theorem r3_loop (p : Int) (L : List Con) (P : List (List Int)) (j : Nat) (hL : okL L) (hr : inR L.length (rowAt P j)) (hn : (rowAt P j).length ≤ 1000) : AnnOk Tryz.prog EV.ng (Nat.max 1 Tryz.f49.ntmps) (bodyAt Tryz.f49 [0, 1, 0, 1, 1, 0, 0, 1, 1, 0, 0, 1, 0, 1, 1, 1]) (r3Ann p L P j) := by
  refine ann_of evOk (callF_ok evOk (noOrc_ok _ _) 8) none_ann (by kernel_rfl) (by kernel_rfl) (fun i : Nat × Int => (fun (t : Nat) (n : Int) => (⟨r3T P j ++ [(7, .vint .i64 n), (77, (rI .i64 (rowAt P j)).av), (78, .vint .i64 (rowAt P j).length), (79, .vint .i64 (t : Int))], loH p L, 1020⟩ : St)) i.1 i.2) (fun i : Nat × Int => (fun (t : Nat) (n : Int) => ((rowAt P j).length - t : Nat)) i.1 i.2) (fun (d : Bool) (i : Nat × Int) => (fun (t : Nat) (n : Int) => (t ≤ (rowAt P j).length ∧ n = dimR L ((rowAt P j).take t) : Prop)) i.1 i.2) ?_ ?_
  · intro d hd
    exact ⟨(0, 0), [P.length = P.length ∧ (fun i => [rI IntKind.i64 (P.getD i [])]) = fun i => [rI IntKind.i64 (P.getD i [])], (↑P.length : Int) = ↑P.length, (↑j : Int) = ↑j, (rowAt P j).length = (rowAt P j).length ∧ (fun j_1 => [RV.int IntKind.i64 ((rowAt P j).getD j_1 (0 : Int))]) = fun j_1 => [RV.int IntKind.i64 ((rowAt P j).getD j_1 (0 : Int))], (0 : Int) = 0, (rowAt P j).length = (rowAt P j).length ∧ (fun j_1 => [RV.int IntKind.i64 ((rowAt P j).getD j_1 (0 : Int))]) = fun j_1 => [RV.int IntKind.i64 ((rowAt P j).getD j_1 (0 : Int))], (↑(rowAt P j).length : Int) = (↑(rowAt P j).length : Int), (0 : Int) = (↑(0 : Nat) : Int), p = p, L.length = L.length ∧ (rws L) = (rws L)], by kernel_rfl, (by refine ⟨?_, ?_, ?_, ?_, ?_, ?_, ?_, ?_, ?_, (?_ : L.length = L.length ∧ (rws L) = (rws L))⟩ <;> (first | rfl | assumption | omega | simp_all)), (by exact ⟨Nat.zero_le _, rfl⟩)⟩
  · rintro d hd ⟨t, n⟩ hI
    cases d
    · -- d = false
      exact Bool.noConfusion (show false = true from hd)
    · -- d = true
      obtain ⟨ht, hs⟩ := hI
      have ht : t ≤ (rowAt P j).length := ht
      have hs : n = dimR L ((rowAt P j).take t) := hs
      have ek : IntKind.i64.wrap ((t : Int) + 1) = ((t + 1 : Nat) : Int) := by rw [w64 (by omega) (by omega)]; omega
      have hb := dimR_b hL (l := (rowAt P j).take t) (fun x hx => hr x (List.mem_of_mem_take hx))
      have hb2 : (((rowAt P j).take t).length : Int) ≤ 1000 := by simp only [List.length_take]; omega
      refine oe (decide ((↑t : Int) < (↑(rowAt P j).length : Int))) (fun d1 => ⟨[true], .inl ⟨(t + 1, n + (at_ L ((rowAt P j).getD t 0).toNat).dim), [P.length = P.length ∧ (fun i => [rI IntKind.i64 (P.getD i [])]) = fun i => [rI IntKind.i64 (P.getD i [])], (↑P.length : Int) = ↑P.length, (↑j : Int) = ↑j, (rowAt P j).length = (rowAt P j).length ∧ (fun j_1 => [RV.int IntKind.i64 ((rowAt P j).getD j_1 (0 : Int))]) = fun j_1 => [RV.int IntKind.i64 ((rowAt P j).getD j_1 (0 : Int))], IntKind.i64.wrap (n + (L.getD ((rowAt P j).getD t (0 : Int)).toNat Con.zero).dim) = n + (at_ L ((rowAt P j).getD t (0 : Int)).toNat).dim, (rowAt P j).length = (rowAt P j).length ∧ (fun j_1 => [RV.int IntKind.i64 ((rowAt P j).getD j_1 (0 : Int))]) = fun j_1 => [RV.int IntKind.i64 ((rowAt P j).getD j_1 (0 : Int))], (↑(rowAt P j).length : Int) = (↑(rowAt P j).length : Int), IntKind.i64.wrap ((↑t : Int) + 1) = (↑(t + (1 : Nat)) : Int), p = p, L.length = L.length ∧ (rws L) = (rws L), (0 : Int) ≤ (rowAt P j).getD t (0 : Int) ∧ (rowAt P j).getD t (0 : Int) < ↑L.length, (0 : Int) ≤ ↑t ∧ (↑t : Int) < (↑(rowAt P j).length : Int), Dec (decide ((↑t : Int) < (↑(rowAt P j).length : Int))) true], by kernel_rfl, ⟨?_, ?_, ?_, ?_, ?_, ?_, ?_, ?_, ?_, ?_, ?_, ?_, d1⟩, MuG.out ?_, InG.out ?_⟩⟩) (fun d1 => ⟨[false], .inr ⟨[P.length = P.length ∧ (fun i => [rI IntKind.i64 (P.getD i [])]) = fun i => [rI IntKind.i64 (P.getD i [])], (↑P.length : Int) = ↑P.length, (↑j : Int) = ↑j, (rowAt P j).length = (rowAt P j).length ∧ (fun j_1 => [RV.int IntKind.i64 ((rowAt P j).getD j_1 (0 : Int))]) = fun j_1 => [RV.int IntKind.i64 ((rowAt P j).getD j_1 (0 : Int))], n = dimR L (rowAt P j), p = p, L.length = L.length ∧ (rws L) = (rws L), Dec (decide ((↑t : Int) < (↑(rowAt P j).length : Int))) false], by kernel_rfl, ⟨?_, ?_, ?_, ?_, ?_, ?_, ?_, d1⟩, rfl⟩⟩)
      all_goals first | (refine MuG.mk ?_; (simp only [decide_eq_true_eq] at *; show (rowAt P j).length - (t + 1) < (rowAt P j).length - t; omega)) | (refine InG.mk ?_; (simp only [decide_eq_true_eq, decide_eq_false_iff_not, Int.toNat_natCast, gt_iff_lt] at *; exact ⟨by omega, by rw [dimR_take (by omega), hs]⟩)) | (refine CtG.mk ?_; (simp_all)) | (first | (with_reducible rfl) | exact ⟨rfl, rfl⟩ | ((try simp only [ek, Int.toNat_natCast, decide_eq_true_eq, decide_eq_false_iff_not, gt_iff_lt] at *) <;> first | omega | (have h1 := hr.at (t := t) (by omega); omega) | (have h2 := dim_b (t := t) hL hr (by omega); simp only [at_] at h2 ⊢; exact w64 (by omega) (by omega)) | (rw [hs, List.take_of_length_le (by omega)]; done)))
noncomputable def r2Ann (p : Int) (L : List Con) (P : List (List Int)) : Ann := ⟨⟨[(1, .ptr 1000 0), (71, (roR .i64 P).av), (72, .vint .i64 P.length), (73, .int .i64 0)], loH p L, 1020⟩, some (P.all (parR L)), fun d => match d with
  | true => (.exit 2, ⟨[], [], 1020⟩)
  | false => (.ret, ⟨[(2, .bool false)], [], 1020⟩)⟩
theorem r2_loop (p : Int) (L : List Con) (P : List (List Int)) (hL : okL L) (hP : ∀ l ∈ P, l ≠ [] ∧ inR L.length l ∧ l.length ≤ L.length) (hm : P.length ≤ 1000) : AnnOk Tryz.prog EV.ng (Nat.max 1 Tryz.f49.ntmps) (bodyAt Tryz.f49 [0, 1, 0, 1, 1, 1]) (r2Ann p L P) := by
  refine ann_ofI evOk (callF_ok evOk (noOrc_ok _ _) 8) (by kernel_rfl) (by kernel_rfl) (fun i : Nat => (fun (j : Nat) => (⟨[(1, .ptr 1000 0), (71, (roR .i64 P).av), (72, .vint .i64 P.length), (73, .vint .i64 (j : Int))], loH p L, 1020⟩ : St)) i) (fun i : Nat => (fun (j : Nat) => (P.length - j : Nat)) i) (fun (d : Bool) (i : Nat) => (fun (j : Nat) => (j ≤ P.length ∧ (P.drop j).all (parR L) = d : Prop)) i) (fun i : Nat => (fun (j : Nat) => ([([0, 1, 0, 1, 1, 0, 0, 1, 1, 0, 0, 1, 0, 1, 1, 1], r3Ann p L P j)] : List (List Nat × Ann))) i) ?_ ?_ ?_
  · rintro d hd j hI
    exact one_ann (r3_loop p L P j hL (by rcases Nat.lt_or_ge j P.length with h | h; exact (hP _ (rowAt_mem h)).2.1; intro x hx; simp [rowAt, h] at hx) (by have := hL.1; rcases Nat.lt_or_ge j P.length with h | h; have := (hP _ (rowAt_mem h)).2.2; omega; simp [rowAt, h]))
  · intro d hd
    exact ⟨(0), [P.length = P.length ∧ (fun i => [rI IntKind.i64 (P.getD i [])]) = fun i => [rI IntKind.i64 (P.getD i [])], (↑P.length : Int) = ↑P.length, (0 : Int) = (↑(0 : Nat) : Int), p = p, L.length = L.length ∧ (rws L) = (rws L)], by kernel_rfl, (by refine ⟨?_, ?_, ?_, ?_, (?_ : L.length = L.length ∧ (rws L) = (rws L))⟩ <;> (first | rfl | assumption | omega | simp_all)), (by exact ⟨Nat.zero_le _, hd⟩)⟩
  · rintro d hd j hI
    cases d
    · -- d = false
      obtain ⟨ht, hs⟩ := hI
      have ht : j ≤ P.length := ht
      have hl1 := hL.1
      have ek : IntKind.i64.wrap ((j : Int) + 1) = ((j + 1 : Nat) : Int) := by rw [w64 (by omega) (by omega)]; omega
      refine oe (decide ((↑j : Int) < ↑P.length)) (fun d1 => oe ((IntKind.i64.wrap ((L.getD ((rowAt P j).getD (Int.toNat (0 : Int)) (0 : Int)).toNat Con.zero).oddity - dimR L (rowAt P j))).tmod (2 : Int) == 0) (fun d2 => ⟨[true, false], .inl ⟨(j + 1), [P.length = P.length ∧ (fun i => [rI IntKind.i64 (P.getD i [])]) = fun i => [rI IntKind.i64 (P.getD i [])], (↑P.length : Int) = ↑P.length, IntKind.i64.wrap ((↑j : Int) + 1) = (↑(j + (1 : Nat)) : Int), p = p, L.length = L.length ∧ (rws L) = (rws L), Dec ((IntKind.i64.wrap ((L.getD ((rowAt P j).getD (Int.toNat (0 : Int)) (0 : Int)).toNat Con.zero).oddity - dimR L (rowAt P j))).tmod (2 : Int) != (0 : Int)) false, (2 : Int) ≠ (0 : Int), (0 : Int) ≤ (rowAt P j).getD (Int.toNat (0 : Int)) (0 : Int) ∧ (rowAt P j).getD (Int.toNat (0 : Int)) (0 : Int) < ↑L.length, (0 : Int) ≤ 0 ∧ (0 : Int) < (↑(rowAt P j).length : Int), P.length = P.length ∧ (fun i => [rI IntKind.i64 (P.getD i [])]) = fun i => [rI IntKind.i64 (P.getD i [])], (↑P.length : Int) = ↑P.length, (↑j : Int) = ↑j, (P.getD j []).length = (rowAt P j).length ∧ (fun j_1 => [RV.int IntKind.i64 ((P.getD j []).getD j_1 (0 : Int))]) = fun j_1 => [RV.int IntKind.i64 ((rowAt P j).getD j_1 (0 : Int))], (P.getD j []).length = (rowAt P j).length ∧ (fun j_1 => [RV.int IntKind.i64 ((P.getD j []).getD j_1 (0 : Int))]) = fun j_1 => [RV.int IntKind.i64 ((rowAt P j).getD j_1 (0 : Int))], (↑(P.getD j []).length : Int) = (↑(rowAt P j).length : Int), p = p, L.length = L.length ∧ (rws L) = (rws L), (0 : Int) ≤ ↑j ∧ (↑j : Int) < ↑P.length, Dec (decide ((↑j : Int) < ↑P.length)) true], by kernel_rfl, ⟨?_, ?_, ?_, ?_, ?_, (dN d2), ?_, ?_, ?_, ?_, ?_, ?_, ?_, ?_, ?_, ?_, ?_, ?_, d1⟩, MuG.out ?_, InG.out ?_⟩⟩) (fun d2 => ⟨[true, true], .inr ⟨[Dec ((IntKind.i64.wrap ((L.getD ((rowAt P j).getD (Int.toNat (0 : Int)) (0 : Int)).toNat Con.zero).oddity - dimR L (rowAt P j))).tmod (2 : Int) != (0 : Int)) true, (2 : Int) ≠ (0 : Int), (0 : Int) ≤ (rowAt P j).getD (Int.toNat (0 : Int)) (0 : Int) ∧ (rowAt P j).getD (Int.toNat (0 : Int)) (0 : Int) < ↑L.length, (0 : Int) ≤ 0 ∧ (0 : Int) < (↑(rowAt P j).length : Int), P.length = P.length ∧ (fun i => [rI IntKind.i64 (P.getD i [])]) = fun i => [rI IntKind.i64 (P.getD i [])], (↑P.length : Int) = ↑P.length, (↑j : Int) = ↑j, (P.getD j []).length = (rowAt P j).length ∧ (fun j_1 => [RV.int IntKind.i64 ((P.getD j []).getD j_1 (0 : Int))]) = fun j_1 => [RV.int IntKind.i64 ((rowAt P j).getD j_1 (0 : Int))], (P.getD j []).length = (rowAt P j).length ∧ (fun j_1 => [RV.int IntKind.i64 ((P.getD j []).getD j_1 (0 : Int))]) = fun j_1 => [RV.int IntKind.i64 ((rowAt P j).getD j_1 (0 : Int))], (↑(P.getD j []).length : Int) = (↑(rowAt P j).length : Int), p = p, L.length = L.length ∧ (rws L) = (rws L), (0 : Int) ≤ ↑j ∧ (↑j : Int) < ↑P.length, Dec (decide ((↑j : Int) < ↑P.length)) true], by kernel_rfl, ⟨(dN d2), ?_, ?_, ?_, ?_, ?_, ?_, ?_, ?_, ?_, ?_, ?_, ?_, d1⟩, rfl⟩⟩)) (fun d1 => CtG.no ?_)
      all_goals first | (refine MuG.mk ?_; (simp only [decide_eq_true_eq] at *; show P.length - (j + 1) < P.length - j; omega)) | (refine InG.mk ?_; (simp only [decide_eq_true_eq, Int.toNat_natCast, Int.toNat_zero] at *; have h0 := hP _ (rowAt_mem (P := P) (t := j) (by omega)); rw [allP_drop (by omega), ← par_w hL h0.1 h0.2.1 (by omega)] at hs; refine ⟨by omega, ?_⟩; simp only [at_] at hs; rw [d2] at hs; exact hs)) | (refine CtG.mk ?_; (simp only [decide_eq_true_eq, decide_eq_false_iff_not, Int.toNat_natCast, Int.toNat_zero] at *; first | (rw [List.drop_eq_nil_of_le (by omega)] at hs; cases hs; done) | (have h0 := hP _ (rowAt_mem (P := P) (t := j) (by omega)); rw [allP_drop (by omega), ← par_w hL h0.1 h0.2.1 (by omega)] at hs; simp only [at_] at hs; rw [d2] at hs; cases hs; done))) | (first | (with_reducible rfl) | exact ⟨rfl, rfl⟩ | (exact (by decide : (2 : Int) ≠ 0)) | ((try simp only [ek, Int.toNat_natCast, Int.toNat_zero, decide_eq_true_eq, decide_eq_false_iff_not] at *) <;> first | omega | (have h0 := hP _ (rowAt_mem (P := P) (t := j) (by omega)); have h1 : 0 < (P.getD j []).length := List.length_pos_iff.2 h0.1; have h2 : 0 ≤ (P.getD j []).getD 0 0 ∧ (P.getD j []).getD 0 0 < (L.length : Int) := h0.2.1.at (t := 0) h1; have h3 : 0 < (rowAt P j).length := h1; have h4 : 0 ≤ (rowAt P j).getD 0 0 ∧ (rowAt P j).getD 0 0 < (L.length : Int) := h2; omega)))
    · -- d = true
      obtain ⟨ht, hs⟩ := hI
      have ht : j ≤ P.length := ht
      have hl1 := hL.1
      have ek : IntKind.i64.wrap ((j : Int) + 1) = ((j + 1 : Nat) : Int) := by rw [w64 (by omega) (by omega)]; omega
      refine oe (decide ((↑j : Int) < ↑P.length)) (fun d1 => oe ((IntKind.i64.wrap ((L.getD ((rowAt P j).getD (Int.toNat (0 : Int)) (0 : Int)).toNat Con.zero).oddity - dimR L (rowAt P j))).tmod (2 : Int) == 0) (fun d2 => ⟨[true, false], .inl ⟨(j + 1), [P.length = P.length ∧ (fun i => [rI IntKind.i64 (P.getD i [])]) = fun i => [rI IntKind.i64 (P.getD i [])], (↑P.length : Int) = ↑P.length, IntKind.i64.wrap ((↑j : Int) + 1) = (↑(j + (1 : Nat)) : Int), p = p, L.length = L.length ∧ (rws L) = (rws L), Dec ((IntKind.i64.wrap ((L.getD ((rowAt P j).getD (Int.toNat (0 : Int)) (0 : Int)).toNat Con.zero).oddity - dimR L (rowAt P j))).tmod (2 : Int) != (0 : Int)) false, (2 : Int) ≠ (0 : Int), (0 : Int) ≤ (rowAt P j).getD (Int.toNat (0 : Int)) (0 : Int) ∧ (rowAt P j).getD (Int.toNat (0 : Int)) (0 : Int) < ↑L.length, (0 : Int) ≤ 0 ∧ (0 : Int) < (↑(rowAt P j).length : Int), P.length = P.length ∧ (fun i => [rI IntKind.i64 (P.getD i [])]) = fun i => [rI IntKind.i64 (P.getD i [])], (↑P.length : Int) = ↑P.length, (↑j : Int) = ↑j, (P.getD j []).length = (rowAt P j).length ∧ (fun j_1 => [RV.int IntKind.i64 ((P.getD j []).getD j_1 (0 : Int))]) = fun j_1 => [RV.int IntKind.i64 ((rowAt P j).getD j_1 (0 : Int))], (P.getD j []).length = (rowAt P j).length ∧ (fun j_1 => [RV.int IntKind.i64 ((P.getD j []).getD j_1 (0 : Int))]) = fun j_1 => [RV.int IntKind.i64 ((rowAt P j).getD j_1 (0 : Int))], (↑(P.getD j []).length : Int) = (↑(rowAt P j).length : Int), p = p, L.length = L.length ∧ (rws L) = (rws L), (0 : Int) ≤ ↑j ∧ (↑j : Int) < ↑P.length, Dec (decide ((↑j : Int) < ↑P.length)) true], by kernel_rfl, ⟨?_, ?_, ?_, ?_, ?_, (dN d2), ?_, ?_, ?_, ?_, ?_, ?_, ?_, ?_, ?_, ?_, ?_, ?_, d1⟩, MuG.out ?_, InG.out ?_⟩⟩) (fun d2 => CtG.no ?_)) (fun d1 => ⟨[false], .inr ⟨[Dec (decide ((↑j : Int) < (↑P.length : Int))) false], by kernel_rfl, d1, rfl⟩⟩)
      all_goals first | (refine MuG.mk ?_; (simp only [decide_eq_true_eq] at *; show P.length - (j + 1) < P.length - j; omega)) | (refine InG.mk ?_; (simp only [decide_eq_true_eq, Int.toNat_natCast, Int.toNat_zero] at *; have h0 := hP _ (rowAt_mem (P := P) (t := j) (by omega)); rw [allP_drop (by omega), ← par_w hL h0.1 h0.2.1 (by omega)] at hs; refine ⟨by omega, ?_⟩; simp only [at_] at hs; rw [d2] at hs; exact hs)) | (refine CtG.mk ?_; (simp only [decide_eq_true_eq, decide_eq_false_iff_not, Int.toNat_natCast, Int.toNat_zero] at *; first | (rw [List.drop_eq_nil_of_le (by omega)] at hs; cases hs; done) | (have h0 := hP _ (rowAt_mem (P := P) (t := j) (by omega)); rw [allP_drop (by omega), ← par_w hL h0.1 h0.2.1 (by omega)] at hs; simp only [at_] at hs; rw [d2] at hs; cases hs; done))) | (first | (with_reducible rfl) | exact ⟨rfl, rfl⟩ | (exact (by decide : (2 : Int) ≠ 0)) | ((try simp only [ek, Int.toNat_natCast, Int.toNat_zero, decide_eq_true_eq, decide_eq_false_iff_not] at *) <;> first | omega | (have h0 := hP _ (rowAt_mem (P := P) (t := j) (by omega)); have h1 : 0 < (P.getD j []).length := List.length_pos_iff.2 h0.1; have h2 : 0 ≤ (P.getD j []).getD 0 0 ∧ (P.getD j []).getD 0 0 < (L.length : Int) := h0.2.1.at (t := 0) h1; have h3 : 0 < (rowAt P j).length := h1; have h4 : 0 ≤ (rowAt P j).getD 0 0 ∧ (rowAt P j).getD 0 0 < (L.length : Int) := h2; omega)))
theorem ord_at {L : List Con} (h : orderV L = true) : L.length ≤ 8 ∧ ∀ c ∈ L, (0 ≤ c.exp ∧ c.exp ≤ 60) ∧ (1 ≤ c.dim ∧ c.dim ≤ 8) ∧ (c.sign = 1 ∨ c.sign = -1) := by
  rw [order_sh] at h
  simp only [Bool.and_eq_true] at h
  obtain ⟨⟨h1, h2⟩, h3⟩ := h
  obtain ⟨i1, i2, i3⟩ := sh_at (by decide) (by decide) h2
  have hne : L ≠ [] := by intro e; rw [e] at h1; cases h1
  have hd : dimS L ≤ 8 := by rcases i2 with i2 | i2; omega; exact absurd i2 hne
  refine ⟨by omega, fun c hc => ?_⟩
  have h4 := i1 c hc
  exact ⟨⟨h4.1, h4.2.1⟩, h4.2.2, of_decide_eq_true (List.all_eq_true.1 h3 c hc)⟩
theorem okE_ord {L : List Con} (h : orderV L = true) : okE L := by
  obtain ⟨h1, h2⟩ := ord_at h
  exact ⟨by omega, fun c hc => ⟨(h2 c hc).1.1, by have := (h2 c hc).1.2; omega⟩⟩
theorem okL_ord {L : List Con} (h : orderV L = true) (hf : (List.range L.length).all (fusI L) = true) : okL L := by
  obtain ⟨h1, h2⟩ := ord_at h
  refine ⟨by omega, fun c hc => ?_⟩
  obtain ⟨k, hk, rfl⟩ := List.getElem_of_mem hc
  have h3 := fusI_iff.1 (List.all_eq_true.1 hf k (by simpa using hk))
  rw [show at_ L k = L[k] by simp [at_, hk]] at h3
  have := h2 _ hc
  exact ⟨⟨this.1.1, by omega⟩, ⟨this.2.1.1, by omega⟩, this.2.2, h3.1⟩
theorem rfused_0 (p : Int) (L : List Con) (hn : L.length ≤ 1000) (h1 : orderV L = false) : PureC Tryz.prog [] 49 [.agg [.int .i64 p, roC L]] (.bool (fusM p L)) := by
  have k1 : orderV (consR L.length fun i => (L.getD i Con.zero).rvs) = false := (by rw [consR_ro]; exact h1)
  have rr := fun (tp : List Bool) (ms : List Prop) h hm => pure_run evOk (callF_ok evOk (orcOf_ok entsRF_ok) 8) Tryz.func49 (A := [.agg [.int .i64 p, roC L]]) rfl none_ann rfl rfl evNg (tabs := []) (R := .bool (fusM p L)) (tp := tp) (ms := ms) h hm
  refine oe (p == 2) (fun d1 => rr [false, true] [false = fusM p L, Dec (!orderV (consR L.length (rws L))) true, (∀ (i : Nat), i < L.length → (rws L) i = (Con.ofR ((rws L) i)).rvs) ∧ L.length ≤ (1000 : Nat), Dec (p != (2 : Int)) false] (by kernel_rfl) ⟨?_, (dN k1), ?_, (dN d1)⟩) (fun d1 => rr [true] [false = fusM p L, Dec (p != (2 : Int)) true] (by kernel_rfl) ⟨?_, (dN d1)⟩)
  all_goals first | (first | (with_reducible rfl) | exact ⟨rfl, rfl⟩ | exact ⟨fun _ _ => rfl, hn⟩ | (unfold fusM; rw [h1]; simp; done))
theorem rfused_1 (p : Int) (L : List Con) (hn : L.length ≤ 1000) (h1 : orderV L = true) (h2 : (List.range L.length).all (fusI L) = false) : PureC Tryz.prog [] 49 [.agg [.int .i64 p, roC L]] (.bool (fusM p L)) := by
  have k1 : orderV (consR L.length fun i => (L.getD i Con.zero).rvs) = true := (by rw [consR_ro]; exact h1)
  have rr := fun (tp : List Bool) (ms : List Prop) h hm => pure_run evOk (callF_ok evOk (orcOf_ok entsRF_ok) 8) Tryz.func49 (A := [.agg [.int .i64 p, roC L]]) (N := Nat.max 1 Tryz.f49.ntmps) rfl (one_ann (r1_loop p L (okE_ord h1))) rfl rfl evNg (tabs := []) (R := .bool (fusM p L)) (tp := tp) (ms := ms) h hm
  refine oe (p == 2) (fun d1 => rr [false, false, false] [false = fusM p L, L.length = L.length ∧ (rws L) = (rws L), (↑L.length : Int) = ↑L.length, p = p, L.length = L.length ∧ (rws L) = (rws L), Dec ((List.range L.length).all (fusI L)) false, Dec (!orderV (consR L.length (rws L))) false, (∀ (i : Nat), i < L.length → (rws L) i = (Con.ofR ((rws L) i)).rvs) ∧ L.length ≤ (1000 : Nat), Dec (p != (2 : Int)) false] (by kernel_rfl) ⟨?_, ?_, ?_, ?_, ?_, h2, (dN k1), ?_, (dN d1)⟩) (fun d1 => rr [true] [false = fusM p L, Dec (p != (2 : Int)) true] (by kernel_rfl) ⟨?_, (dN d1)⟩)
  all_goals first | (first | (with_reducible rfl) | exact ⟨rfl, rfl⟩ | exact ⟨fun _ _ => rfl, hn⟩ | (unfold fusM; rw [h2]; simp; done))
theorem rfused_2 (p : Int) (L : List Con) (hn : L.length ≤ 1000) (h1 : orderV L = true) (h2 : (List.range L.length).all (fusI L) = true) : PureC Tryz.prog [] 49 [.agg [.int .i64 p, roC L]] (.bool (fusM p L)) := by
  have k1 : orderV (consR L.length fun i => (L.getD i Con.zero).rvs) = true := (by rw [consR_ro]; exact h1)
  have rr := fun (tp : List Bool) (ms : List Prop) h hm => pure_run evOk (callF_ok evOk (orcOf_ok entsRF_ok) 8) Tryz.func49 (A := [.agg [.int .i64 p, roC L]]) (N := Nat.max 1 Tryz.f49.ntmps) rfl (cons_ann (r1_loop p L (okE_ord h1)) (one_ann (r2_loop p L (partsM L) (okL_ord h1 h2) parts_rows (Nat.le_trans parts_len hn)))) rfl rfl evNg (tabs := []) (R := .bool (fusM p L)) (tp := tp) (ms := ms) h hm
  refine oe (p == 2) (fun d1 => oe ((partsM L).all (parR L)) (fun d2 => rr [false, false, true, true] [true = fusM p L, (partsM (consR L.length (rws L))).length = (partsM L).length ∧ (fun i => [rI IntKind.i64 ((partsM (consR L.length (rws L))).getD i [])]) = fun i => [rI IntKind.i64 ((partsM L).getD i [])], (↑(partsM (consR L.length (rws L))).length : Int) = (↑(partsM L).length : Int), p = p, L.length = L.length ∧ (rws L) = (rws L), Dec ((partsM L).all (parR L)) true, (∀ (i : Nat), i < L.length → (rws L) i = (Con.ofR ((rws L) i)).rvs) ∧ okE (consR L.length (rws L)), L.length = L.length ∧ (rws L) = (rws L), (↑L.length : Int) = ↑L.length, p = p, L.length = L.length ∧ (rws L) = (rws L), Dec ((List.range L.length).all (fusI L)) true, Dec (!orderV (consR L.length (rws L))) false, (∀ (i : Nat), i < L.length → (rws L) i = (Con.ofR ((rws L) i)).rvs) ∧ L.length ≤ (1000 : Nat), Dec (p != (2 : Int)) false] (by kernel_rfl) ⟨?_, ?_, ?_, ?_, ?_, d2, ?_, ?_, ?_, ?_, ?_, h2, (dN k1), ?_, (dN d1)⟩) (fun d2 => rr [false, false, true, false] [false = fusM p L, (partsM (consR L.length (rws L))).length = (partsM L).length ∧ (fun i => [rI IntKind.i64 ((partsM (consR L.length (rws L))).getD i [])]) = fun i => [rI IntKind.i64 ((partsM L).getD i [])], (↑(partsM (consR L.length (rws L))).length : Int) = (↑(partsM L).length : Int), p = p, L.length = L.length ∧ (rws L) = (rws L), Dec ((partsM L).all (parR L)) false, (∀ (i : Nat), i < L.length → (rws L) i = (Con.ofR ((rws L) i)).rvs) ∧ okE (consR L.length (rws L)), L.length = L.length ∧ (rws L) = (rws L), (↑L.length : Int) = ↑L.length, p = p, L.length = L.length ∧ (rws L) = (rws L), Dec ((List.range L.length).all (fusI L)) true, Dec (!orderV (consR L.length (rws L))) false, (∀ (i : Nat), i < L.length → (rws L) i = (Con.ofR ((rws L) i)).rvs) ∧ L.length ≤ (1000 : Nat), Dec (p != (2 : Int)) false] (by kernel_rfl) ⟨?_, ?_, ?_, ?_, ?_, d2, ?_, ?_, ?_, ?_, ?_, h2, (dN k1), ?_, (dN d1)⟩)) (fun d1 => rr [true] [false = fusM p L, Dec (p != (2 : Int)) true] (by kernel_rfl) ⟨?_, (dN d1)⟩)
  all_goals first | (first | (with_reducible rfl) | exact ⟨rfl, rfl⟩ | exact ⟨fun _ _ => rfl, hn⟩ | exact ⟨fun _ _ => rfl, by rw [consR_ro]; exact okE_ord h1⟩ | (rw [consR_ro]; first | done | rfl | exact ⟨rfl, rfl⟩) | (unfold fusM; rw [h1, h2]; simp_all; done))
theorem rfused_pure (p : Int) (L : List Con) (hn : L.length ≤ 1000) : PureC Tryz.prog [] 49 [.agg [.int .i64 p, roC L]] (.bool (fusM p L)) := by
  cases h1 : orderV L with
  | false => exact rfused_0 p L hn h1
  | true =>
    cases h2 : (List.range L.length).all (fusI L) with
    | false => exact rfused_1 p L hn h1 h2
    | true => exact rfused_2 p L hn h1 h2
end Go.Proofs.YtgdhgnhgmbkpdaaGreatDoor.S

namespace Go.Proofs.YtgdhgnhgmbkpdaaGreatDoor.S
open Go.QfSy Go.RowKit
end Go.Proofs.YtgdhgnhgmbkpdaaGreatDoor.S

namespace Go.Proofs.YtgdhgnhgmbkpdaaGreatDoor.S
open Go.QfSy Go.RowKit
noncomputable def shV (p : Int) (L : List Con) : Bool := val2M p L || fusM p L
noncomputable def entsT3 : List OEnt := [
  ⟨46, [], fun A => match A with
    | [.agg [.int .i64 p, .sl n 5 row]] => some (.bool (val2M p (consR n row)), [(∀ i, i < n → row i = (Con.ofR (row i)).rvs) ∧ n ≤ 1000])
    | _ => none⟩,
  ⟨47, [], fun A => match A with
    | [.agg [.int .i64 p, .sl n 5 row]] => some (.bool (fusM p (consR n row)), [(∀ i, i < n → row i = (Con.ofR (row i)).rvs) ∧ n ≤ 1000])
    | _ => none⟩,
  ⟨149, [], fun A => match A with
    | [.agg [.int .i64 p, .sl n 5 row], .int .i64 a] => some (.bool (linkM (consR n row) a.toNat), [(∀ i, i < n → row i = (Con.ofR (row i)).rvs) ∧ okL (consR n row) ∧ 1 ≤ a ∧ a < (n : Int)])
    | _ => none⟩]
theorem entsT3_ok : ∀ e ∈ entsT3, EntOk Tryz.prog e := by
  intro e he
  simp only [entsT3, List.mem_cons, List.not_mem_nil, or_false] at he
  rcases he with rfl | rfl | rfl
  all_goals
    intro A R ms h hm
    simp only at h
    split at h
    all_goals first | (cases h; done) | cases h
  · obtain ⟨h1, h2⟩ := all_one hm
    exact PureC.imp (tvalid_pure _ _ (by rw [consR_len]; exact h2)) (.cons (.agg (.cons .same (.cons (.con h1) .nil))) .nil)
  · obtain ⟨h1, h2⟩ := all_one hm
    exact PureC.imp (tfused_pure _ _ (by rw [consR_len]; exact h2)) (.cons (.agg (.cons .same (.cons (.con h1) .nil))) .nil)
  · obtain ⟨h1, h3, h4, h5⟩ := all_one hm
    rename_i p _ _ a
    have e : ((a.toNat : Nat) : Int) = a := by omega
    have := tlinked_pure p _ a.toNat h3 (by omega) (by rw [consR_len]; omega)
    rw [e] at this
    exact PureC.imp this (.cons (.agg (.cons .same (.cons (.con h1) .nil))) (.cons .same .nil))
noncomputable def entsR3 : List OEnt := [
  ⟨48, [], fun A => match A with
    | [.agg [.int .i64 p, .sl n 5 row]] => some (.bool (val2M p (consR n row)), [(∀ i, i < n → row i = (Con.ofR (row i)).rvs) ∧ n ≤ 1000])
    | _ => none⟩,
  ⟨49, [], fun A => match A with
    | [.agg [.int .i64 p, .sl n 5 row]] => some (.bool (fusM p (consR n row)), [(∀ i, i < n → row i = (Con.ofR (row i)).rvs) ∧ n ≤ 1000])
    | _ => none⟩,
  ⟨109, [], fun A => match A with
    | [.sl n 5 row, .int .i64 a] => some (.bool (linkM (consR n row) a.toNat), [(∀ i, i < n → row i = (Con.ofR (row i)).rvs) ∧ okL (consR n row) ∧ 1 ≤ a ∧ a < (n : Int)])
    | _ => none⟩]
theorem entsR3_ok : ∀ e ∈ entsR3, EntOk Tryz.prog e := by
  intro e he
  simp only [entsR3, List.mem_cons, List.not_mem_nil, or_false] at he
  rcases he with rfl | rfl | rfl
  all_goals
    intro A R ms h hm
    simp only at h
    split at h
    all_goals first | (cases h; done) | cases h
  · obtain ⟨h1, h2⟩ := all_one hm
    exact PureC.imp (val2_pure _ _ (by rw [consR_len]; exact h2)) (.cons (.agg (.cons .same (.cons (.con h1) .nil))) .nil)
  · obtain ⟨h1, h2⟩ := all_one hm
    exact PureC.imp (rfused_pure _ _ (by rw [consR_len]; exact h2)) (.cons (.agg (.cons .same (.cons (.con h1) .nil))) .nil)
  · obtain ⟨h1, h3, h4, h5⟩ := all_one hm
    rename_i a
    have e : ((a.toNat : Nat) : Int) = a := by omega
    have := linked_pure _ a.toNat h3 (by omega) (by rw [consR_len]; omega)
    rw [e] at this
    exact PureC.imp this (.cons (.con h1) (.cons .same .nil))
end Go.Proofs.YtgdhgnhgmbkpdaaGreatDoor.S

namespace Go.Proofs.YtgdhgnhgmbkpdaaGreatDoor.S
open Go.QfSy Go.RowKit
noncomputable def entsFT : List OEnt := entsS ++ entsT3
theorem entsFT_ok : ∀ e ∈ entsFT, EntOk Tryz.prog e := by
  intro e he
  unfold entsFT at he
  rcases List.mem_append.1 he with h | h
  · exact entsS_ok e h
  · exact entsT3_ok e h
def odS (c : Con) : ByteArray := bif c.odd then digS c.oddity else iiS
def cTxt2 (c : Con) : ByteArray := cTxt c ++ ⟨#[95]⟩ ++ odS c
def txB2 (h : ByteArray) : List Con → ByteArray
  | [] => h
  | c :: l => txB2 (h ++ cTxt2 c) l
def txT (L : List Con) : ByteArray := txB2 ⟨#[50, 58]⟩ L
def okD (c : Con) : Prop := (0 ≤ c.exp ∧ c.exp ≤ 60 ∧ 1 ≤ c.dim ∧ c.dim ≤ 8) ∧ 0 ≤ c.oddity ∧ c.oddity ≤ 7
theorem ord_bounds : ∀ {L : List Con} {last s : Int}, 0 ≤ s → s ≤ 8 → ordL L last s = true → (∀ c ∈ L, 0 ≤ c.exp ∧ c.exp ≤ 60 ∧ 1 ≤ c.dim ∧ c.dim ≤ 8) ∧ (L.length : Int) ≤ 8 - s
  | [], last, s, h0, h8, h => ⟨fun c hc => (nomatch hc), by simp; omega⟩
  | c :: l, last, s, h0, h8, h => by
    simp only [ordL, Bool.and_eq_true, okO, decide_eq_true_eq] at h
    obtain ⟨⟨a1, a2, a3, a4, a5, a6⟩, h⟩ := h
    obtain ⟨b1, b2⟩ := ord_bounds (by omega) (by omega) h
    refine ⟨fun x hx => ?_, by simp only [List.length_cons]; omega⟩
    rcases List.mem_cons.1 hx with rfl | hx
    · exact ⟨a1, a2, a5, by omega⟩
    · exact b1 x hx
theorem sh_bounds {p : Int} {L : List Con} (h : shV p L = true) : p = 2 ∧ (∀ c ∈ L, okD c) ∧ L.length ≤ 8 := by
  have key : p = 2 ∧ orderV L = true ∧ ∀ c ∈ L, 0 ≤ c.oddity ∧ c.oddity ≤ 7 := by
    unfold shV at h
    rcases Bool.or_eq_true_iff.1 h with h | h
    · simp only [val2M, Bool.and_eq_true, beq_iff_eq] at h
      refine ⟨h.1, h.2.1, fun c hc => ?_⟩
      have := List.all_eq_true.1 h.2.2 c hc
      exact (of_decide_eq_true this).2.2.2.1
    · simp only [fusM, Bool.and_eq_true, beq_iff_eq] at h
      refine ⟨h.1, h.2.1, fun c hc => ?_⟩
      obtain ⟨i, hi, rfl⟩ := List.mem_iff_getElem.1 hc
      have := List.all_eq_true.1 h.2.2.1 i (by simpa using hi)
      simp only [fusI, fusC, Bool.and_eq_true, decide_eq_true_eq] at this
      have e : at_ L i = L[i] := by simp [at_, hi]
      rw [e] at this
      exact this.1.1
  obtain ⟨k1, k2, k3⟩ := key
  simp only [orderV, Bool.and_eq_true] at k2
  obtain ⟨b1, b2⟩ := ord_bounds (by omega) (by omega) k2.1
  exact ⟨k1, fun c hc => ⟨b1 c hc, k3 c hc⟩, by omega⟩
theorem txB2_take (H : ByteArray) {L : List Con} {k : Nat} (hk : k < L.length) : txB2 H (L.take (k + 1)) = txB2 H (L.take k) ++ cTxt2 (L.getD k Con.zero) := by
  induction L generalizing H k with
  | nil => simp at hk
  | cons c l ih =>
    cases k with
    | zero => rfl
    | succ k => exact ih (H ++ cTxt2 c) (by simpa using hk)
theorem ii_size : (ByteArray.mk #[73, 73]).size = 2 := rfl
theorem odS_size {c : Con} (h : 0 ≤ c.oddity ∧ c.oddity ≤ 7) : (odS c).size ≤ 4 := by
  unfold odS
  cases c.odd with
  | true => exact digS_size h.1 (by omega)
  | false => show iiS.size ≤ 4; exact Nat.le_of_ble_eq_true rfl
theorem cTxt2_size {c : Con} (h : okD c) : (cTxt2 c).size ≤ 18 := by
  have h1 := cTxt_size h.1
  have h2 := odS_size h.2
  unfold cTxt2
  simp only [ByteArray.size_append, one_size]
  omega
theorem txB2_size {L : List Con} (hL : ∀ c ∈ L, okD c) : ∀ (H : ByteArray), (txB2 H L).size ≤ H.size + 18 * L.length := by
  induction L with
  | nil => intro H; exact Nat.le_refl _
  | cons c l ih =>
    intro H
    have h1 := ih (fun x hx => hL x (List.mem_cons_of_mem _ hx)) (H ++ cTxt2 c)
    have h2 := cTxt2_size (hL c List.mem_cons_self)
    rw [ByteArray.size_append] at h1
    show (txB2 (H ++ cTxt2 c) l).size ≤ _
    simp only [List.length_cons]
    omega
theorem txB2_ge : ∀ (L : List Con) (H : ByteArray), H.size ≤ (txB2 H L).size
  | [], H => Nat.le_refl _
  | c :: l, H => by
    have := txB2_ge l (H ++ cTxt2 c)
    rw [ByteArray.size_append] at this
    show _ ≤ (txB2 (H ++ cTxt2 c) l).size
    omega
theorem cTxt2_mo {c : Con} (h : (c.sign == -1) = true) (ho : c.odd = true) : cTxt2 c = ⟨#[32]⟩ ++ digS c.exp ++ ⟨#[94]⟩ ++ ⟨#[45]⟩ ++ digS c.dim ++ ⟨#[95]⟩ ++ digS c.oddity := by unfold cTxt2 odS; rw [cTxt_m h, ho]; rfl
theorem cTxt2_me {c : Con} (h : (c.sign == -1) = true) (ho : c.odd = false) : cTxt2 c = ⟨#[32]⟩ ++ digS c.exp ++ ⟨#[94]⟩ ++ ⟨#[45]⟩ ++ digS c.dim ++ ⟨#[95]⟩ ++ ⟨#[73, 73]⟩ := by unfold cTxt2 odS; rw [cTxt_m h, ho]; rfl
theorem cTxt2_po {c : Con} (h : (c.sign == -1) = false) (ho : c.odd = true) : cTxt2 c = ⟨#[32]⟩ ++ digS c.exp ++ ⟨#[94]⟩ ++ ⟨#[43]⟩ ++ digS c.dim ++ ⟨#[95]⟩ ++ digS c.oddity := by unfold cTxt2 odS; rw [cTxt_p h, ho]; rfl
theorem cTxt2_pe {c : Con} (h : (c.sign == -1) = false) (ho : c.odd = false) : cTxt2 c = ⟨#[32]⟩ ++ digS c.exp ++ ⟨#[94]⟩ ++ ⟨#[43]⟩ ++ digS c.dim ++ ⟨#[95]⟩ ++ ⟨#[73, 73]⟩ := by unfold cTxt2 odS; rw [cTxt_p h, ho]; rfl
noncomputable def ftAnn (L : List Con) (H : ByteArray) : Ann := ⟨⟨[(2, .str ⟨#[]⟩), (3, .int .i64 0), (4, .ptr 1001 0), (19, (roC L).av), (20, .vint .i64 L.length), (21, .int .i64 0)], bldH 1002 H, 1100⟩, none, fun _ => (.exit 0, ⟨[(4, .ptr 1001 0)], bldH 1100 (txB2 H L), 1101⟩)⟩
theorem ft_loop (L : List Con) (H : ByteArray) (hL : ∀ c ∈ L, okD c) (hn : L.length ≤ 8) (hH : H.size ≤ 100) : AnnOk Tryz.prog EV.ng (Nat.max 1 Tryz.f20.ntmps) (bodyAt Tryz.f20 [0, 1, 0, 1, 1, 1, 1]) (ftAnn L H) := by
  refine ann_of evOk (callF_ok evOk (orcOf_ok entsFT_ok) 8) none_ann (by kernel_rfl) (by kernel_rfl) (fun i : Nat => (fun (k : Nat) => (⟨[(2, .str ⟨#[]⟩), (3, .int .i64 0), (4, .ptr 1001 0), (19, (roC L).av), (20, .vint .i64 L.length), (21, .vint .i64 (k : Int))], bldH 1100 (txB2 H (L.take k)), 1101⟩ : St)) i) (fun i : Nat => (fun (k : Nat) => (L.length - k : Nat)) i) (fun (d : Bool) (i : Nat) => (fun (k : Nat) => (k ≤ L.length : Prop)) i) ?_ ?_
  · intro d hd
    exact ⟨(0), [L.length = L.length ∧ (rws L) = (rws L), (↑L.length : Int) = ↑L.length, (0 : Int) = (↑(0 : Nat) : Int), H.size = (txB2 H (List.take (0 : Nat) L)).size, bytesI H = bytesI (txB2 H (List.take (0 : Nat) L))], by kernel_rfl, (by refine ⟨?_, ?_, ?_, ?_, (?_ : bytesI H = bytesI (txB2 H (List.take (0 : Nat) L)))⟩ <;> (first | (with_reducible rfl) | exact ⟨rfl, rfl⟩ | rfl)), (by exact Nat.zero_le _)⟩
  · rintro d hd k hI
    cases d
    · -- d = false
      have hT := txB2_size (L := L.take k) (fun c hc => hL c (List.mem_of_mem_take hc)) H
      have hTl : (L.take k).length ≤ 8 := by rw [List.length_take]; omega
      have hz : (txB2 H (L.take k)).size ≤ 300 := by omega
      refine oe (decide ((↑k : Int) < ↑L.length)) (fun d1 => oe ((L.getD k Con.zero).sign == -1) (fun d2 => oe ((L.getD k Con.zero).odd) (fun d3 => ⟨[true, true, true], .inl ⟨(k + 1), [L.length = L.length ∧ (rws L) = (rws L), (↑L.length : Int) = ↑L.length, IntKind.i64.wrap ((↑k : Int) + 1) = (↑(k + (1 : Nat)) : Int), (txB2 H (List.take k L)).size + (ByteArray.mk #[(32 : UInt8)] ++ digS (L.getD k Con.zero).exp ++ ByteArray.mk #[(94 : UInt8)] ++ ByteArray.mk #[(45 : UInt8)] ++ digS (L.getD k Con.zero).dim ++ ByteArray.mk #[(95 : UInt8)] ++ digS (L.getD k Con.zero).oddity).size = (txB2 H (List.take (k + (1 : Nat)) L)).size, bytesI (txB2 H (List.take k L)) ++ bytesI (ByteArray.mk #[(32 : UInt8)] ++ digS (L.getD k Con.zero).exp ++ ByteArray.mk #[(94 : UInt8)] ++ ByteArray.mk #[(45 : UInt8)] ++ digS (L.getD k Con.zero).dim ++ ByteArray.mk #[(95 : UInt8)] ++ digS (L.getD k Con.zero).oddity) = bytesI (txB2 H (List.take (k + (1 : Nat)) L)), (View.ints IntKind.u8 (bytesI (txB2 H (List.take k L)))).num = (txB2 H (List.take k L)).size ∧ (txB2 H (List.take k L)).size + (ByteArray.mk #[(32 : UInt8)] ++ digS (L.getD k Con.zero).exp ++ ByteArray.mk #[(94 : UInt8)] ++ ByteArray.mk #[(45 : UInt8)] ++ digS (L.getD k Con.zero).dim ++ ByteArray.mk #[(95 : UInt8)] ++ digS (L.getD k Con.zero).oddity).size ≤ (1000000 : Nat), (ByteArray.mk #[(32 : UInt8)] ++ digS (L.getD k Con.zero).exp ++ ByteArray.mk #[(94 : UInt8)] ++ ByteArray.mk #[(45 : UInt8)] ++ digS (L.getD k Con.zero).dim ++ ByteArray.mk #[(95 : UInt8)]).size + (digS (L.getD k Con.zero).oddity).size ≤ (1000000 : Nat), (ByteArray.mk #[(32 : UInt8)] ++ digS (L.getD k Con.zero).exp ++ ByteArray.mk #[(94 : UInt8)] ++ ByteArray.mk #[(45 : UInt8)] ++ digS (L.getD k Con.zero).dim).size + (ByteArray.mk #[(95 : UInt8)]).size ≤ (1000000 : Nat), (ByteArray.mk #[(32 : UInt8)] ++ digS (L.getD k Con.zero).exp ++ ByteArray.mk #[(94 : UInt8)] ++ ByteArray.mk #[(45 : UInt8)]).size + (digS (L.getD k Con.zero).dim).size ≤ (1000000 : Nat), (0 : Int) ≤ (L.getD k Con.zero).dim ∧ (L.getD k Con.zero).dim < 100, (L.getD k Con.zero).dim = (L.getD k Con.zero).dim, (ByteArray.mk #[(32 : UInt8)] ++ digS (L.getD k Con.zero).exp ++ ByteArray.mk #[(94 : UInt8)]).size + (ByteArray.mk #[(45 : UInt8)]).size ≤ (1000000 : Nat), (ByteArray.mk #[(32 : UInt8)] ++ digS (L.getD k Con.zero).exp).size + (ByteArray.mk #[(94 : UInt8)]).size ≤ (1000000 : Nat), (ByteArray.mk #[(32 : UInt8)]).size + (digS (L.getD k Con.zero).exp).size ≤ (1000000 : Nat), (0 : Int) ≤ (L.getD k Con.zero).exp ∧ (L.getD k Con.zero).exp < 100, (0 : Int) ≤ (L.getD k Con.zero).oddity ∧ (L.getD k Con.zero).oddity < 100, Dec (L.getD k Con.zero).odd true, Dec ((L.getD k Con.zero).sign == -1) true, (0 : Int) ≤ ↑k ∧ (↑k : Int) < ↑L.length, Dec (decide ((↑k : Int) < ↑L.length)) true], by kernel_rfl, ⟨?_, ?_, ?_, ?_, ?_, ?_, ?_, ?_, ?_, ?_, ?_, ?_, ?_, ?_, ?_, ?_, d3, d2, ?_, d1⟩, MuG.out ?_, InG.out ?_⟩⟩) (fun d3 => ⟨[true, true, false], .inl ⟨(k + 1), [L.length = L.length ∧ (rws L) = (rws L), (↑L.length : Int) = ↑L.length, IntKind.i64.wrap ((↑k : Int) + 1) = (↑(k + (1 : Nat)) : Int), (txB2 H (List.take k L)).size + (ByteArray.mk #[(32 : UInt8)] ++ digS (L.getD k Con.zero).exp ++ ByteArray.mk #[(94 : UInt8)] ++ ByteArray.mk #[(45 : UInt8)] ++ digS (L.getD k Con.zero).dim ++ ByteArray.mk #[(95 : UInt8)] ++ ByteArray.mk #[(73 : UInt8), (73 : UInt8)]).size = (txB2 H (List.take (k + (1 : Nat)) L)).size, bytesI (txB2 H (List.take k L)) ++ bytesI (ByteArray.mk #[(32 : UInt8)] ++ digS (L.getD k Con.zero).exp ++ ByteArray.mk #[(94 : UInt8)] ++ ByteArray.mk #[(45 : UInt8)] ++ digS (L.getD k Con.zero).dim ++ ByteArray.mk #[(95 : UInt8)] ++ ByteArray.mk #[(73 : UInt8), (73 : UInt8)]) = bytesI (txB2 H (List.take (k + (1 : Nat)) L)), (View.ints IntKind.u8 (bytesI (txB2 H (List.take k L)))).num = (txB2 H (List.take k L)).size ∧ (txB2 H (List.take k L)).size + (ByteArray.mk #[(32 : UInt8)] ++ digS (L.getD k Con.zero).exp ++ ByteArray.mk #[(94 : UInt8)] ++ ByteArray.mk #[(45 : UInt8)] ++ digS (L.getD k Con.zero).dim ++ ByteArray.mk #[(95 : UInt8)] ++ ByteArray.mk #[(73 : UInt8), (73 : UInt8)]).size ≤ (1000000 : Nat), (ByteArray.mk #[(32 : UInt8)] ++ digS (L.getD k Con.zero).exp ++ ByteArray.mk #[(94 : UInt8)] ++ ByteArray.mk #[(45 : UInt8)] ++ digS (L.getD k Con.zero).dim ++ ByteArray.mk #[(95 : UInt8)]).size + (ByteArray.mk #[(73 : UInt8), (73 : UInt8)]).size ≤ (1000000 : Nat), (ByteArray.mk #[(32 : UInt8)] ++ digS (L.getD k Con.zero).exp ++ ByteArray.mk #[(94 : UInt8)] ++ ByteArray.mk #[(45 : UInt8)] ++ digS (L.getD k Con.zero).dim).size + (ByteArray.mk #[(95 : UInt8)]).size ≤ (1000000 : Nat), (ByteArray.mk #[(32 : UInt8)] ++ digS (L.getD k Con.zero).exp ++ ByteArray.mk #[(94 : UInt8)] ++ ByteArray.mk #[(45 : UInt8)]).size + (digS (L.getD k Con.zero).dim).size ≤ (1000000 : Nat), (0 : Int) ≤ (L.getD k Con.zero).dim ∧ (L.getD k Con.zero).dim < 100, (L.getD k Con.zero).dim = (L.getD k Con.zero).dim, (ByteArray.mk #[(32 : UInt8)] ++ digS (L.getD k Con.zero).exp ++ ByteArray.mk #[(94 : UInt8)]).size + (ByteArray.mk #[(45 : UInt8)]).size ≤ (1000000 : Nat), (ByteArray.mk #[(32 : UInt8)] ++ digS (L.getD k Con.zero).exp).size + (ByteArray.mk #[(94 : UInt8)]).size ≤ (1000000 : Nat), (ByteArray.mk #[(32 : UInt8)]).size + (digS (L.getD k Con.zero).exp).size ≤ (1000000 : Nat), (0 : Int) ≤ (L.getD k Con.zero).exp ∧ (L.getD k Con.zero).exp < 100, Dec (L.getD k Con.zero).odd false, Dec ((L.getD k Con.zero).sign == -1) true, (0 : Int) ≤ ↑k ∧ (↑k : Int) < ↑L.length, Dec (decide ((↑k : Int) < ↑L.length)) true], by kernel_rfl, ⟨?_, ?_, ?_, ?_, ?_, ?_, ?_, ?_, ?_, ?_, ?_, ?_, ?_, ?_, ?_, d3, d2, ?_, d1⟩, MuG.out ?_, InG.out ?_⟩⟩)) (fun d2 => oe ((L.getD k Con.zero).odd) (fun d3 => ⟨[true, false, true], .inl ⟨(k + 1), [L.length = L.length ∧ (rws L) = (rws L), (↑L.length : Int) = ↑L.length, IntKind.i64.wrap ((↑k : Int) + 1) = (↑(k + (1 : Nat)) : Int), (txB2 H (List.take k L)).size + (ByteArray.mk #[(32 : UInt8)] ++ digS (L.getD k Con.zero).exp ++ ByteArray.mk #[(94 : UInt8)] ++ ByteArray.mk #[(43 : UInt8)] ++ digS (L.getD k Con.zero).dim ++ ByteArray.mk #[(95 : UInt8)] ++ digS (L.getD k Con.zero).oddity).size = (txB2 H (List.take (k + (1 : Nat)) L)).size, bytesI (txB2 H (List.take k L)) ++ bytesI (ByteArray.mk #[(32 : UInt8)] ++ digS (L.getD k Con.zero).exp ++ ByteArray.mk #[(94 : UInt8)] ++ ByteArray.mk #[(43 : UInt8)] ++ digS (L.getD k Con.zero).dim ++ ByteArray.mk #[(95 : UInt8)] ++ digS (L.getD k Con.zero).oddity) = bytesI (txB2 H (List.take (k + (1 : Nat)) L)), (View.ints IntKind.u8 (bytesI (txB2 H (List.take k L)))).num = (txB2 H (List.take k L)).size ∧ (txB2 H (List.take k L)).size + (ByteArray.mk #[(32 : UInt8)] ++ digS (L.getD k Con.zero).exp ++ ByteArray.mk #[(94 : UInt8)] ++ ByteArray.mk #[(43 : UInt8)] ++ digS (L.getD k Con.zero).dim ++ ByteArray.mk #[(95 : UInt8)] ++ digS (L.getD k Con.zero).oddity).size ≤ (1000000 : Nat), (ByteArray.mk #[(32 : UInt8)] ++ digS (L.getD k Con.zero).exp ++ ByteArray.mk #[(94 : UInt8)] ++ ByteArray.mk #[(43 : UInt8)] ++ digS (L.getD k Con.zero).dim ++ ByteArray.mk #[(95 : UInt8)]).size + (digS (L.getD k Con.zero).oddity).size ≤ (1000000 : Nat), (ByteArray.mk #[(32 : UInt8)] ++ digS (L.getD k Con.zero).exp ++ ByteArray.mk #[(94 : UInt8)] ++ ByteArray.mk #[(43 : UInt8)] ++ digS (L.getD k Con.zero).dim).size + (ByteArray.mk #[(95 : UInt8)]).size ≤ (1000000 : Nat), (ByteArray.mk #[(32 : UInt8)] ++ digS (L.getD k Con.zero).exp ++ ByteArray.mk #[(94 : UInt8)] ++ ByteArray.mk #[(43 : UInt8)]).size + (digS (L.getD k Con.zero).dim).size ≤ (1000000 : Nat), (0 : Int) ≤ (L.getD k Con.zero).dim ∧ (L.getD k Con.zero).dim < 100, (L.getD k Con.zero).dim = (L.getD k Con.zero).dim, (ByteArray.mk #[(32 : UInt8)] ++ digS (L.getD k Con.zero).exp ++ ByteArray.mk #[(94 : UInt8)]).size + (ByteArray.mk #[(43 : UInt8)]).size ≤ (1000000 : Nat), (ByteArray.mk #[(32 : UInt8)] ++ digS (L.getD k Con.zero).exp).size + (ByteArray.mk #[(94 : UInt8)]).size ≤ (1000000 : Nat), (ByteArray.mk #[(32 : UInt8)]).size + (digS (L.getD k Con.zero).exp).size ≤ (1000000 : Nat), (0 : Int) ≤ (L.getD k Con.zero).exp ∧ (L.getD k Con.zero).exp < 100, (0 : Int) ≤ (L.getD k Con.zero).oddity ∧ (L.getD k Con.zero).oddity < 100, Dec (L.getD k Con.zero).odd true, Dec ((L.getD k Con.zero).sign == -1) false, (0 : Int) ≤ ↑k ∧ (↑k : Int) < ↑L.length, Dec (decide ((↑k : Int) < ↑L.length)) true], by kernel_rfl, ⟨?_, ?_, ?_, ?_, ?_, ?_, ?_, ?_, ?_, ?_, ?_, ?_, ?_, ?_, ?_, ?_, d3, d2, ?_, d1⟩, MuG.out ?_, InG.out ?_⟩⟩) (fun d3 => ⟨[true, false, false], .inl ⟨(k + 1), [L.length = L.length ∧ (rws L) = (rws L), (↑L.length : Int) = ↑L.length, IntKind.i64.wrap ((↑k : Int) + 1) = (↑(k + (1 : Nat)) : Int), (txB2 H (List.take k L)).size + (ByteArray.mk #[(32 : UInt8)] ++ digS (L.getD k Con.zero).exp ++ ByteArray.mk #[(94 : UInt8)] ++ ByteArray.mk #[(43 : UInt8)] ++ digS (L.getD k Con.zero).dim ++ ByteArray.mk #[(95 : UInt8)] ++ ByteArray.mk #[(73 : UInt8), (73 : UInt8)]).size = (txB2 H (List.take (k + (1 : Nat)) L)).size, bytesI (txB2 H (List.take k L)) ++ bytesI (ByteArray.mk #[(32 : UInt8)] ++ digS (L.getD k Con.zero).exp ++ ByteArray.mk #[(94 : UInt8)] ++ ByteArray.mk #[(43 : UInt8)] ++ digS (L.getD k Con.zero).dim ++ ByteArray.mk #[(95 : UInt8)] ++ ByteArray.mk #[(73 : UInt8), (73 : UInt8)]) = bytesI (txB2 H (List.take (k + (1 : Nat)) L)), (View.ints IntKind.u8 (bytesI (txB2 H (List.take k L)))).num = (txB2 H (List.take k L)).size ∧ (txB2 H (List.take k L)).size + (ByteArray.mk #[(32 : UInt8)] ++ digS (L.getD k Con.zero).exp ++ ByteArray.mk #[(94 : UInt8)] ++ ByteArray.mk #[(43 : UInt8)] ++ digS (L.getD k Con.zero).dim ++ ByteArray.mk #[(95 : UInt8)] ++ ByteArray.mk #[(73 : UInt8), (73 : UInt8)]).size ≤ (1000000 : Nat), (ByteArray.mk #[(32 : UInt8)] ++ digS (L.getD k Con.zero).exp ++ ByteArray.mk #[(94 : UInt8)] ++ ByteArray.mk #[(43 : UInt8)] ++ digS (L.getD k Con.zero).dim ++ ByteArray.mk #[(95 : UInt8)]).size + (ByteArray.mk #[(73 : UInt8), (73 : UInt8)]).size ≤ (1000000 : Nat), (ByteArray.mk #[(32 : UInt8)] ++ digS (L.getD k Con.zero).exp ++ ByteArray.mk #[(94 : UInt8)] ++ ByteArray.mk #[(43 : UInt8)] ++ digS (L.getD k Con.zero).dim).size + (ByteArray.mk #[(95 : UInt8)]).size ≤ (1000000 : Nat), (ByteArray.mk #[(32 : UInt8)] ++ digS (L.getD k Con.zero).exp ++ ByteArray.mk #[(94 : UInt8)] ++ ByteArray.mk #[(43 : UInt8)]).size + (digS (L.getD k Con.zero).dim).size ≤ (1000000 : Nat), (0 : Int) ≤ (L.getD k Con.zero).dim ∧ (L.getD k Con.zero).dim < 100, (L.getD k Con.zero).dim = (L.getD k Con.zero).dim, (ByteArray.mk #[(32 : UInt8)] ++ digS (L.getD k Con.zero).exp ++ ByteArray.mk #[(94 : UInt8)]).size + (ByteArray.mk #[(43 : UInt8)]).size ≤ (1000000 : Nat), (ByteArray.mk #[(32 : UInt8)] ++ digS (L.getD k Con.zero).exp).size + (ByteArray.mk #[(94 : UInt8)]).size ≤ (1000000 : Nat), (ByteArray.mk #[(32 : UInt8)]).size + (digS (L.getD k Con.zero).exp).size ≤ (1000000 : Nat), (0 : Int) ≤ (L.getD k Con.zero).exp ∧ (L.getD k Con.zero).exp < 100, Dec (L.getD k Con.zero).odd false, Dec ((L.getD k Con.zero).sign == -1) false, (0 : Int) ≤ ↑k ∧ (↑k : Int) < ↑L.length, Dec (decide ((↑k : Int) < ↑L.length)) true], by kernel_rfl, ⟨?_, ?_, ?_, ?_, ?_, ?_, ?_, ?_, ?_, ?_, ?_, ?_, ?_, ?_, ?_, d3, d2, ?_, d1⟩, MuG.out ?_, InG.out ?_⟩⟩))) (fun d1 => ⟨[false], .inr ⟨[(txB2 H (List.take k L)).size = (txB2 H L).size, bytesI (txB2 H (List.take k L)) = bytesI (txB2 H L), Dec (decide ((↑k : Int) < (↑L.length : Int))) false], by kernel_rfl, ⟨?_, ?_, d1⟩, rfl⟩⟩)
      all_goals first | (refine MuG.mk ?_; (simp only [decide_eq_true_eq] at *; show L.length - (k + 1) < L.length - k; omega)) | (refine InG.mk ?_; (simp only [decide_eq_true_eq] at *; show k + 1 ≤ L.length; omega)) | (refine CtG.mk ?_; (exact (5 : Nat))) | (first | (with_reducible rfl) | exact ⟨rfl, rfl⟩ | (simp only [decide_eq_true_eq, decide_eq_false_iff_not] at d1; first | omega | (rw [List.take_of_length_le (by omega)]; done) | (rw [w64 (by omega) (by omega)]; omega) | (have hk : k < L.length := (by omega); have hc := hL _ (getD_mem hk); obtain ⟨hc, ho⟩ := hc; have h1 := digS_size (n := (L.getD k Con.zero).exp) (by omega) (by omega); have h2 := digS_size (n := (L.getD k Con.zero).dim) (by omega) (by omega); have h3 := digS_size (n := (L.getD k Con.zero).oddity) (by omega) (by omega); first | omega | (simp only [ByteArray.size_append, one_size, ii_size]; omega) | (rw [txB2_take H hk, ← cTxt2_mo d2 d3, ByteArray.size_append]; done) | (rw [txB2_take H hk, ← cTxt2_mo d2 d3, bytesI_app]; done) | (rw [txB2_take H hk, ← cTxt2_me d2 d3, ByteArray.size_append]; done) | (rw [txB2_take H hk, ← cTxt2_me d2 d3, bytesI_app]; done) | (rw [txB2_take H hk, ← cTxt2_po d2 d3, ByteArray.size_append]; done) | (rw [txB2_take H hk, ← cTxt2_po d2 d3, bytesI_app]; done) | (rw [txB2_take H hk, ← cTxt2_pe d2 d3, ByteArray.size_append]; done) | (rw [txB2_take H hk, ← cTxt2_pe d2 d3, bytesI_app]; done) | (refine ⟨bytesI_len _, ?_⟩; simp only [ByteArray.size_append, one_size, ii_size]; omega))))
    · -- d = true
      have hT := txB2_size (L := L.take k) (fun c hc => hL c (List.mem_of_mem_take hc)) H
      have hTl : (L.take k).length ≤ 8 := by rw [List.length_take]; omega
      have hz : (txB2 H (L.take k)).size ≤ 300 := by omega
      refine oe (decide ((↑k : Int) < ↑L.length)) (fun d1 => oe ((L.getD k Con.zero).sign == -1) (fun d2 => oe ((L.getD k Con.zero).odd) (fun d3 => ⟨[true, true, true], .inl ⟨(k + 1), [L.length = L.length ∧ (rws L) = (rws L), (↑L.length : Int) = ↑L.length, IntKind.i64.wrap ((↑k : Int) + 1) = (↑(k + (1 : Nat)) : Int), (txB2 H (List.take k L)).size + (ByteArray.mk #[(32 : UInt8)] ++ digS (L.getD k Con.zero).exp ++ ByteArray.mk #[(94 : UInt8)] ++ ByteArray.mk #[(45 : UInt8)] ++ digS (L.getD k Con.zero).dim ++ ByteArray.mk #[(95 : UInt8)] ++ digS (L.getD k Con.zero).oddity).size = (txB2 H (List.take (k + (1 : Nat)) L)).size, bytesI (txB2 H (List.take k L)) ++ bytesI (ByteArray.mk #[(32 : UInt8)] ++ digS (L.getD k Con.zero).exp ++ ByteArray.mk #[(94 : UInt8)] ++ ByteArray.mk #[(45 : UInt8)] ++ digS (L.getD k Con.zero).dim ++ ByteArray.mk #[(95 : UInt8)] ++ digS (L.getD k Con.zero).oddity) = bytesI (txB2 H (List.take (k + (1 : Nat)) L)), (View.ints IntKind.u8 (bytesI (txB2 H (List.take k L)))).num = (txB2 H (List.take k L)).size ∧ (txB2 H (List.take k L)).size + (ByteArray.mk #[(32 : UInt8)] ++ digS (L.getD k Con.zero).exp ++ ByteArray.mk #[(94 : UInt8)] ++ ByteArray.mk #[(45 : UInt8)] ++ digS (L.getD k Con.zero).dim ++ ByteArray.mk #[(95 : UInt8)] ++ digS (L.getD k Con.zero).oddity).size ≤ (1000000 : Nat), (ByteArray.mk #[(32 : UInt8)] ++ digS (L.getD k Con.zero).exp ++ ByteArray.mk #[(94 : UInt8)] ++ ByteArray.mk #[(45 : UInt8)] ++ digS (L.getD k Con.zero).dim ++ ByteArray.mk #[(95 : UInt8)]).size + (digS (L.getD k Con.zero).oddity).size ≤ (1000000 : Nat), (ByteArray.mk #[(32 : UInt8)] ++ digS (L.getD k Con.zero).exp ++ ByteArray.mk #[(94 : UInt8)] ++ ByteArray.mk #[(45 : UInt8)] ++ digS (L.getD k Con.zero).dim).size + (ByteArray.mk #[(95 : UInt8)]).size ≤ (1000000 : Nat), (ByteArray.mk #[(32 : UInt8)] ++ digS (L.getD k Con.zero).exp ++ ByteArray.mk #[(94 : UInt8)] ++ ByteArray.mk #[(45 : UInt8)]).size + (digS (L.getD k Con.zero).dim).size ≤ (1000000 : Nat), (0 : Int) ≤ (L.getD k Con.zero).dim ∧ (L.getD k Con.zero).dim < 100, (L.getD k Con.zero).dim = (L.getD k Con.zero).dim, (ByteArray.mk #[(32 : UInt8)] ++ digS (L.getD k Con.zero).exp ++ ByteArray.mk #[(94 : UInt8)]).size + (ByteArray.mk #[(45 : UInt8)]).size ≤ (1000000 : Nat), (ByteArray.mk #[(32 : UInt8)] ++ digS (L.getD k Con.zero).exp).size + (ByteArray.mk #[(94 : UInt8)]).size ≤ (1000000 : Nat), (ByteArray.mk #[(32 : UInt8)]).size + (digS (L.getD k Con.zero).exp).size ≤ (1000000 : Nat), (0 : Int) ≤ (L.getD k Con.zero).exp ∧ (L.getD k Con.zero).exp < 100, (0 : Int) ≤ (L.getD k Con.zero).oddity ∧ (L.getD k Con.zero).oddity < 100, Dec (L.getD k Con.zero).odd true, Dec ((L.getD k Con.zero).sign == -1) true, (0 : Int) ≤ ↑k ∧ (↑k : Int) < ↑L.length, Dec (decide ((↑k : Int) < ↑L.length)) true], by kernel_rfl, ⟨?_, ?_, ?_, ?_, ?_, ?_, ?_, ?_, ?_, ?_, ?_, ?_, ?_, ?_, ?_, ?_, d3, d2, ?_, d1⟩, MuG.out ?_, InG.out ?_⟩⟩) (fun d3 => ⟨[true, true, false], .inl ⟨(k + 1), [L.length = L.length ∧ (rws L) = (rws L), (↑L.length : Int) = ↑L.length, IntKind.i64.wrap ((↑k : Int) + 1) = (↑(k + (1 : Nat)) : Int), (txB2 H (List.take k L)).size + (ByteArray.mk #[(32 : UInt8)] ++ digS (L.getD k Con.zero).exp ++ ByteArray.mk #[(94 : UInt8)] ++ ByteArray.mk #[(45 : UInt8)] ++ digS (L.getD k Con.zero).dim ++ ByteArray.mk #[(95 : UInt8)] ++ ByteArray.mk #[(73 : UInt8), (73 : UInt8)]).size = (txB2 H (List.take (k + (1 : Nat)) L)).size, bytesI (txB2 H (List.take k L)) ++ bytesI (ByteArray.mk #[(32 : UInt8)] ++ digS (L.getD k Con.zero).exp ++ ByteArray.mk #[(94 : UInt8)] ++ ByteArray.mk #[(45 : UInt8)] ++ digS (L.getD k Con.zero).dim ++ ByteArray.mk #[(95 : UInt8)] ++ ByteArray.mk #[(73 : UInt8), (73 : UInt8)]) = bytesI (txB2 H (List.take (k + (1 : Nat)) L)), (View.ints IntKind.u8 (bytesI (txB2 H (List.take k L)))).num = (txB2 H (List.take k L)).size ∧ (txB2 H (List.take k L)).size + (ByteArray.mk #[(32 : UInt8)] ++ digS (L.getD k Con.zero).exp ++ ByteArray.mk #[(94 : UInt8)] ++ ByteArray.mk #[(45 : UInt8)] ++ digS (L.getD k Con.zero).dim ++ ByteArray.mk #[(95 : UInt8)] ++ ByteArray.mk #[(73 : UInt8), (73 : UInt8)]).size ≤ (1000000 : Nat), (ByteArray.mk #[(32 : UInt8)] ++ digS (L.getD k Con.zero).exp ++ ByteArray.mk #[(94 : UInt8)] ++ ByteArray.mk #[(45 : UInt8)] ++ digS (L.getD k Con.zero).dim ++ ByteArray.mk #[(95 : UInt8)]).size + (ByteArray.mk #[(73 : UInt8), (73 : UInt8)]).size ≤ (1000000 : Nat), (ByteArray.mk #[(32 : UInt8)] ++ digS (L.getD k Con.zero).exp ++ ByteArray.mk #[(94 : UInt8)] ++ ByteArray.mk #[(45 : UInt8)] ++ digS (L.getD k Con.zero).dim).size + (ByteArray.mk #[(95 : UInt8)]).size ≤ (1000000 : Nat), (ByteArray.mk #[(32 : UInt8)] ++ digS (L.getD k Con.zero).exp ++ ByteArray.mk #[(94 : UInt8)] ++ ByteArray.mk #[(45 : UInt8)]).size + (digS (L.getD k Con.zero).dim).size ≤ (1000000 : Nat), (0 : Int) ≤ (L.getD k Con.zero).dim ∧ (L.getD k Con.zero).dim < 100, (L.getD k Con.zero).dim = (L.getD k Con.zero).dim, (ByteArray.mk #[(32 : UInt8)] ++ digS (L.getD k Con.zero).exp ++ ByteArray.mk #[(94 : UInt8)]).size + (ByteArray.mk #[(45 : UInt8)]).size ≤ (1000000 : Nat), (ByteArray.mk #[(32 : UInt8)] ++ digS (L.getD k Con.zero).exp).size + (ByteArray.mk #[(94 : UInt8)]).size ≤ (1000000 : Nat), (ByteArray.mk #[(32 : UInt8)]).size + (digS (L.getD k Con.zero).exp).size ≤ (1000000 : Nat), (0 : Int) ≤ (L.getD k Con.zero).exp ∧ (L.getD k Con.zero).exp < 100, Dec (L.getD k Con.zero).odd false, Dec ((L.getD k Con.zero).sign == -1) true, (0 : Int) ≤ ↑k ∧ (↑k : Int) < ↑L.length, Dec (decide ((↑k : Int) < ↑L.length)) true], by kernel_rfl, ⟨?_, ?_, ?_, ?_, ?_, ?_, ?_, ?_, ?_, ?_, ?_, ?_, ?_, ?_, ?_, d3, d2, ?_, d1⟩, MuG.out ?_, InG.out ?_⟩⟩)) (fun d2 => oe ((L.getD k Con.zero).odd) (fun d3 => ⟨[true, false, true], .inl ⟨(k + 1), [L.length = L.length ∧ (rws L) = (rws L), (↑L.length : Int) = ↑L.length, IntKind.i64.wrap ((↑k : Int) + 1) = (↑(k + (1 : Nat)) : Int), (txB2 H (List.take k L)).size + (ByteArray.mk #[(32 : UInt8)] ++ digS (L.getD k Con.zero).exp ++ ByteArray.mk #[(94 : UInt8)] ++ ByteArray.mk #[(43 : UInt8)] ++ digS (L.getD k Con.zero).dim ++ ByteArray.mk #[(95 : UInt8)] ++ digS (L.getD k Con.zero).oddity).size = (txB2 H (List.take (k + (1 : Nat)) L)).size, bytesI (txB2 H (List.take k L)) ++ bytesI (ByteArray.mk #[(32 : UInt8)] ++ digS (L.getD k Con.zero).exp ++ ByteArray.mk #[(94 : UInt8)] ++ ByteArray.mk #[(43 : UInt8)] ++ digS (L.getD k Con.zero).dim ++ ByteArray.mk #[(95 : UInt8)] ++ digS (L.getD k Con.zero).oddity) = bytesI (txB2 H (List.take (k + (1 : Nat)) L)), (View.ints IntKind.u8 (bytesI (txB2 H (List.take k L)))).num = (txB2 H (List.take k L)).size ∧ (txB2 H (List.take k L)).size + (ByteArray.mk #[(32 : UInt8)] ++ digS (L.getD k Con.zero).exp ++ ByteArray.mk #[(94 : UInt8)] ++ ByteArray.mk #[(43 : UInt8)] ++ digS (L.getD k Con.zero).dim ++ ByteArray.mk #[(95 : UInt8)] ++ digS (L.getD k Con.zero).oddity).size ≤ (1000000 : Nat), (ByteArray.mk #[(32 : UInt8)] ++ digS (L.getD k Con.zero).exp ++ ByteArray.mk #[(94 : UInt8)] ++ ByteArray.mk #[(43 : UInt8)] ++ digS (L.getD k Con.zero).dim ++ ByteArray.mk #[(95 : UInt8)]).size + (digS (L.getD k Con.zero).oddity).size ≤ (1000000 : Nat), (ByteArray.mk #[(32 : UInt8)] ++ digS (L.getD k Con.zero).exp ++ ByteArray.mk #[(94 : UInt8)] ++ ByteArray.mk #[(43 : UInt8)] ++ digS (L.getD k Con.zero).dim).size + (ByteArray.mk #[(95 : UInt8)]).size ≤ (1000000 : Nat), (ByteArray.mk #[(32 : UInt8)] ++ digS (L.getD k Con.zero).exp ++ ByteArray.mk #[(94 : UInt8)] ++ ByteArray.mk #[(43 : UInt8)]).size + (digS (L.getD k Con.zero).dim).size ≤ (1000000 : Nat), (0 : Int) ≤ (L.getD k Con.zero).dim ∧ (L.getD k Con.zero).dim < 100, (L.getD k Con.zero).dim = (L.getD k Con.zero).dim, (ByteArray.mk #[(32 : UInt8)] ++ digS (L.getD k Con.zero).exp ++ ByteArray.mk #[(94 : UInt8)]).size + (ByteArray.mk #[(43 : UInt8)]).size ≤ (1000000 : Nat), (ByteArray.mk #[(32 : UInt8)] ++ digS (L.getD k Con.zero).exp).size + (ByteArray.mk #[(94 : UInt8)]).size ≤ (1000000 : Nat), (ByteArray.mk #[(32 : UInt8)]).size + (digS (L.getD k Con.zero).exp).size ≤ (1000000 : Nat), (0 : Int) ≤ (L.getD k Con.zero).exp ∧ (L.getD k Con.zero).exp < 100, (0 : Int) ≤ (L.getD k Con.zero).oddity ∧ (L.getD k Con.zero).oddity < 100, Dec (L.getD k Con.zero).odd true, Dec ((L.getD k Con.zero).sign == -1) false, (0 : Int) ≤ ↑k ∧ (↑k : Int) < ↑L.length, Dec (decide ((↑k : Int) < ↑L.length)) true], by kernel_rfl, ⟨?_, ?_, ?_, ?_, ?_, ?_, ?_, ?_, ?_, ?_, ?_, ?_, ?_, ?_, ?_, ?_, d3, d2, ?_, d1⟩, MuG.out ?_, InG.out ?_⟩⟩) (fun d3 => ⟨[true, false, false], .inl ⟨(k + 1), [L.length = L.length ∧ (rws L) = (rws L), (↑L.length : Int) = ↑L.length, IntKind.i64.wrap ((↑k : Int) + 1) = (↑(k + (1 : Nat)) : Int), (txB2 H (List.take k L)).size + (ByteArray.mk #[(32 : UInt8)] ++ digS (L.getD k Con.zero).exp ++ ByteArray.mk #[(94 : UInt8)] ++ ByteArray.mk #[(43 : UInt8)] ++ digS (L.getD k Con.zero).dim ++ ByteArray.mk #[(95 : UInt8)] ++ ByteArray.mk #[(73 : UInt8), (73 : UInt8)]).size = (txB2 H (List.take (k + (1 : Nat)) L)).size, bytesI (txB2 H (List.take k L)) ++ bytesI (ByteArray.mk #[(32 : UInt8)] ++ digS (L.getD k Con.zero).exp ++ ByteArray.mk #[(94 : UInt8)] ++ ByteArray.mk #[(43 : UInt8)] ++ digS (L.getD k Con.zero).dim ++ ByteArray.mk #[(95 : UInt8)] ++ ByteArray.mk #[(73 : UInt8), (73 : UInt8)]) = bytesI (txB2 H (List.take (k + (1 : Nat)) L)), (View.ints IntKind.u8 (bytesI (txB2 H (List.take k L)))).num = (txB2 H (List.take k L)).size ∧ (txB2 H (List.take k L)).size + (ByteArray.mk #[(32 : UInt8)] ++ digS (L.getD k Con.zero).exp ++ ByteArray.mk #[(94 : UInt8)] ++ ByteArray.mk #[(43 : UInt8)] ++ digS (L.getD k Con.zero).dim ++ ByteArray.mk #[(95 : UInt8)] ++ ByteArray.mk #[(73 : UInt8), (73 : UInt8)]).size ≤ (1000000 : Nat), (ByteArray.mk #[(32 : UInt8)] ++ digS (L.getD k Con.zero).exp ++ ByteArray.mk #[(94 : UInt8)] ++ ByteArray.mk #[(43 : UInt8)] ++ digS (L.getD k Con.zero).dim ++ ByteArray.mk #[(95 : UInt8)]).size + (ByteArray.mk #[(73 : UInt8), (73 : UInt8)]).size ≤ (1000000 : Nat), (ByteArray.mk #[(32 : UInt8)] ++ digS (L.getD k Con.zero).exp ++ ByteArray.mk #[(94 : UInt8)] ++ ByteArray.mk #[(43 : UInt8)] ++ digS (L.getD k Con.zero).dim).size + (ByteArray.mk #[(95 : UInt8)]).size ≤ (1000000 : Nat), (ByteArray.mk #[(32 : UInt8)] ++ digS (L.getD k Con.zero).exp ++ ByteArray.mk #[(94 : UInt8)] ++ ByteArray.mk #[(43 : UInt8)]).size + (digS (L.getD k Con.zero).dim).size ≤ (1000000 : Nat), (0 : Int) ≤ (L.getD k Con.zero).dim ∧ (L.getD k Con.zero).dim < 100, (L.getD k Con.zero).dim = (L.getD k Con.zero).dim, (ByteArray.mk #[(32 : UInt8)] ++ digS (L.getD k Con.zero).exp ++ ByteArray.mk #[(94 : UInt8)]).size + (ByteArray.mk #[(43 : UInt8)]).size ≤ (1000000 : Nat), (ByteArray.mk #[(32 : UInt8)] ++ digS (L.getD k Con.zero).exp).size + (ByteArray.mk #[(94 : UInt8)]).size ≤ (1000000 : Nat), (ByteArray.mk #[(32 : UInt8)]).size + (digS (L.getD k Con.zero).exp).size ≤ (1000000 : Nat), (0 : Int) ≤ (L.getD k Con.zero).exp ∧ (L.getD k Con.zero).exp < 100, Dec (L.getD k Con.zero).odd false, Dec ((L.getD k Con.zero).sign == -1) false, (0 : Int) ≤ ↑k ∧ (↑k : Int) < ↑L.length, Dec (decide ((↑k : Int) < ↑L.length)) true], by kernel_rfl, ⟨?_, ?_, ?_, ?_, ?_, ?_, ?_, ?_, ?_, ?_, ?_, ?_, ?_, ?_, ?_, d3, d2, ?_, d1⟩, MuG.out ?_, InG.out ?_⟩⟩))) (fun d1 => ⟨[false], .inr ⟨[(txB2 H (List.take k L)).size = (txB2 H L).size, bytesI (txB2 H (List.take k L)) = bytesI (txB2 H L), Dec (decide ((↑k : Int) < (↑L.length : Int))) false], by kernel_rfl, ⟨?_, ?_, d1⟩, rfl⟩⟩)
      all_goals first | (refine MuG.mk ?_; (simp only [decide_eq_true_eq] at *; show L.length - (k + 1) < L.length - k; omega)) | (refine InG.mk ?_; (simp only [decide_eq_true_eq] at *; show k + 1 ≤ L.length; omega)) | (refine CtG.mk ?_; (exact (5 : Nat))) | (first | (with_reducible rfl) | exact ⟨rfl, rfl⟩ | (simp only [decide_eq_true_eq, decide_eq_false_iff_not] at d1; first | omega | (rw [List.take_of_length_le (by omega)]; done) | (rw [w64 (by omega) (by omega)]; omega) | (have hk : k < L.length := (by omega); have hc := hL _ (getD_mem hk); obtain ⟨hc, ho⟩ := hc; have h1 := digS_size (n := (L.getD k Con.zero).exp) (by omega) (by omega); have h2 := digS_size (n := (L.getD k Con.zero).dim) (by omega) (by omega); have h3 := digS_size (n := (L.getD k Con.zero).oddity) (by omega) (by omega); first | omega | (simp only [ByteArray.size_append, one_size, ii_size]; omega) | (rw [txB2_take H hk, ← cTxt2_mo d2 d3, ByteArray.size_append]; done) | (rw [txB2_take H hk, ← cTxt2_mo d2 d3, bytesI_app]; done) | (rw [txB2_take H hk, ← cTxt2_me d2 d3, ByteArray.size_append]; done) | (rw [txB2_take H hk, ← cTxt2_me d2 d3, bytesI_app]; done) | (rw [txB2_take H hk, ← cTxt2_po d2 d3, ByteArray.size_append]; done) | (rw [txB2_take H hk, ← cTxt2_po d2 d3, bytesI_app]; done) | (rw [txB2_take H hk, ← cTxt2_pe d2 d3, ByteArray.size_append]; done) | (rw [txB2_take H hk, ← cTxt2_pe d2 d3, bytesI_app]; done) | (refine ⟨bytesI_len _, ?_⟩; simp only [ByteArray.size_append, one_size, ii_size]; omega))))
theorem fmtT_1 (p : Int) (L : List Con) (hv : val2M p L = true) (hL : ∀ c ∈ L, okD c) (hn : L.length ≤ 8) : PureC Tryz.prog [] 20 [.agg [.int .i64 p, roC L]] (.tup [.str (txT L), .int .i64 0]) := by
  have hH0 : (ByteArray.mk #[50, 58]).size ≤ 100 := Nat.le_of_ble_eq_true rfl; have hk : val2M p (consR L.length fun i => (L.getD i Con.zero).rvs) = true := (by rw [consR_ro]; exact hv)
  have rr := fun (tp : List Bool) (ms : List Prop) h hm => pure_run evOk (callF_ok evOk (orcOf_ok entsFT_ok) 8) Tryz.func20 (A := [.agg [.int .i64 p, roC L]]) (N := Nat.max 1 Tryz.f20.ntmps) rfl (one_ann (ft_loop L ⟨#[50, 58]⟩ hL hn hH0)) rfl rfl evNg (tabs := []) (R := .tup [.str (txT L), .int .i64 0]) (tp := tp) (ms := ms) h hm
  refine rr [false] [strOfNums (bytesI (txB2 (ByteArray.mk #[(50 : UInt8), (58 : UInt8)]) L)) = txT L, (0 : Int) = 0, (0 : Int) < (↑(txB2 (ByteArray.mk #[(50 : UInt8), (58 : UInt8)]) L).size : Int) ∧ (↑(txB2 (ByteArray.mk #[(50 : UInt8), (58 : UInt8)]) L).size : Int) = (↑(bytesI (txB2 (ByteArray.mk #[(50 : UInt8), (58 : UInt8)]) L)).length : Int) ∧ (↑(txB2 (ByteArray.mk #[(50 : UInt8), (58 : UInt8)]) L).size : Int) ≤ 1000000000, ∀ (x : Int), x ∈ bytesI (txB2 (ByteArray.mk #[(50 : UInt8), (58 : UInt8)]) L) → (0 : Int) ≤ x ∧ x < 256, (0 : Nat) < (txB2 (ByteArray.mk #[(50 : UInt8), (58 : UInt8)]) L).size, L.length = L.length ∧ (rws L) = (rws L), (↑L.length : Int) = ↑L.length, (ByteArray.mk #[(50 : UInt8), (58 : UInt8)]).size = (ByteArray.mk #[(50 : UInt8), (58 : UInt8)]).size, [(↑(UInt8.toNat (50 : UInt8)) : Int), (↑(UInt8.toNat (58 : UInt8)) : Int)] = bytesI (ByteArray.mk #[(50 : UInt8), (58 : UInt8)]), (0 : Nat) < (ByteArray.mk #[(50 : UInt8), (58 : UInt8)]).size ∧ (ByteArray.mk #[(50 : UInt8), (58 : UInt8)]).size ≤ (1000000 : Nat), Dec (!val2M p (consR L.length (rws L))) false, (∀ (i : Nat), i < L.length → (rws L) i = (Con.ofR ((rws L) i)).rvs) ∧ L.length ≤ (1000 : Nat)] (by kernel_rfl) ⟨?_, ?_, ?_, ?_, ?_, ?_, ?_, ?_, ?_, ?_, (dN hk), (?_ : (∀ (i : Nat), i < L.length → (rws L) i = (Con.ofR ((rws L) i)).rvs) ∧ L.length ≤ (1000 : Nat))⟩
  all_goals first | (first | (with_reducible rfl) | exact ⟨rfl, rfl⟩ | (have e1 : (ByteArray.mk #[50, 58]).size = 2 := rfl; have e3 := txB2_ge L ⟨#[50, 58]⟩; have e4 := txB2_size hL ⟨#[50, 58]⟩; first | omega | (rw [strOf_bytes]; rfl) | exact bytesI_bd _ | exact ⟨fun _ _ => rfl, by omega⟩ | (refine ⟨by omega, ?_, by omega⟩; rw [bytesI_len]) | rfl | exact (5 : Nat)))
theorem fmtT_2 (p : Int) (L : List Con) (hv : val2M p L = false) (hw : fusM p L = true) (hL : ∀ c ∈ L, okD c) (hn : L.length ≤ 8) : PureC Tryz.prog [] 20 [.agg [.int .i64 p, roC L]] (.tup [.str (txT L), .int .i64 0]) := by
  have hH0 : (ByteArray.mk #[50, 58]).size ≤ 100 := Nat.le_of_ble_eq_true rfl; have hk : val2M p (consR L.length fun i => (L.getD i Con.zero).rvs) = false := (by rw [consR_ro]; exact hv); have hk2 : fusM p (consR L.length fun i => (L.getD i Con.zero).rvs) = true := (by rw [consR_ro]; exact hw)
  have rr := fun (tp : List Bool) (ms : List Prop) h hm => pure_run evOk (callF_ok evOk (orcOf_ok entsFT_ok) 8) Tryz.func20 (A := [.agg [.int .i64 p, roC L]]) (N := Nat.max 1 Tryz.f20.ntmps) rfl (one_ann (ft_loop L ⟨#[50, 58]⟩ hL hn hH0)) rfl rfl evNg (tabs := []) (R := .tup [.str (txT L), .int .i64 0]) (tp := tp) (ms := ms) h hm
  refine rr [true, false] [strOfNums (bytesI (txB2 (ByteArray.mk #[(50 : UInt8), (58 : UInt8)]) L)) = txT L, (0 : Int) = 0, (0 : Int) < (↑(txB2 (ByteArray.mk #[(50 : UInt8), (58 : UInt8)]) L).size : Int) ∧ (↑(txB2 (ByteArray.mk #[(50 : UInt8), (58 : UInt8)]) L).size : Int) = (↑(bytesI (txB2 (ByteArray.mk #[(50 : UInt8), (58 : UInt8)]) L)).length : Int) ∧ (↑(txB2 (ByteArray.mk #[(50 : UInt8), (58 : UInt8)]) L).size : Int) ≤ 1000000000, ∀ (x : Int), x ∈ bytesI (txB2 (ByteArray.mk #[(50 : UInt8), (58 : UInt8)]) L) → (0 : Int) ≤ x ∧ x < 256, (0 : Nat) < (txB2 (ByteArray.mk #[(50 : UInt8), (58 : UInt8)]) L).size, L.length = L.length ∧ (rws L) = (rws L), (↑L.length : Int) = ↑L.length, (ByteArray.mk #[(50 : UInt8), (58 : UInt8)]).size = (ByteArray.mk #[(50 : UInt8), (58 : UInt8)]).size, [(↑(UInt8.toNat (50 : UInt8)) : Int), (↑(UInt8.toNat (58 : UInt8)) : Int)] = bytesI (ByteArray.mk #[(50 : UInt8), (58 : UInt8)]), (0 : Nat) < (ByteArray.mk #[(50 : UInt8), (58 : UInt8)]).size ∧ (ByteArray.mk #[(50 : UInt8), (58 : UInt8)]).size ≤ (1000000 : Nat), Dec (!fusM p (consR L.length (rws L))) false, (∀ (i : Nat), i < L.length → (rws L) i = (Con.ofR ((rws L) i)).rvs) ∧ L.length ≤ (1000 : Nat), Dec (!val2M p (consR L.length (rws L))) true, (∀ (i : Nat), i < L.length → (rws L) i = (Con.ofR ((rws L) i)).rvs) ∧ L.length ≤ (1000 : Nat)] (by kernel_rfl) ⟨?_, ?_, ?_, ?_, ?_, ?_, ?_, ?_, ?_, ?_, (dN hk2), ?_, (dN hk), (?_ : (∀ (i : Nat), i < L.length → (rws L) i = (Con.ofR ((rws L) i)).rvs) ∧ L.length ≤ (1000 : Nat))⟩
  all_goals first | (first | (with_reducible rfl) | exact ⟨rfl, rfl⟩ | (have e1 : (ByteArray.mk #[50, 58]).size = 2 := rfl; have e3 := txB2_ge L ⟨#[50, 58]⟩; have e4 := txB2_size hL ⟨#[50, 58]⟩; first | omega | (rw [strOf_bytes]; rfl) | exact bytesI_bd _ | exact ⟨fun _ _ => rfl, by omega⟩ | (refine ⟨by omega, ?_, by omega⟩; rw [bytesI_len]) | rfl | exact (5 : Nat)))
theorem fmtT_3 (p : Int) (L : List Con) (hv : val2M p L = false) (hw : fusM p L = false) (hn : L.length ≤ 1000) : PureC Tryz.prog [] 20 [.agg [.int .i64 p, roC L]] (.tup [.str ⟨#[]⟩, .int .i64 22]) := by
  have hk : val2M p (consR L.length fun i => (L.getD i Con.zero).rvs) = false := (by rw [consR_ro]; exact hv); have hk2 : fusM p (consR L.length fun i => (L.getD i Con.zero).rvs) = false := (by rw [consR_ro]; exact hw)
  have rr := fun (tp : List Bool) (ms : List Prop) h hm => pure_run evOk (callF_ok evOk (orcOf_ok entsFT_ok) 8) Tryz.func20 (A := [.agg [.int .i64 p, roC L]]) rfl none_ann rfl rfl evNg (tabs := []) (R := .tup [.str ⟨#[]⟩, .int .i64 22]) (tp := tp) (ms := ms) h hm
  refine rr [true, true] [ByteArray.mk #[] = ByteArray.mk #[], (22 : Int) = 22, Dec (!fusM p (consR L.length (rws L))) true, (∀ (i : Nat), i < L.length → (rws L) i = (Con.ofR ((rws L) i)).rvs) ∧ L.length ≤ (1000 : Nat), Dec (!val2M p (consR L.length (rws L))) true, (∀ (i : Nat), i < L.length → (rws L) i = (Con.ofR ((rws L) i)).rvs) ∧ L.length ≤ (1000 : Nat)] (by kernel_rfl) ⟨?_, ?_, (dN hk2), ?_, (dN hk), (?_ : (∀ (i : Nat), i < L.length → (rws L) i = (Con.ofR ((rws L) i)).rvs) ∧ L.length ≤ (1000 : Nat))⟩
  all_goals first | (first | (with_reducible rfl) | exact ⟨fun _ _ => rfl, hn⟩)
theorem fmtT_pure (p : Int) (L : List Con) (hn : L.length ≤ 1000) : PureC Tryz.prog [] 20 [.agg [.int .i64 p, roC L]] (.tup [.str (bif shV p L then txT L else ⟨#[]⟩), .int .i64 (bif shV p L then 0 else 22)]) := by
  cases h : shV p L with
  | true =>
    obtain ⟨h1, h2, h3⟩ := sh_bounds h
    cases hv : val2M p L with
    | true => exact fmtT_1 p L hv h2 h3
    | false =>
      have hw : fusM p L = true := by
        unfold shV at h
        rw [hv, Bool.false_or] at h
        exact h
      exact fmtT_2 p L hv hw h2 h3
  | false =>
    unfold shV at h
    obtain ⟨hv, hw⟩ := Bool.or_eq_false_iff.1 h
    exact fmtT_3 p L hv hw hn
end Go.Proofs.YtgdhgnhgmbkpdaaGreatDoor.S

namespace Go.Proofs.YtgdhgnhgmbkpdaaGreatDoor.S
open Go.QfSy Go.RowKit
noncomputable def entsPT : List OEnt := entsS ++ [
  ⟨50, [maxT, rngT, synT], fun A => match A with
    | [.str w] => some (.tup [.agg (pcT w).1.rvs, .bool (pcT w).2], [w.size ≤ 1000000])
    | _ => none⟩,
  ⟨20, [], fun A => match A with
    | [.agg [.int .i64 p, .sl n 5 row]] => some (.tup [.str (bif shV p (consR n row) then txT (consR n row) else ⟨#[]⟩), .int .i64 (bif shV p (consR n row) then 0 else 22)], [(∀ i, i < n → row i = (Con.ofR (row i)).rvs) ∧ n ≤ 1000])
    | _ => none⟩]
theorem entsPT_ok : ∀ e ∈ entsPT, EntOk Tryz.prog e := by
  intro e he
  unfold entsPT at he
  rcases List.mem_append.1 he with h | h
  · exact entsS_ok e h
  · simp only [List.mem_cons, List.not_mem_nil, or_false] at h
    rcases h with rfl | rfl
    · intro A R ms h hm
      simp only at h
      split at h
      · cases h; exact pcT_pure _ (hm _ (by simp))
      · cases h
    · intro A R ms h hm
      simp only at h
      split at h
      · cases h
        obtain ⟨h1, h2⟩ := hm _ (List.mem_singleton.2 rfl)
        exact PureC.imp (fmtT_pure _ _ (by rw [consR_len]; exact h2)) (.cons (.agg (.cons .same (.cons (.con h1) .nil))) .nil)
      · cases h
def rfA : Code → Code
  | .rangeFunc _ _ a _ => a
  | c => c
def rfB : Code → Code
  | .rangeFunc _ _ _ b => b
  | c => c
def atF (fn : Func) (p : List Nat) : Code := (subC p (fn.body.getD .skip)).getD .skip
noncomputable abbrev ptL : List Code := [atF Tryz.f22 [0], atF Tryz.f22 [1, 0], atF Tryz.f22 [1, 1, 0]]
noncomputable abbrev ptD : Code := atF Tryz.f22 [1, 1, 1, 0, 0]
noncomputable abbrev ptX : Code := atF Tryz.f22 [1, 1, 1, 0, 1, 0]
noncomputable abbrev ptR : Code := atF Tryz.f22 [1, 1, 1, 1]
theorem pt_body : Tryz.f22.body = some (preC ptL (.seq (.seq ptD (.block 0 (.rangeFunc (.tmp 21) #[22] (rfA ptX) (rfB ptX)))) ptR)) := by kernel_rfl
noncomputable abbrev callT : CallF := callF EV (orcOf EV.ng entsPT) 8
def restS (s : ByteArray) : ByteArray := cB s [58, 32]
def wordsS (s : ByteArray) : List ByteArray := (spl (restS s).data.toList).map strL
noncomputable def ptT0 (s : ByteArray) : List (Nat × AV) := [(0, .vstr s), (2, .ptr 1000 0), (3, .ptr 1001 0), (7, .ptr 1002 0), (21, .fn 98 [.ptr 1004 0, .ptr 1003 0, .ptr 1005 0])]
def pTabs : List Tb := [maxT, rngT, synT]
noncomputable def resH (p e : Int) (v : AV) : List (Nat × Blk) := [(1000, ⟨.plain [.int .i64 p, v], 24, 0, false, true⟩), (1001, ⟨.plain [.int .i64 e], 31, 0, false, true⟩)]
noncomputable def ptPre (s : ByteArray) : List (Nat × Blk) := tabList pTabs ++ resH 0 0 .nils ++ [(1002, ⟨.plain [.int .i64 2, .nils], 24, 0, false, true⟩), (1003, ⟨.plain [.vstr (restS s)], 9, 0, false, true⟩), (1004, ⟨.plain [.str ⟨#[32]⟩], 9, 0, false, true⟩), (1005, ⟨.plain [.int .i64 0], 3, 0, false, true⟩)]
noncomputable def ptM (C : List Con) : List (Nat × Blk) := match C with
  | [] => tabList pTabs ++ resH 0 0 .nils ++ [(1002, ⟨.plain [.int .i64 2, .nils], 24, 0, false, true⟩)]
  | c :: l => tabList pTabs ++ resH 0 0 .nils ++ [(1002, ⟨.plain [.int .i64 2, .lo 1100 (l.length + 1)], 24, 0, false, true⟩), (1100, ⟨.con (c :: l), 59, 5, true, true⟩)]
noncomputable def ptE : List (Nat × Blk) := tabList pTabs ++ resH 0 2 .nils
def trR : Option (AEx × Tr AV × Hs) → Tr AV
  | some (_, T, _) => T
  | none => .nil
noncomputable def ptT1 (s x : ByteArray) : Tr AV := trR (evCode EV callT noLo 51 999 [0] (rfA ptX) (trOf ((22, .vstr x) :: ptT0 s)) (stH ⟨[], [], 1200⟩ []))
theorem pt_assign (s : ByteArray) (m : List (Nat × Blk)) (x : ByteArray) (q : List Bool) : evCode EV callT noLo 51 999 [0] (rfA ptX) (trOf ((22, .vstr x) :: ptT0 s)) (stH ⟨[], m, 1200⟩ q) = some (.normal, ptT1 s x, stH ⟨[], m, 1200⟩ q) := by kernel_rfl
theorem pt_s1 : straight (preC ptL ptD) = true := by kernel_rfl
theorem pt_s2 : straight ptR = true := by kernel_rfl
theorem pt_s3 : straight (rfA ptX) = true := by kernel_rfl
theorem pt_s4 : straight (rfB ptX) = true := by kernel_rfl
end Go.Proofs.YtgdhgnhgmbkpdaaGreatDoor.S

namespace Go.Proofs.YtgdhgnhgmbkpdaaGreatDoor.S
open Go.QfSy Go.RowKit
def leadN (f : ByteArray → Con × Bool) : List ByteArray → Nat
  | [] => 0
  | w :: l => bif (f w).2 then leadN f l + 1 else 0
theorem leadN_le (f : ByteArray → Con × Bool) : ∀ l, leadN f l ≤ l.length
  | [] => Nat.le_refl _
  | w :: l => by
    have := leadN_le f l
    rw [leadN]
    cases (f w).2 <;> simp only [cond_true, cond_false, List.length_cons] <;> omega
theorem leadN_ok (f : ByteArray → Con × Bool) : ∀ (l : List ByteArray) (k : Nat) (x : ByteArray), l[k]? = some x → k < leadN f l → (f x).2 = true
  | [], k, x, h, _ => by simp at h
  | w :: l, k, x, h, hk => by
    rw [leadN] at hk
    cases hw : (f w).2 with
    | false => rw [hw] at hk; simp at hk
    | true =>
      rw [hw] at hk
      cases k with
      | zero => simp at h; subst h; exact hw
      | succ k => exact leadN_ok f l k x (by simpa using h) (by simp at hk; omega)
theorem leadN_bad (f : ByteArray → Con × Bool) : ∀ (l : List ByteArray) (x : ByteArray), l[leadN f l]? = some x → (f x).2 = false
  | [], x, h => by simp at h
  | w :: l, x, h => by
    rw [leadN] at h
    cases hw : (f w).2 with
    | false => rw [hw] at h; simp at h; subst h; exact hw
    | true => rw [hw] at h; exact leadN_bad f l x (by simpa using h)
theorem spl_len : ∀ l : List UInt8, (spl l).length ≤ l.length + 1
  | [] => Nat.le_refl _
  | c :: l => by
    have := spl_len l
    rw [spl]
    split
    · simp; omega
    · split
      · rename_i w ws h
        rw [h] at this
        simp at this ⊢; omega
      · simp
theorem spl_word : ∀ (l : List UInt8), ∀ w ∈ spl l, w.length ≤ l.length
  | [], w, h => by simp [spl] at h; subst h; exact Nat.le_refl _
  | c :: l, w, h => by
    rw [spl] at h
    split at h
    · rcases List.mem_cons.1 h with rfl | h
      · simp
      · have := spl_word l w h; simp; omega
    · split at h
      · rename_i v vs hs
        rcases List.mem_cons.1 h with rfl | h
        · have := spl_word l v (by rw [hs]; exact List.mem_cons_self)
          simp; omega
        · have := spl_word l w (by rw [hs]; exact List.mem_cons_of_mem _ h)
          simp; omega
      · simp at h; subst h; simp
theorem rest_size (s : ByteArray) : (restS s).size ≤ s.size := cB_size _ _
theorem words_len (s : ByteArray) : (wordsS s).length ≤ s.size + 1 := by
  unfold wordsS
  rw [List.length_map]
  have := spl_len (restS s).data.toList
  have h2 := rest_size s
  have h3 : (restS s).data.toList.length = (restS s).size := by rw [Array.length_toList]; rfl
  omega
theorem words_size (s : ByteArray) : ∀ w ∈ wordsS s, w.size ≤ s.size := by
  intro w hw
  unfold wordsS at hw
  obtain ⟨v, hv, rfl⟩ := List.mem_map.1 hw
  have := spl_word _ v hv
  rw [strL_size]
  have h2 := rest_size s
  have h3 : (restS s).data.toList.length = (restS s).size := by rw [Array.length_toList]; rfl
  omega
theorem enter_of {P : Program} {f : FuncId} {fn : Func} {c : Code} (hf : P.funcs[f]? = some fn) (hname : (fn.name == "runtime.NumGoroutine") = false) (hb : fn.body = some c) (args : Array Value) (w : World) :
    (callFunc f args).run P w = .ok (.enter f args) w := by
  have h1 : fn.name ≠ "runtime.NumGoroutine" := by simpa using hname
  simp [callFunc, hf, h1, hb]
def rdW (f : ByteArray → Con × Bool) (W : List ByteArray) : List Con := W.map fun w => (f w).1
theorem pt_pre (s : ByteArray) (hs : s.size ≤ 1000000) : ∃ q ms, outA (evCode EV callT noLo 51 999 [] (preC ptL ptD) (Tr.ofList (RV.avl [RV.str s])) ⟨trOf (tabList pTabs), 1000, q, []⟩) .normal ⟨ptT0 s, ptPre s, 1006⟩ 1000 = some ms ∧ allP ms :=
  ⟨[], [s = s, strL (Lib.cut s.data.toList (#[58, 32] : Array UInt8).toList).2.1 = restS s, s.size ≤ 1000000], by kernel_rfl, rfl, rfl, hs⟩
theorem pt_go0 (s x : ByteArray) (h : (pcT x).2 = true) (hx : x.size ≤ 1000000) : ∃ q ms rn, outS (evCode EV callT noLo 51 999 [1] (rfB ptX) (ptT1 s x) (stH ⟨[], ptM [], 1200⟩ q)) .normal ⟨[], ptM [(pcT x).1], 1200⟩ 1006 rn = some ms ∧ allP ms := by
  have e : outA (evCode EV callT noLo 51 999 [1] (rfB ptX) (ptT1 s x) (stH ⟨[], ptM [], 1200⟩ [false])) .normal ⟨[], ptM [(pcT x).1], 1200⟩ 1006 = some [(1 : Nat) = 0 + 1, [(pcT x).1] = [(pcT x).1], (0 : Nat) < 1 ∧ (1 : Nat) ≤ 1000000, Dec (!(pcT x).2) false, x.size ≤ 1000000] := by kernel_rfl
  exact ⟨_, _, _, e, rfl, rfl, ⟨by omega, by omega⟩, (by show (!(pcT x).2) = false; rw [h]; rfl), hx⟩
theorem pt_go1 (s x : ByteArray) (c : Con) (l : List Con) (h : (pcT x).2 = true) (hx : x.size ≤ 1000000) (hl : l.length ≤ 999990) : ∃ q ms rn, outS (evCode EV callT noLo 51 999 [1] (rfB ptX) (ptT1 s x) (stH ⟨[], ptM (c :: l), 1200⟩ q)) .normal ⟨[], ptM (c :: (l ++ [(pcT x).1])), 1200⟩ 1006 rn = some ms ∧ allP ms := by
  have e : outA (evCode EV callT noLo 51 999 [1] (rfB ptX) (ptT1 s x) (stH ⟨[], ptM (c :: l), 1200⟩ [false])) .normal ⟨[], ptM (c :: (l ++ [(pcT x).1])), 1200⟩ 1006 = some [l.length + 1 + 1 = (l ++ [(pcT x).1]).length + 1, c :: l ++ [(pcT x).1] = c :: (l ++ [(pcT x).1]), (View.con (c :: l)).num = l.length + 1 ∧ l.length + 1 + 1 ≤ 1000000, Dec (!(pcT x).2) false, x.size ≤ 1000000] := by kernel_rfl
  exact ⟨_, _, _, e, by simp, rfl, ⟨rfl, by omega⟩, (by show (!(pcT x).2) = false; rw [h]; rfl), hx⟩
theorem pt_ret0 (s x : ByteArray) (h : (pcT x).2 = false) (hx : x.size ≤ 1000000) : ∃ q ms rn, outS (evCode EV callT noLo 51 999 [1] (rfB ptX) (ptT1 s x) (stH ⟨[], ptM [], 1200⟩ q)) .ret ⟨[], ptE, 1200⟩ 1006 rn = some ms ∧ allP ms := by
  have e : outA (evCode EV callT noLo 51 999 [1] (rfB ptX) (ptT1 s x) (stH ⟨[], ptM [], 1200⟩ [true])) .ret ⟨[], ptE, 1200⟩ 1006 = some [Dec (!(pcT x).2) true, x.size ≤ 1000000] := by kernel_rfl
  exact ⟨_, _, _, e, (by show (!(pcT x).2) = true; rw [h]; rfl), hx⟩
theorem pt_ret1 (s x : ByteArray) (c : Con) (l : List Con) (h : (pcT x).2 = false) (hx : x.size ≤ 1000000) : ∃ q ms rn, outS (evCode EV callT noLo 51 999 [1] (rfB ptX) (ptT1 s x) (stH ⟨[], ptM (c :: l), 1200⟩ q)) .ret ⟨[], ptE, 1200⟩ 1006 rn = some ms ∧ allP ms := by
  have e : outA (evCode EV callT noLo 51 999 [1] (rfB ptX) (ptT1 s x) (stH ⟨[], ptM (c :: l), 1200⟩ [true])) .ret ⟨[], ptE, 1200⟩ 1006 = some [Dec (!(pcT x).2) true, x.size ≤ 1000000] := by kernel_rfl
  exact ⟨_, _, _, e, (by show (!(pcT x).2) = true; rw [h]; rfl), hx⟩
noncomputable def badR : RV := .tup [.agg [.int .i64 0, roC []], .int .i64 2]
theorem pt_post0 (s : ByteArray) : ∃ q ms, outR (postF EV callT 51 Tryz.f22 ptR (ptT0 s) (.ret, ptE) 1200 q) badR = some ms ∧ allP ms := by
  have e : outR (postF EV callT 51 Tryz.f22 ptR (ptT0 s) (.ret, ptE) 1200 []) badR = some [(0 : Int) = 0, (0 : Nat) = 0, (2 : Int) = 2] := by kernel_rfl
  exact ⟨_, _, e, rfl, rfl, rfl⟩
theorem pt_post1 (s : ByteArray) (c : Con) (l : List Con) (hl : l.length + 1 ≤ 1000) (h : shV 2 (c :: l) = false) : ∃ q ms, outR (postF EV callT 51 Tryz.f22 ptR (ptT0 s) (.normal, ptM (c :: l)) 1200 q) badR = some ms ∧ allP ms := by
  have e : outR (postF EV callT 51 Tryz.f22 ptR (ptT0 s) (.normal, ptM (c :: l)) 1200 [true]) badR = some [(0 : Int) = 0, (0 : Nat) = 0, (2 : Int) = 2, Dec ((bif shV 2 (consR (l.length + 1) (rws (c :: l))) then (0 : Int) else 22) != 0) true, l.length + 1 = (c :: l).length, (∀ (i : Nat), i < l.length + 1 → ((rws (c :: l))) i = (Con.ofR (((rws (c :: l))) i)).rvs) ∧ l.length + 1 ≤ 1000] := by kernel_rfl
  refine ⟨_, _, e, rfl, rfl, rfl, ?_, rfl, fun _ _ => rfl, hl⟩
  show ((bif shV 2 (consR (l.length + 1) fun i => ((c :: l).getD i Con.zero).rvs) then (0 : Int) else 22) != 0) = true
  rw [show (consR (l.length + 1) fun i => ((c :: l).getD i Con.zero).rvs) = c :: l from consR_ro (c :: l), h]
  rfl
theorem pt_post2 (s : ByteArray) (c : Con) (l : List Con) (hl : l.length + 1 ≤ 1000) (h : shV 2 (c :: l) = true) (h2 : eqB (txT (c :: l)) s = false) : ∃ q ms, outR (postF EV callT 51 Tryz.f22 ptR (ptT0 s) (.normal, ptM (c :: l)) 1200 q) badR = some ms ∧ allP ms := by
  have e : outR (postF EV callT 51 Tryz.f22 ptR (ptT0 s) (.normal, ptM (c :: l)) 1200 [false, true]) badR = some [(0 : Int) = 0, (0 : Nat) = 0, (2 : Int) = 2, Dec (!((bif shV 2 (consR (l.length + 1) (rws (c :: l))) then txT (consR (l.length + 1) (rws (c :: l))) else (⟨#[]⟩ : ByteArray)).toList == s.toList)) true, Dec ((bif shV 2 (consR (l.length + 1) (rws (c :: l))) then (0 : Int) else 22) != 0) false, l.length + 1 = (c :: l).length, (∀ (i : Nat), i < l.length + 1 → ((rws (c :: l))) i = (Con.ofR (((rws (c :: l))) i)).rvs) ∧ l.length + 1 ≤ 1000] := by kernel_rfl
  refine ⟨_, _, e, rfl, rfl, rfl, ?_, ?_, rfl, fun _ _ => rfl, hl⟩
  · show (!((bif shV 2 (consR (l.length + 1) fun i => ((c :: l).getD i Con.zero).rvs) then txT (consR (l.length + 1) fun i => ((c :: l).getD i Con.zero).rvs) else (⟨#[]⟩ : ByteArray)).toList == s.toList)) = true
    rw [show (consR (l.length + 1) fun i => ((c :: l).getD i Con.zero).rvs) = c :: l from consR_ro (c :: l), h]
    show (!(eqB (txT (c :: l)) s)) = true
    rw [h2]; rfl
  · show ((bif shV 2 (consR (l.length + 1) fun i => ((c :: l).getD i Con.zero).rvs) then (0 : Int) else 22) != 0) = false
    rw [show (consR (l.length + 1) fun i => ((c :: l).getD i Con.zero).rvs) = c :: l from consR_ro (c :: l), h]
    rfl
theorem pt_post3 (s : ByteArray) (c : Con) (l : List Con) (hl : l.length + 1 ≤ 1000) (h : shV 2 (c :: l) = true) (h2 : eqB (txT (c :: l)) s = true) : ∃ q ms, outR (postF EV callT 51 Tryz.f22 ptR (ptT0 s) (.normal, ptM (c :: l)) 1200 q) (.tup [.agg [.int .i64 2, roC (c :: l)], .int .i64 0]) = some ms ∧ allP ms := by
  have e : outR (postF EV callT 51 Tryz.f22 ptR (ptT0 s) (.normal, ptM (c :: l)) 1200 [false, false]) (.tup [.agg [.int .i64 2, roC (c :: l)], .int .i64 0]) = some [(2 : Int) = 2, l.length + 1 = (c :: l).length ∧ l.length + 1 = (c :: l).length ∧ ∀ (i : Nat), i < l.length + 1 → ((rws (c :: l))) i = ((c :: l).getD i Con.zero).rvs, (0 : Int) = 0, Dec (!((bif shV 2 (consR (l.length + 1) (rws (c :: l))) then txT (consR (l.length + 1) (rws (c :: l))) else (⟨#[]⟩ : ByteArray)).toList == s.toList)) false, Dec ((bif shV 2 (consR (l.length + 1) (rws (c :: l))) then (0 : Int) else 22) != 0) false, l.length + 1 = (c :: l).length, (∀ (i : Nat), i < l.length + 1 → ((rws (c :: l))) i = (Con.ofR (((rws (c :: l))) i)).rvs) ∧ l.length + 1 ≤ 1000] := by kernel_rfl
  refine ⟨_, _, e, rfl, ⟨rfl, rfl, fun _ _ => rfl⟩, rfl, ?_, ?_, rfl, fun _ _ => rfl, hl⟩
  · show (!((bif shV 2 (consR (l.length + 1) fun i => ((c :: l).getD i Con.zero).rvs) then txT (consR (l.length + 1) fun i => ((c :: l).getD i Con.zero).rvs) else (⟨#[]⟩ : ByteArray)).toList == s.toList)) = false
    rw [show (consR (l.length + 1) fun i => ((c :: l).getD i Con.zero).rvs) = c :: l from consR_ro (c :: l), h]
    show (!(eqB (txT (c :: l)) s)) = false
    rw [h2]; rfl
  · show ((bif shV 2 (consR (l.length + 1) fun i => ((c :: l).getD i Con.zero).rvs) then (0 : Int) else 22) != 0) = false
    rw [show (consR (l.length + 1) fun i => ((c :: l).getD i Con.zero).rvs) = c :: l from consR_ro (c :: l), h]
    rfl
def conT (s : ByteArray) : List Con := rdW pcT (wordsS s)
noncomputable def goodT (s : ByteArray) : Bool := (leadN pcT (wordsS s) == (wordsS s).length) && (shV 2 (conT s) && eqB (txT (conT s)) s)
noncomputable def resT (s : ByteArray) : RV := bif goodT s then .tup [.agg [.int .i64 2, roC (conT s)], .int .i64 0] else badR
theorem words_ne (s : ByteArray) : 0 < (wordsS s).length := by
  unfold wordsS
  rw [List.length_map]
  have := spl_ne (restS s).data.toList
  exact List.length_pos_iff.2 this
theorem rdW_take {f : ByteArray → Con × Bool} {W : List ByteArray} {k : Nat} {x : ByteArray} (h : W[k]? = some x) : rdW f (W.take (k + 1)) = rdW f (W.take k) ++ [(f x).1] := by
  unfold rdW
  rw [List.take_add_one, h]
  simp
theorem pt_sub (s : ByteArray) : ∀ b k, (trOf (ptM [])).get b = some k → (trOf (ptPre s)).get b = some k ∧ b ≠ 1004 ∧ b ≠ 1003 ∧ b ≠ 1005 := by
  intro b k h
  have hm := trOf_get _ _ _ (by kernel_rfl) h
  have hm : (b, k) ∈ [(maxT.g, maxT.blk), (rngT.g, rngT.blk), (synT.g, synT.blk), ((1000 : Nat), (⟨.plain [.int .i64 0, .nils], 24, 0, false, true⟩ : Blk)), (1001, ⟨.plain [.int .i64 0], 31, 0, false, true⟩), (1002, ⟨.plain [.int .i64 2, .nils], 24, 0, false, true⟩)] := hm
  simp only [List.mem_cons, List.not_mem_nil, or_false, Prod.mk.injEq] at hm
  rcases hm with ⟨rfl, rfl⟩ | ⟨rfl, rfl⟩ | ⟨rfl, rfl⟩ | ⟨rfl, rfl⟩ | ⟨rfl, rfl⟩ | ⟨rfl, rfl⟩ <;> exact ⟨by kernel_rfl, by decide, by decide, by decide⟩
theorem parseT_pure (s : ByteArray) (hs : s.size ≤ 900) : PureC Tryz.prog pTabs 22 [.str s] (resT s) := by
  have hlen := words_len s
  have hsz := words_size s
  have hle := leadN_le pcT (wordsS s)
  have hpos := words_ne s
  have hwz : ∀ {k : Nat} {x : ByteArray}, (wordsS s)[k]? = some x → x.size ≤ 1000000 := fun h => by
    have := hsz _ (List.mem_of_getElem? h)
    omega
  have hrl : ∀ k, (rdW pcT ((wordsS s).take k)).length ≤ 1000 := fun k => by
    unfold rdW
    rw [List.length_map, List.length_take]
    omega
  refine pure_rf evOk (callF_ok evOk (orcOf_ok entsPT_ok) 8) Tryz.func22 pt_body pt_s1 pt_s2 pt_s3 pt_s4 (Nat.le_of_ble_eq_true (by kernel_rfl)) (N := 51) (by kernel_rfl) (tabs := pTabs) (by kernel_rfl) (by kernel_rfl) evNg
    (split_iter (restS s) (by have := rest_size s; omega)) (enter_of Tryz.func98 (by kernel_rfl) rfl)
    (T0 := ptT0 s) (pre := ptPre s) (bp := 1004) (bs := 1003) (bv := 1005) (nx0 := 1006) (nx1 := 1200) (by omega) (by omega) (pt_pre s (by omega))
    (fun k => ptM (rdW pcT ((wordsS s).take k))) (bif leadN pcT (wordsS s) == (wordsS s).length then (.normal, ptM (conT s)) else (.ret, ptE)) (leadN pcT (wordsS s))
    (by kernel_rfl) (by omega) (by kernel_rfl) (by kernel_rfl) (by kernel_rfl) (by kernel_rfl) (by omega) (by omega) (pt_sub s) (ptT1 s) (fun k x q => pt_assign s _ x q) ?_ ?_ ?_
  · intro k x hx hk
    have hx : (wordsS s)[k]? = some x := hx
    have h := leadN_ok pcT _ k x hx hk
    have hl := hrl k
    rw [rdW_take hx]
    cases hC : rdW pcT ((wordsS s).take k) with
    | nil => exact pt_go0 s x h (hwz hx)
    | cons c l =>
      rw [hC] at hl
      simp only [List.length_cons] at hl
      exact pt_go1 s x c l h (hwz hx) (by omega)
  · cases hK : leadN pcT (wordsS s) == (wordsS s).length with
    | true =>
      have hK := eq_of_beq hK
      refine .inl ⟨hK, ?_⟩
      show (AEx.normal, ptM (conT s)) = (AEx.normal, ptM (rdW pcT ((wordsS s).take (leadN pcT (wordsS s)))))
      rw [hK, List.take_length]
      rfl
    | false =>
      have hK := ne_of_beq_false hK
      refine .inr ⟨?_, rfl, fun x hx => ?_⟩
      · show leadN pcT (wordsS s) < (wordsS s).length
        omega
      · have h := leadN_bad pcT _ x hx
        cases hC : rdW pcT ((wordsS s).take (leadN pcT (wordsS s))) with
        | nil => exact pt_ret0 s x h (hwz hx)
        | cons c l => exact pt_ret1 s x c l h (hwz hx)
  · unfold resT goodT
    cases hK : leadN pcT (wordsS s) == (wordsS s).length with
    | false => exact pt_post0 s
    | true =>
      have hcl : (conT s).length = (wordsS s).length := by unfold conT rdW; rw [List.length_map]
      cases hC : conT s with
      | nil => rw [hC] at hcl; simp at hcl; omega
      | cons c l =>
        rw [hC] at hcl
        simp only [List.length_cons] at hcl
        cases h1 : shV 2 (c :: l) with
        | false => exact pt_post1 s c l (by omega) h1
        | true =>
          cases h2 : eqB (txT (c :: l)) s with
          | false => exact pt_post2 s c l (by omega) h1 h2
          | true => exact pt_post3 s c l (by omega) h1 h2
end Go.Proofs.YtgdhgnhgmbkpdaaGreatDoor.S

namespace Go.Proofs.YtgdhgnhgmbkpdaaGreatDoor.S
open Go.QfSy Go.RowKit
end Go.Proofs.YtgdhgnhgmbkpdaaGreatDoor.S

namespace Go.Proofs.YtgdhgnhgmbkpdaaGreatDoor.S
open Go.QfSy Go.RowKit
end Go.Proofs.YtgdhgnhgmbkpdaaGreatDoor.S

namespace Go.Proofs.YtgdhgnhgmbkpdaaGreatDoor.S
open Go.QfSy Go.RowKit
def sgB8 (c : Con) : UInt8 := bif c.sign == -1 then 45 else 43
def wL (c : Con) : List UInt8 := Lib.itoa c.exp ++ 94 :: sgB8 c :: Lib.itoa c.dim
theorem itoa_nat {n : Int} (h : 0 ≤ n) : Lib.itoa n = Lib.decDigits n.toNat := by
  unfold Lib.itoa; rw [if_neg (by omega)]
theorem tl1_cons (x : UInt8) (r : List UInt8) : tl1 (strL (x :: r)) = strL r := by
  unfold tl1
  apply ByteArray.ext
  rw [ByteArray.data_extract, strL_size]
  simp [strL]
theorem neg0_cons (x : UInt8) (r : List UInt8) : neg0 (strL (x :: r)) = ((x.toNat : Int) == 45) := rfl
theorem strL_ne (x : UInt8) (r : List UInt8) : eqB (strL (x :: r)) ⟨#[]⟩ = false := by
  cases h : eqB (strL (x :: r)) ⟨#[]⟩ with
  | false => rfl
  | true =>
    have := congrArg ByteArray.size (eqB_true h)
    rw [strL_size] at this
    cases this
theorem atoi_itoa {n : Int} (h0 : 0 ≤ n) (h1 : n < 10000) : Lib.atoiAll (Lib.itoa n) = .ok n := by
  rw [itoa_nat h0, atoi_dec _ (Nat.le_trans (dec_len 3 n.toNat (by omega)) (by omega)) (by omega)]
  congr 1
  omega
theorem itoa_free {n : Int} (h0 : 0 ≤ n) {c : UInt8} (h : c.toNat < 48 ∨ 57 < c.toNat) : c ∉ Lib.itoa n := by
  rw [itoa_nat h0]; exact dec_free h
theorem pcS_word {c : Con} (h : 0 ≤ c.exp ∧ c.exp ≤ 60 ∧ 1 ≤ c.dim ∧ c.dim ≤ 8) (hs : c.sign = 1 ∨ c.sign = -1) (ho : c.odd = false) (hz : c.oddity = 0) : pcS (strL (wL c)) = (c, true) := by
  have hc : Lib.cut (wL c) [94] = (Lib.itoa c.exp, sgB8 c :: Lib.itoa c.dim, true) := cut_one _ (itoa_free h.1 (.inr (by decide)))
  have eA : cA (strL (wL c)) [94] = strL (Lib.itoa c.exp) := by show strL (Lib.cut (wL c) [94]).1 = _; rw [hc]
  have eB : cB (strL (wL c)) [94] = strL (sgB8 c :: Lib.itoa c.dim) := by show strL (Lib.cut (wL c) [94]).2.1 = _; rw [hc]
  have a1 := atoi_itoa (n := c.exp) (by omega) (by omega)
  have a2 := atoi_itoa (n := c.dim) (by omega) (by omega)
  have d1 : (strL (Lib.itoa c.exp)).data.toList = Lib.itoa c.exp := rfl
  have d2 : (strL (Lib.itoa c.dim)).data.toList = Lib.itoa c.dim := rfl
  unfold pcS
  rw [eA, eB, strL_ne, tl1_cons, neg0_cons, d1, d2]
  unfold atoiV atoiE
  rw [a1, a2]
  obtain ⟨e, d, s, o, t⟩ := c
  simp only at hs ho hz
  subst ho hz
  rcases hs with rfl | rfl <;> rfl
def odL (c : Con) : List UInt8 := bif c.odd then Lib.itoa c.oddity else [73, 73]
def wL2 (c : Con) : List UInt8 := Lib.itoa c.exp ++ 94 :: (sgB8 c :: Lib.itoa c.dim ++ 95 :: odL c)
theorem sgB8_ne (c : Con) : (95 : UInt8) ≠ sgB8 c ∧ (32 : UInt8) ≠ sgB8 c := by unfold sgB8; cases c.sign == -1 <;> decide
theorem ii_ne {n : Int} (h0 : 0 ≤ n) : eqB (strL (Lib.itoa n)) iiS = false := by
  cases h : eqB (strL (Lib.itoa n)) iiS with
  | false => rfl
  | true =>
    have e := congrArg (fun b => b.data.toList) (eqB_true h)
    have e : Lib.itoa n = [73, 73] := e
    exact absurd (by rw [e]; decide : (73 : UInt8) ∈ Lib.itoa n) (itoa_free h0 (.inr (by decide)))
theorem pcT_word {c : Con} (h : okD c) (hs : c.sign = 1 ∨ c.sign = -1) (hz : c.odd = false → c.oddity = 0) : pcT (strL (wL2 c)) = (c, true) := by
  obtain ⟨h, ho1, ho2⟩ := h
  have hc : Lib.cut (wL2 c) [94] = (Lib.itoa c.exp, sgB8 c :: Lib.itoa c.dim ++ 95 :: odL c, true) := cut_one _ (itoa_free h.1 (.inr (by decide)))
  have hc2 : Lib.cut (sgB8 c :: Lib.itoa c.dim ++ 95 :: odL c) [95] = (sgB8 c :: Lib.itoa c.dim, odL c, true) := by
    refine cut_one _ (fun hm => ?_)
    rcases List.mem_cons.1 hm with e | hm
    · exact (sgB8_ne c).1 e
    · exact itoa_free (n := c.dim) (by omega) (.inr (by decide)) hm
  have eA : cA (strL (wL2 c)) [94] = strL (Lib.itoa c.exp) := by show strL (Lib.cut (wL2 c) [94]).1 = _; rw [hc]
  have eB : cB (strL (wL2 c)) [94] = strL (sgB8 c :: Lib.itoa c.dim ++ 95 :: odL c) := by show strL (Lib.cut (wL2 c) [94]).2.1 = _; rw [hc]
  have eD : pd (strL (wL2 c)) = strL (sgB8 c :: Lib.itoa c.dim) := by unfold pd; rw [eB]; show strL (Lib.cut (sgB8 c :: Lib.itoa c.dim ++ 95 :: odL c) [95]).1 = _; rw [hc2]
  have eO : po (strL (wL2 c)) = strL (odL c) := by unfold po; rw [eB]; show strL (Lib.cut (sgB8 c :: Lib.itoa c.dim ++ 95 :: odL c) [95]).2.1 = _; rw [hc2]
  have a1 := atoi_itoa (n := c.exp) (by omega) (by omega)
  have a2 := atoi_itoa (n := c.dim) (by omega) (by omega)
  have a3 := atoi_itoa (n := c.oddity) (by omega) (by omega)
  have d1 : ∀ l, (strL l).data.toList = l := fun _ => rfl
  unfold pcT
  rw [eA, eD, eO, strL_ne, tl1_cons, neg0_cons, d1, d1, d1]
  unfold atoiV atoiE
  rw [a1, a2]
  have hi := ii_ne (n := c.oddity) (by omega)
  obtain ⟨e, d, s, o, t⟩ := c
  cases o with
  | true =>
    simp only [odL, cond_true] at hi ⊢
    rw [hi, a3]
    rcases hs with rfl | rfl <;> rfl
  | false =>
    have := hz rfl
    simp only at this hs
    subst this
    have : eqB (strL (odL ⟨e, d, s, false, 0⟩)) iiS = true := eqB_self _
    rw [this]
    rcases hs with rfl | rfl <;> rfl
theorem index_two {c d : UInt8} : ∀ {a : List UInt8} (b : List UInt8), c ∉ a → Lib.index (a ++ c :: d :: b) [c, d] = a.length
  | [], b, _ => by simp [Lib.index, List.isPrefixOf]
  | x :: a, b, h => by
    have hx : c ≠ x := fun e => h (by rw [e]; exact List.mem_cons_self)
    have ih := index_two (d := d) (a := a) b (fun hm => h (List.mem_cons_of_mem _ hm))
    show (if [c, d].isPrefixOf (x :: (a ++ c :: d :: b)) then 0 else if Lib.index (a ++ c :: d :: b) [c, d] == -1 then -1 else Lib.index (a ++ c :: d :: b) [c, d] + 1) = _
    rw [ih]
    have h1 : [c, d].isPrefixOf (x :: (a ++ c :: d :: b)) = false := by simp [List.isPrefixOf, hx]
    rw [h1]
    have h2 : ((a.length : Int) == -1) = false := by rw [beq_eq_false_iff_ne]; omega
    rw [h2]
    simp
theorem cut_two {c d : UInt8} {a : List UInt8} (b : List UInt8) (h : c ∉ a) : Lib.cut (a ++ c :: d :: b) [c, d] = (a, b, true) := by
  unfold Lib.cut
  rw [index_two b h, if_pos (by omega)]
  have e1 : ((a.length : Int)).toNat = a.length := by omega
  rw [e1]
  have e2 : (a ++ c :: d :: b).take a.length = a := by simp
  have e3 : (a ++ c :: d :: b).drop (a.length + [c, d].length) = b := by
    rw [← List.drop_drop, List.drop_left]; rfl
  rw [e2, e3]
theorem cTxt_list (c : Con) : (cTxt c).data.toList = 32 :: wL c := by
  unfold cTxt sgS wL sgB8 digS
  simp only [ByteArray.data_append, Array.toList_append]
  cases c.sign == -1 <;> simp [strL]
theorem txB_list : ∀ (L : List Con) (H : ByteArray), (txB H L).data.toList = H.data.toList ++ L.flatMap fun c => 32 :: wL c
  | [], H => by simp [txB]
  | c :: l, H => by
    show (txB (H ++ cTxt c) l).data.toList = _
    rw [txB_list l, ByteArray.data_append, Array.toList_append, cTxt_list]
    simp
theorem cTxt2_list (c : Con) : (cTxt2 c).data.toList = 32 :: wL2 c := by
  unfold cTxt2 odS
  simp only [ByteArray.data_append, Array.toList_append, cTxt_list]
  unfold wL wL2 odL digS
  cases c.odd <;> simp [strL, iiS]
theorem txB2_list : ∀ (L : List Con) (H : ByteArray), (txB2 H L).data.toList = H.data.toList ++ L.flatMap fun c => 32 :: wL2 c
  | [], H => by simp [txB2]
  | c :: l, H => by
    show (txB2 (H ++ cTxt2 c) l).data.toList = _
    rw [txB2_list l, ByteArray.data_append, Array.toList_append, cTxt2_list]
    simp
theorem spl_flat (w : Con → List UInt8) : ∀ (l : List Con) (c : Con), (∀ x ∈ c :: l, (32 : UInt8) ∉ w x) → spl (w c ++ l.flatMap fun x => 32 :: w x) = (c :: l).map w
  | [], c, h => by simpa using spl_word0 (h c (by simp))
  | d :: l, c, h => by
    have ih := spl_flat w l d (fun x hx => h x (List.mem_cons_of_mem _ hx))
    show spl (w c ++ (32 :: w d ++ l.flatMap fun x => 32 :: w x)) = _
    rw [show (32 :: w d ++ l.flatMap fun x => 32 :: w x) = 32 :: (w d ++ l.flatMap fun x => 32 :: w x) from rfl, spl_app _ (h c (by simp)), ih]
    rfl
theorem wL2_free {c : Con} (h : okD c) : (32 : UInt8) ∉ wL2 c := by
  obtain ⟨h, ho1, ho2⟩ := h
  have e1 := itoa_free (n := c.exp) (c := 32) h.1 (.inl (by decide))
  have e2 := itoa_free (n := c.dim) (c := 32) (by omega) (.inl (by decide))
  have e3 := itoa_free (n := c.oddity) (c := 32) ho1 (.inl (by decide))
  have e4 := (sgB8_ne c).2
  unfold wL2 odL
  cases c.odd <;> simp [e1, e2, e3, e4]
theorem words_txT {c : Con} {l : List Con} (h : ∀ x ∈ c :: l, okD x) : wordsS (txT (c :: l)) = (c :: l).map fun x => strL (wL2 x) := by
  have e : (txT (c :: l)).data.toList = [50] ++ 58 :: 32 :: (wL2 c ++ l.flatMap fun x => 32 :: wL2 x) := by
    unfold txT
    rw [txB2_list]
    simp
  unfold wordsS restS cB
  rw [e, cut_two _ (by decide)]
  show (spl (wL2 c ++ l.flatMap fun x => 32 :: wL2 x)).map strL = _
  rw [spl_flat wL2 l c (fun x hx => wL2_free (h x hx)), List.map_map]
  rfl
end Go.Proofs.YtgdhgnhgmbkpdaaGreatDoor.S

namespace Go.Proofs.YtgdhgnhgmbkpdaaGreatDoor.S
open Go.QfSy Go.RowKit
def digB (m : Int) : ByteArray := strL [UInt8.ofNat (48 + (m % 10).toNat)]
def decX (n : Int) (a : ByteArray) : ByteArray := bif decide (10 ≤ n) then digS (n / 10) ++ a else a
theorem strL_app (a b : List UInt8) : strL (a ++ b) = strL a ++ strL b := by
  apply ByteArray.ext
  rw [ByteArray.data_append]
  simp [strL]
theorem dig_small {m : Int} (h0 : 0 ≤ m) (h1 : m < 10) : digS m = digB m := by
  unfold digS digB Lib.itoa
  rw [if_neg (by omega), Lib.decDigits, dif_pos (by omega)]
  have : (m % 10).toNat = m.toNat := by omega
  rw [this]
theorem dig_big {m : Int} (h1 : 10 ≤ m) : digS m = digS (m / 10) ++ digB m := by
  unfold digS digB Lib.itoa
  rw [if_neg (by omega), if_neg (by omega), Lib.decDigits, dif_neg (by omega), strL_app]
  have e1 : m.toNat / 10 = (m / 10).toNat := by omega
  have e2 : m.toNat % 10 = (m % 10).toNat := by omega
  rw [e1, e2]
theorem decX_step {n : Int} (a : ByteArray) (h : 10 ≤ n) : decX n a = decX (n / 10) (digB (n / 10) ++ a) := by
  unfold decX
  rw [decide_eq_true h]
  simp only [cond_true]
  by_cases h2 : 10 ≤ n / 10
  · rw [decide_eq_true h2, dig_big h2]
    simp only [cond_true]
    rw [ByteArray.append_assoc]
  · rw [decide_eq_false h2, dig_small (by omega) (by omega)]
    rfl
theorem dig_num {d : Int} (h0 : 0 ≤ d) (h1 : d < 10) : strOfNums [IntKind.u8.wrap (48 + d)] = strL [UInt8.ofNat (48 + d.toNat)] := by
  have : IntKind.u8.wrap (48 + d) = 48 + d := by
    unfold IntKind.wrap
    simp [IntKind.bits, IntKind.signed]
    omega
  rw [this]
  unfold strOfNums strL
  have e : (48 + d).toNat = 48 + d.toNat := by omega
  simp [e]
theorem dig_wrap {n : Int} (h0 : 0 ≤ n) (h1 : n < 100000) : strOfNums [IntKind.u8.wrap (IntKind.i64.wrap ((48 : Int) + n.tmod 10))] = digB n := by
  have e : n.tmod 10 = n % 10 := Int.tmod_eq_emod_of_nonneg h0
  rw [e, w64 (by omega) (by omega), dig_num (by omega) (by omega)]
  rfl
theorem div_wrap {n : Int} (h0 : 0 ≤ n) (h1 : n < 100000) : IntKind.i64.wrap (n.tdiv 10) = n / 10 := by
  rw [Int.tdiv_eq_ediv_of_nonneg h0, w64 (by omega) (by omega)]
theorem digB_size (m : Int) : (digB m).size = 1 := rfl
theorem decX_end {n : Int} (h0 : 0 ≤ n) : decX n (digB n) = digS n := by
  unfold decX
  by_cases h2 : 10 ≤ n
  · rw [decide_eq_true h2, dig_big h2]; rfl
  · rw [decide_eq_false h2, dig_small h0 (by omega)]; rfl
noncomputable def dmAnn (n : Int) (acc F : ByteArray) : Ann := ⟨⟨[(0, .vint .i64 n), (3, .vstr acc)], [], 1001⟩, none, fun _ => (.exit 0, ⟨[(3, .vstr F)], [], 1001⟩)⟩
theorem dm_loop (n0 : Int) (a0 F : ByteArray) (h0 : 0 ≤ n0) (h1 : n0 < 100000) (ha : a0.size ≤ 10) (hF : decX n0 a0 = F) : AnnOk Tryz.prog EV.ng (Nat.max 1 Tryz.f59.ntmps) (bodyAt Tryz.f59 [0, 0, 1, 1]) (dmAnn n0 a0 F) := by
  refine ann_of evOk (callF_ok evOk (noOrc_ok _ _) 8) none_ann (by kernel_rfl) (by kernel_rfl) (fun i : Int × ByteArray => (fun (q : Int × ByteArray) => (⟨[(0, .vint .i64 q.1), (3, .vstr q.2)], [], 1001⟩ : St)) i) (fun i : Int × ByteArray => (fun (q : Int × ByteArray) => (q.1.toNat : Nat)) i) (fun (d : Bool) (i : Int × ByteArray) => (fun (q : Int × ByteArray) => (0 ≤ q.1 ∧ q.1 < 100000 ∧ q.2.size + q.1.toNat ≤ 200000 ∧ decX q.1 q.2 = F : Prop)) i) ?_ ?_
  · intro d hd
    exact ⟨((n0, a0)), [n0 = n0, a0 = a0], by kernel_rfl, (by refine ⟨?_, (?_ : a0 = a0)⟩ <;> (first | rfl | assumption | omega | simp_all)), (by exact ⟨h0, h1, (by show a0.size + n0.toNat ≤ 200000; omega), hF⟩)⟩
  · rintro d hd q hI
    cases d
    · -- d = false
      obtain ⟨g0, g1, g2, g3⟩ := hI
      refine oe (decide (q.fst ≥ 10)) (fun d1 => ⟨[true], .inl ⟨((q.1 / 10, digB (q.1 / 10) ++ q.2)), [IntKind.i64.wrap (q.fst.tdiv (10 : Int)) = q.fst / (10 : Int), strOfNums [IntKind.u8.wrap (IntKind.i64.wrap ((48 : Int) + (IntKind.i64.wrap (q.fst.tdiv (10 : Int))).tmod (10 : Int)))] ++ q.snd = digB (q.fst / (10 : Int)) ++ q.snd, (strOfNums [IntKind.u8.wrap (IntKind.i64.wrap ((48 : Int) + (IntKind.i64.wrap (q.fst.tdiv (10 : Int))).tmod (10 : Int)))]).size + q.snd.size ≤ (1000000 : Nat), (10 : Int) ≠ (0 : Int), (10 : Int) ≠ (0 : Int), Dec (decide (q.fst ≥ 10)) true], by kernel_rfl, ⟨?_, ?_, ?_, ?_, ?_, d1⟩, MuG.out ?_, InG.out ?_⟩⟩) (fun d1 => ⟨[false], .inr ⟨[q.snd = F, Dec (decide (q.fst ≥ (10 : Int))) false], by kernel_rfl, ⟨?_, d1⟩, rfl⟩⟩)
      all_goals first | (refine MuG.mk ?_; (simp only [decide_eq_true_eq] at *; show (q.1 / 10).toNat < q.1.toNat; omega)) | (refine InG.mk ?_; (simp only [decide_eq_true_eq] at *; exact ⟨by show 0 ≤ q.1 / 10; omega, by show q.1 / 10 < 100000; omega, by show (digB (q.1 / 10) ++ q.2).size + (q.1 / 10).toNat ≤ 200000; rw [ByteArray.size_append, digB_size]; omega, by show decX (q.1 / 10) (digB (q.1 / 10) ++ q.2) = F; rw [← decX_step _ (by omega)]; exact g3⟩)) | (refine CtG.mk ?_; (exact (5 : Nat))) | (first | (with_reducible rfl) | exact div_wrap g0 g1 | (simp only [decide_eq_true_eq, decide_eq_false_iff_not] at d1; first | omega | (rw [div_wrap g0 g1, dig_wrap (by omega) (by omega)]; done) | (rw [div_wrap g0 g1, dig_wrap (by omega) (by omega), digB_size]; omega) | (unfold decX at g3; rw [decide_eq_false (by omega)] at g3; exact g3)))
    · -- d = true
      obtain ⟨g0, g1, g2, g3⟩ := hI
      refine oe (decide (q.fst ≥ 10)) (fun d1 => ⟨[true], .inl ⟨((q.1 / 10, digB (q.1 / 10) ++ q.2)), [IntKind.i64.wrap (q.fst.tdiv (10 : Int)) = q.fst / (10 : Int), strOfNums [IntKind.u8.wrap (IntKind.i64.wrap ((48 : Int) + (IntKind.i64.wrap (q.fst.tdiv (10 : Int))).tmod (10 : Int)))] ++ q.snd = digB (q.fst / (10 : Int)) ++ q.snd, (strOfNums [IntKind.u8.wrap (IntKind.i64.wrap ((48 : Int) + (IntKind.i64.wrap (q.fst.tdiv (10 : Int))).tmod (10 : Int)))]).size + q.snd.size ≤ (1000000 : Nat), (10 : Int) ≠ (0 : Int), (10 : Int) ≠ (0 : Int), Dec (decide (q.fst ≥ 10)) true], by kernel_rfl, ⟨?_, ?_, ?_, ?_, ?_, d1⟩, MuG.out ?_, InG.out ?_⟩⟩) (fun d1 => ⟨[false], .inr ⟨[q.snd = F, Dec (decide (q.fst ≥ (10 : Int))) false], by kernel_rfl, ⟨?_, d1⟩, rfl⟩⟩)
      all_goals first | (refine MuG.mk ?_; (simp only [decide_eq_true_eq] at *; show (q.1 / 10).toNat < q.1.toNat; omega)) | (refine InG.mk ?_; (simp only [decide_eq_true_eq] at *; exact ⟨by show 0 ≤ q.1 / 10; omega, by show q.1 / 10 < 100000; omega, by show (digB (q.1 / 10) ++ q.2).size + (q.1 / 10).toNat ≤ 200000; rw [ByteArray.size_append, digB_size]; omega, by show decX (q.1 / 10) (digB (q.1 / 10) ++ q.2) = F; rw [← decX_step _ (by omega)]; exact g3⟩)) | (refine CtG.mk ?_; (exact (5 : Nat))) | (first | (with_reducible rfl) | exact div_wrap g0 g1 | (simp only [decide_eq_true_eq, decide_eq_false_iff_not] at d1; first | omega | (rw [div_wrap g0 g1, dig_wrap (by omega) (by omega)]; done) | (rw [div_wrap g0 g1, dig_wrap (by omega) (by omega), digB_size]; omega) | (unfold decX at g3; rw [decide_eq_false (by omega)] at g3; exact g3)))
theorem decimal_pure (n : Int) (h0 : 0 ≤ n) (h1 : n < 100000) : PureC Tryz.prog [] 59 [.int .i64 n] (.str (digS n)) := by
  have hl0 := dm_loop n (strOfNums [IntKind.u8.wrap (IntKind.i64.wrap ((48 : Int) + n.tmod (10 : Int)))]) (digS n) h0 h1 (by rw [dig_wrap h0 h1, digB_size]; omega) (by rw [dig_wrap h0 h1]; exact decX_end h0)
  have rr := fun (tp : List Bool) (ms : List Prop) h hm => pure_run evOk (callF_ok evOk (noOrc_ok _ _) 8) Tryz.func59 (A := [.int .i64 n]) (N := Nat.max 1 Tryz.f59.ntmps) rfl (one_ann hl0) rfl rfl evNg (tabs := []) (R := .str (digS n)) (tp := tp) (ms := ms) h hm
  refine rr [] [digS n = digS n, n = n, strOfNums [IntKind.u8.wrap (IntKind.i64.wrap ((48 : Int) + n.tmod (10 : Int)))] = strOfNums [IntKind.u8.wrap (IntKind.i64.wrap ((48 : Int) + n.tmod (10 : Int)))], (10 : Int) ≠ (0 : Int)] (by kernel_rfl) ⟨?_, ?_, ?_, (?_ : (10 : Int) ≠ (0 : Int))⟩
  all_goals first | (first | (with_reducible rfl) | omega)
end Go.Proofs.YtgdhgnhgmbkpdaaGreatDoor.S

namespace Go.Proofs.YtgdhgnhgmbkpdaaGreatDoor.S
open Go.QfSy Go.RowKit
noncomputable def entsDM : List OEnt := [
  ⟨59, [], fun A => match A with
    | [.int .i64 n] => some (.str (digS n), [0 ≤ n ∧ n < 100000])
    | _ => none⟩]
theorem entsDM_ok : ∀ e ∈ entsDM, EntOk Tryz.prog e := by
  intro e he
  unfold entsDM at he
  rw [List.mem_singleton] at he
  subst he
  intro A R ms h hm
  simp only at h
  split at h
  · cases h
    have := hm _ (List.mem_singleton.2 rfl)
    exact decimal_pure _ this.1 this.2
  · cases h
theorem sg_p {x : Int} (h : (x == 1) = true) : (x == -1) = false := by rw [eq_of_beq h]; rfl
theorem sg_m {x : Int} (hs : x = 1 ∨ x = -1) (h : (x == 1) = false) : (x == -1) = true := by
  rcases hs with rfl | rfl
  · cases h
  · rfl
theorem ii3 : (ByteArray.mk #[95, 73, 73]) = ByteArray.mk #[95] ++ ByteArray.mk #[73, 73] := rfl
theorem ii3_size : (ByteArray.mk #[95, 73, 73]).size = 3 := rfl
noncomputable def t1Ann (p : Int) (L : List Con) (H : ByteArray) : Ann := ⟨⟨[(1, .ptr 1000 0), (3, .vstr H), (11, (roC L).av), (12, .vint .i64 L.length), (13, .int .i64 0)], loH p L, 1010⟩, none, fun _ => (.exit 0, ⟨[(3, .vstr (txB H L))], [], 1010⟩)⟩
theorem t1_loop (p : Int) (L : List Con) (H : ByteArray) (hp : p ≠ 2) (hL : ∀ c ∈ L, okD c ∧ (c.sign = 1 ∨ c.sign = -1)) (hn : L.length ≤ 8) (hH : H.size ≤ 100) : AnnOk Tryz.prog EV.ng (Nat.max 1 Tryz.f33.ntmps) (bodyAt Tryz.f33 [0, 1, 0, 1, 1]) (t1Ann p L H) := by
  refine ann_of evOk (callF_ok evOk (orcOf_ok entsDM_ok) 8) none_ann (by kernel_rfl) (by kernel_rfl) (fun i : Nat => (fun (k : Nat) => (⟨[(1, .ptr 1000 0), (3, .vstr (txB H (L.take k))), (11, (roC L).av), (12, .vint .i64 L.length), (13, .vint .i64 (k : Int))], loH p L, 1010⟩ : St)) i) (fun i : Nat => (fun (k : Nat) => (L.length - k : Nat)) i) (fun (d : Bool) (i : Nat) => (fun (k : Nat) => (k ≤ L.length : Prop)) i) ?_ ?_
  · intro d hd
    exact ⟨(0), [H = txB H (List.take (0 : Nat) L), L.length = L.length ∧ (rws L) = (rws L), (↑L.length : Int) = ↑L.length, (0 : Int) = (↑(0 : Nat) : Int), p = p, L.length = L.length ∧ (rws L) = (rws L)], by kernel_rfl, (by refine ⟨?_, ?_, ?_, ?_, ?_, (?_ : L.length = L.length ∧ (rws L) = (rws L))⟩ <;> (first | (with_reducible rfl) | exact ⟨rfl, rfl⟩ | rfl)), (by exact Nat.zero_le _)⟩
  · rintro d hd k hI
    cases d
    · -- d = false
      have hT := txB_size (L := L.take k) (fun c hc => (hL c (List.mem_of_mem_take hc)).1.1) H
      have hTl : (L.take k).length ≤ 8 := by rw [List.length_take]; omega
      have hz : (txB H (L.take k)).size ≤ 300 := by omega
      refine oe (decide ((↑k : Int) < ↑L.length)) (fun d1 => oe ((L.getD k Con.zero).sign == 1) (fun d2 => ⟨[true, true, true], .inl ⟨(k + 1), [txB H (List.take k L) ++ (ByteArray.mk #[(32 : UInt8)] ++ digS (L.getD k Con.zero).exp ++ ByteArray.mk #[(94 : UInt8)]) ++ ByteArray.mk #[(43 : UInt8)] ++ digS (L.getD k Con.zero).dim = txB H (List.take (k + (1 : Nat)) L), L.length = L.length ∧ (rws L) = (rws L), (↑L.length : Int) = ↑L.length, IntKind.i64.wrap ((↑k : Int) + 1) = (↑(k + (1 : Nat)) : Int), p = p, L.length = L.length ∧ (rws L) = (rws L), Dec (p != (2 : Int)) true, (txB H (List.take k L) ++ (ByteArray.mk #[(32 : UInt8)] ++ digS (L.getD k Con.zero).exp ++ ByteArray.mk #[(94 : UInt8)]) ++ ByteArray.mk #[(43 : UInt8)]).size + (digS (L.getD k Con.zero).dim).size ≤ (1000000 : Nat), (0 : Int) ≤ (L.getD k Con.zero).dim ∧ (L.getD k Con.zero).dim < 100000, (txB H (List.take k L) ++ (ByteArray.mk #[(32 : UInt8)] ++ digS (L.getD k Con.zero).exp ++ ByteArray.mk #[(94 : UInt8)])).size + (ByteArray.mk #[(43 : UInt8)]).size ≤ (1000000 : Nat), Dec ((L.getD k Con.zero).sign == 1) true, (txB H (List.take k L)).size + (ByteArray.mk #[(32 : UInt8)] ++ digS (L.getD k Con.zero).exp ++ ByteArray.mk #[(94 : UInt8)]).size ≤ (1000000 : Nat), (ByteArray.mk #[(32 : UInt8)] ++ digS (L.getD k Con.zero).exp).size + (ByteArray.mk #[(94 : UInt8)]).size ≤ (1000000 : Nat), (ByteArray.mk #[(32 : UInt8)]).size + (digS (L.getD k Con.zero).exp).size ≤ (1000000 : Nat), (0 : Int) ≤ (L.getD k Con.zero).exp ∧ (L.getD k Con.zero).exp < 100000, (0 : Int) ≤ ↑k ∧ (↑k : Int) < ↑L.length, Dec (decide ((↑k : Int) < ↑L.length)) true], by kernel_rfl, ⟨?_, ?_, ?_, ?_, ?_, ?_, (dN (beq_false_of_ne hp)), ?_, ?_, ?_, d2, ?_, ?_, ?_, ?_, ?_, d1⟩, MuG.out ?_, InG.out ?_⟩⟩) (fun d2 => ⟨[true, false, true], .inl ⟨(k + 1), [txB H (List.take k L) ++ (ByteArray.mk #[(32 : UInt8)] ++ digS (L.getD k Con.zero).exp ++ ByteArray.mk #[(94 : UInt8)]) ++ ByteArray.mk #[(45 : UInt8)] ++ digS (L.getD k Con.zero).dim = txB H (List.take (k + (1 : Nat)) L), L.length = L.length ∧ (rws L) = (rws L), (↑L.length : Int) = ↑L.length, IntKind.i64.wrap ((↑k : Int) + 1) = (↑(k + (1 : Nat)) : Int), p = p, L.length = L.length ∧ (rws L) = (rws L), Dec (p != (2 : Int)) true, (txB H (List.take k L) ++ (ByteArray.mk #[(32 : UInt8)] ++ digS (L.getD k Con.zero).exp ++ ByteArray.mk #[(94 : UInt8)]) ++ ByteArray.mk #[(45 : UInt8)]).size + (digS (L.getD k Con.zero).dim).size ≤ (1000000 : Nat), (0 : Int) ≤ (L.getD k Con.zero).dim ∧ (L.getD k Con.zero).dim < 100000, (txB H (List.take k L) ++ (ByteArray.mk #[(32 : UInt8)] ++ digS (L.getD k Con.zero).exp ++ ByteArray.mk #[(94 : UInt8)])).size + (ByteArray.mk #[(45 : UInt8)]).size ≤ (1000000 : Nat), Dec ((L.getD k Con.zero).sign == 1) false, (txB H (List.take k L)).size + (ByteArray.mk #[(32 : UInt8)] ++ digS (L.getD k Con.zero).exp ++ ByteArray.mk #[(94 : UInt8)]).size ≤ (1000000 : Nat), (ByteArray.mk #[(32 : UInt8)] ++ digS (L.getD k Con.zero).exp).size + (ByteArray.mk #[(94 : UInt8)]).size ≤ (1000000 : Nat), (ByteArray.mk #[(32 : UInt8)]).size + (digS (L.getD k Con.zero).exp).size ≤ (1000000 : Nat), (0 : Int) ≤ (L.getD k Con.zero).exp ∧ (L.getD k Con.zero).exp < 100000, (0 : Int) ≤ ↑k ∧ (↑k : Int) < ↑L.length, Dec (decide ((↑k : Int) < ↑L.length)) true], by kernel_rfl, ⟨?_, ?_, ?_, ?_, ?_, ?_, (dN (beq_false_of_ne hp)), ?_, ?_, ?_, d2, ?_, ?_, ?_, ?_, ?_, d1⟩, MuG.out ?_, InG.out ?_⟩⟩)) (fun d1 => ⟨[false], .inr ⟨[txB H (List.take k L) = txB H L, Dec (decide ((↑k : Int) < (↑L.length : Int))) false], by kernel_rfl, ⟨?_, d1⟩, rfl⟩⟩)
      all_goals first | (refine MuG.mk ?_; (simp only [decide_eq_true_eq] at *; show L.length - (k + 1) < L.length - k; omega)) | (refine InG.mk ?_; (simp only [decide_eq_true_eq] at *; show k + 1 ≤ L.length; omega)) | (refine CtG.mk ?_; (exact (5 : Nat))) | (first | (with_reducible rfl) | exact ⟨rfl, rfl⟩ | (simp only [decide_eq_true_eq, decide_eq_false_iff_not] at d1; first | omega | (rw [List.take_of_length_le (by omega)]; done) | (rw [w64 (by omega) (by omega)]; omega) | (have hk : k < L.length := (by omega); have hc := hL _ (getD_mem hk); obtain ⟨⟨hc, ho⟩, hsg⟩ := hc; have h1 := digS_size (n := (L.getD k Con.zero).exp) (by omega) (by omega); have h2 := digS_size (n := (L.getD k Con.zero).dim) (by omega) (by omega); have h3 := digS_size (n := (L.getD k Con.zero).oddity) (by omega) (by omega); first | omega | (simp only [ByteArray.size_append, one_size, ii3_size]; omega) | (rw [txB_take H hk, cTxt_p (sg_p d2)]; simp only [ByteArray.append_assoc]; done) | (rw [txB_take H hk, cTxt_m (sg_m hsg d2)]; simp only [ByteArray.append_assoc]; done))))
    · -- d = true
      have hT := txB_size (L := L.take k) (fun c hc => (hL c (List.mem_of_mem_take hc)).1.1) H
      have hTl : (L.take k).length ≤ 8 := by rw [List.length_take]; omega
      have hz : (txB H (L.take k)).size ≤ 300 := by omega
      refine oe (decide ((↑k : Int) < ↑L.length)) (fun d1 => oe ((L.getD k Con.zero).sign == 1) (fun d2 => ⟨[true, true, true], .inl ⟨(k + 1), [txB H (List.take k L) ++ (ByteArray.mk #[(32 : UInt8)] ++ digS (L.getD k Con.zero).exp ++ ByteArray.mk #[(94 : UInt8)]) ++ ByteArray.mk #[(43 : UInt8)] ++ digS (L.getD k Con.zero).dim = txB H (List.take (k + (1 : Nat)) L), L.length = L.length ∧ (rws L) = (rws L), (↑L.length : Int) = ↑L.length, IntKind.i64.wrap ((↑k : Int) + 1) = (↑(k + (1 : Nat)) : Int), p = p, L.length = L.length ∧ (rws L) = (rws L), Dec (p != (2 : Int)) true, (txB H (List.take k L) ++ (ByteArray.mk #[(32 : UInt8)] ++ digS (L.getD k Con.zero).exp ++ ByteArray.mk #[(94 : UInt8)]) ++ ByteArray.mk #[(43 : UInt8)]).size + (digS (L.getD k Con.zero).dim).size ≤ (1000000 : Nat), (0 : Int) ≤ (L.getD k Con.zero).dim ∧ (L.getD k Con.zero).dim < 100000, (txB H (List.take k L) ++ (ByteArray.mk #[(32 : UInt8)] ++ digS (L.getD k Con.zero).exp ++ ByteArray.mk #[(94 : UInt8)])).size + (ByteArray.mk #[(43 : UInt8)]).size ≤ (1000000 : Nat), Dec ((L.getD k Con.zero).sign == 1) true, (txB H (List.take k L)).size + (ByteArray.mk #[(32 : UInt8)] ++ digS (L.getD k Con.zero).exp ++ ByteArray.mk #[(94 : UInt8)]).size ≤ (1000000 : Nat), (ByteArray.mk #[(32 : UInt8)] ++ digS (L.getD k Con.zero).exp).size + (ByteArray.mk #[(94 : UInt8)]).size ≤ (1000000 : Nat), (ByteArray.mk #[(32 : UInt8)]).size + (digS (L.getD k Con.zero).exp).size ≤ (1000000 : Nat), (0 : Int) ≤ (L.getD k Con.zero).exp ∧ (L.getD k Con.zero).exp < 100000, (0 : Int) ≤ ↑k ∧ (↑k : Int) < ↑L.length, Dec (decide ((↑k : Int) < ↑L.length)) true], by kernel_rfl, ⟨?_, ?_, ?_, ?_, ?_, ?_, (dN (beq_false_of_ne hp)), ?_, ?_, ?_, d2, ?_, ?_, ?_, ?_, ?_, d1⟩, MuG.out ?_, InG.out ?_⟩⟩) (fun d2 => ⟨[true, false, true], .inl ⟨(k + 1), [txB H (List.take k L) ++ (ByteArray.mk #[(32 : UInt8)] ++ digS (L.getD k Con.zero).exp ++ ByteArray.mk #[(94 : UInt8)]) ++ ByteArray.mk #[(45 : UInt8)] ++ digS (L.getD k Con.zero).dim = txB H (List.take (k + (1 : Nat)) L), L.length = L.length ∧ (rws L) = (rws L), (↑L.length : Int) = ↑L.length, IntKind.i64.wrap ((↑k : Int) + 1) = (↑(k + (1 : Nat)) : Int), p = p, L.length = L.length ∧ (rws L) = (rws L), Dec (p != (2 : Int)) true, (txB H (List.take k L) ++ (ByteArray.mk #[(32 : UInt8)] ++ digS (L.getD k Con.zero).exp ++ ByteArray.mk #[(94 : UInt8)]) ++ ByteArray.mk #[(45 : UInt8)]).size + (digS (L.getD k Con.zero).dim).size ≤ (1000000 : Nat), (0 : Int) ≤ (L.getD k Con.zero).dim ∧ (L.getD k Con.zero).dim < 100000, (txB H (List.take k L) ++ (ByteArray.mk #[(32 : UInt8)] ++ digS (L.getD k Con.zero).exp ++ ByteArray.mk #[(94 : UInt8)])).size + (ByteArray.mk #[(45 : UInt8)]).size ≤ (1000000 : Nat), Dec ((L.getD k Con.zero).sign == 1) false, (txB H (List.take k L)).size + (ByteArray.mk #[(32 : UInt8)] ++ digS (L.getD k Con.zero).exp ++ ByteArray.mk #[(94 : UInt8)]).size ≤ (1000000 : Nat), (ByteArray.mk #[(32 : UInt8)] ++ digS (L.getD k Con.zero).exp).size + (ByteArray.mk #[(94 : UInt8)]).size ≤ (1000000 : Nat), (ByteArray.mk #[(32 : UInt8)]).size + (digS (L.getD k Con.zero).exp).size ≤ (1000000 : Nat), (0 : Int) ≤ (L.getD k Con.zero).exp ∧ (L.getD k Con.zero).exp < 100000, (0 : Int) ≤ ↑k ∧ (↑k : Int) < ↑L.length, Dec (decide ((↑k : Int) < ↑L.length)) true], by kernel_rfl, ⟨?_, ?_, ?_, ?_, ?_, ?_, (dN (beq_false_of_ne hp)), ?_, ?_, ?_, d2, ?_, ?_, ?_, ?_, ?_, d1⟩, MuG.out ?_, InG.out ?_⟩⟩)) (fun d1 => ⟨[false], .inr ⟨[txB H (List.take k L) = txB H L, Dec (decide ((↑k : Int) < (↑L.length : Int))) false], by kernel_rfl, ⟨?_, d1⟩, rfl⟩⟩)
      all_goals first | (refine MuG.mk ?_; (simp only [decide_eq_true_eq] at *; show L.length - (k + 1) < L.length - k; omega)) | (refine InG.mk ?_; (simp only [decide_eq_true_eq] at *; show k + 1 ≤ L.length; omega)) | (refine CtG.mk ?_; (exact (5 : Nat))) | (first | (with_reducible rfl) | exact ⟨rfl, rfl⟩ | (simp only [decide_eq_true_eq, decide_eq_false_iff_not] at d1; first | omega | (rw [List.take_of_length_le (by omega)]; done) | (rw [w64 (by omega) (by omega)]; omega) | (have hk : k < L.length := (by omega); have hc := hL _ (getD_mem hk); obtain ⟨⟨hc, ho⟩, hsg⟩ := hc; have h1 := digS_size (n := (L.getD k Con.zero).exp) (by omega) (by omega); have h2 := digS_size (n := (L.getD k Con.zero).dim) (by omega) (by omega); have h3 := digS_size (n := (L.getD k Con.zero).oddity) (by omega) (by omega); first | omega | (simp only [ByteArray.size_append, one_size, ii3_size]; omega) | (rw [txB_take H hk, cTxt_p (sg_p d2)]; simp only [ByteArray.append_assoc]; done) | (rw [txB_take H hk, cTxt_m (sg_m hsg d2)]; simp only [ByteArray.append_assoc]; done))))
noncomputable def t2Ann (p : Int) (L : List Con) (H : ByteArray) : Ann := ⟨⟨[(1, .ptr 1000 0), (3, .vstr H), (11, (roC L).av), (12, .vint .i64 L.length), (13, .int .i64 0)], loH p L, 1010⟩, none, fun _ => (.exit 0, ⟨[(3, .vstr (txB2 H L))], [], 1010⟩)⟩
theorem t2_loop (p : Int) (L : List Con) (H : ByteArray) (hp : p = 2) (hL : ∀ c ∈ L, okD c ∧ (c.sign = 1 ∨ c.sign = -1)) (hn : L.length ≤ 8) (hH : H.size ≤ 100) : AnnOk Tryz.prog EV.ng (Nat.max 1 Tryz.f33.ntmps) (bodyAt Tryz.f33 [0, 1, 0, 1, 1]) (t2Ann p L H) := by
  refine ann_of evOk (callF_ok evOk (orcOf_ok entsDM_ok) 8) none_ann (by kernel_rfl) (by kernel_rfl) (fun i : Nat => (fun (k : Nat) => (⟨[(1, .ptr 1000 0), (3, .vstr (txB2 H (L.take k))), (11, (roC L).av), (12, .vint .i64 L.length), (13, .vint .i64 (k : Int))], loH p L, 1010⟩ : St)) i) (fun i : Nat => (fun (k : Nat) => (L.length - k : Nat)) i) (fun (d : Bool) (i : Nat) => (fun (k : Nat) => (k ≤ L.length : Prop)) i) ?_ ?_
  · intro d hd
    exact ⟨(0), [H = txB2 H (List.take (0 : Nat) L), L.length = L.length ∧ (rws L) = (rws L), (↑L.length : Int) = ↑L.length, (0 : Int) = (↑(0 : Nat) : Int), p = p, L.length = L.length ∧ (rws L) = (rws L)], by kernel_rfl, (by refine ⟨?_, ?_, ?_, ?_, ?_, (?_ : L.length = L.length ∧ (rws L) = (rws L))⟩ <;> (first | (with_reducible rfl) | exact ⟨rfl, rfl⟩ | rfl)), (by exact Nat.zero_le _)⟩
  · rintro d hd k hI
    cases d
    · -- d = false
      have hb : (p == (2 : Int)) = true := (by rw [hp]; rfl)
      have hT := txB2_size (L := L.take k) (fun c hc => (hL c (List.mem_of_mem_take hc)).1) H
      have hTl : (L.take k).length ≤ 8 := by rw [List.length_take]; omega
      have hz : (txB2 H (L.take k)).size ≤ 300 := by omega
      refine oe (decide ((↑k : Int) < ↑L.length)) (fun d1 => oe ((L.getD k Con.zero).sign == 1) (fun d2 => oe ((L.getD k Con.zero).odd) (fun d3 => ⟨[true, true, false, true], .inl ⟨(k + 1), [txB2 H (List.take k L) ++ (ByteArray.mk #[(32 : UInt8)] ++ digS (L.getD k Con.zero).exp ++ ByteArray.mk #[(94 : UInt8)]) ++ ByteArray.mk #[(43 : UInt8)] ++ digS (L.getD k Con.zero).dim ++ (ByteArray.mk #[(95 : UInt8)] ++ digS (L.getD k Con.zero).oddity) = txB2 H (List.take (k + (1 : Nat)) L), L.length = L.length ∧ (rws L) = (rws L), (↑L.length : Int) = ↑L.length, IntKind.i64.wrap ((↑k : Int) + 1) = (↑(k + (1 : Nat)) : Int), p = p, L.length = L.length ∧ (rws L) = (rws L), (txB2 H (List.take k L) ++ (ByteArray.mk #[(32 : UInt8)] ++ digS (L.getD k Con.zero).exp ++ ByteArray.mk #[(94 : UInt8)]) ++ ByteArray.mk #[(43 : UInt8)] ++ digS (L.getD k Con.zero).dim).size + (ByteArray.mk #[(95 : UInt8)] ++ digS (L.getD k Con.zero).oddity).size ≤ (1000000 : Nat), (ByteArray.mk #[(95 : UInt8)]).size + (digS (L.getD k Con.zero).oddity).size ≤ (1000000 : Nat), (0 : Int) ≤ (L.getD k Con.zero).oddity ∧ (L.getD k Con.zero).oddity < 100000, Dec (L.getD k Con.zero).odd true, Dec (p != (2 : Int)) false, (txB2 H (List.take k L) ++ (ByteArray.mk #[(32 : UInt8)] ++ digS (L.getD k Con.zero).exp ++ ByteArray.mk #[(94 : UInt8)]) ++ ByteArray.mk #[(43 : UInt8)]).size + (digS (L.getD k Con.zero).dim).size ≤ (1000000 : Nat), (0 : Int) ≤ (L.getD k Con.zero).dim ∧ (L.getD k Con.zero).dim < 100000, (txB2 H (List.take k L) ++ (ByteArray.mk #[(32 : UInt8)] ++ digS (L.getD k Con.zero).exp ++ ByteArray.mk #[(94 : UInt8)])).size + (ByteArray.mk #[(43 : UInt8)]).size ≤ (1000000 : Nat), Dec ((L.getD k Con.zero).sign == 1) true, (txB2 H (List.take k L)).size + (ByteArray.mk #[(32 : UInt8)] ++ digS (L.getD k Con.zero).exp ++ ByteArray.mk #[(94 : UInt8)]).size ≤ (1000000 : Nat), (ByteArray.mk #[(32 : UInt8)] ++ digS (L.getD k Con.zero).exp).size + (ByteArray.mk #[(94 : UInt8)]).size ≤ (1000000 : Nat), (ByteArray.mk #[(32 : UInt8)]).size + (digS (L.getD k Con.zero).exp).size ≤ (1000000 : Nat), (0 : Int) ≤ (L.getD k Con.zero).exp ∧ (L.getD k Con.zero).exp < 100000, (0 : Int) ≤ ↑k ∧ (↑k : Int) < ↑L.length, Dec (decide ((↑k : Int) < ↑L.length)) true], by kernel_rfl, ⟨?_, ?_, ?_, ?_, ?_, ?_, ?_, ?_, ?_, d3, (dN hb), ?_, ?_, ?_, d2, ?_, ?_, ?_, ?_, ?_, d1⟩, MuG.out ?_, InG.out ?_⟩⟩) (fun d3 => ⟨[true, true, false, false], .inl ⟨(k + 1), [txB2 H (List.take k L) ++ (ByteArray.mk #[(32 : UInt8)] ++ digS (L.getD k Con.zero).exp ++ ByteArray.mk #[(94 : UInt8)]) ++ ByteArray.mk #[(43 : UInt8)] ++ digS (L.getD k Con.zero).dim ++ ByteArray.mk #[(95 : UInt8), (73 : UInt8), (73 : UInt8)] = txB2 H (List.take (k + (1 : Nat)) L), L.length = L.length ∧ (rws L) = (rws L), (↑L.length : Int) = ↑L.length, IntKind.i64.wrap ((↑k : Int) + 1) = (↑(k + (1 : Nat)) : Int), p = p, L.length = L.length ∧ (rws L) = (rws L), (txB2 H (List.take k L) ++ (ByteArray.mk #[(32 : UInt8)] ++ digS (L.getD k Con.zero).exp ++ ByteArray.mk #[(94 : UInt8)]) ++ ByteArray.mk #[(43 : UInt8)] ++ digS (L.getD k Con.zero).dim).size + (ByteArray.mk #[(95 : UInt8), (73 : UInt8), (73 : UInt8)]).size ≤ (1000000 : Nat), Dec (L.getD k Con.zero).odd false, Dec (p != (2 : Int)) false, (txB2 H (List.take k L) ++ (ByteArray.mk #[(32 : UInt8)] ++ digS (L.getD k Con.zero).exp ++ ByteArray.mk #[(94 : UInt8)]) ++ ByteArray.mk #[(43 : UInt8)]).size + (digS (L.getD k Con.zero).dim).size ≤ (1000000 : Nat), (0 : Int) ≤ (L.getD k Con.zero).dim ∧ (L.getD k Con.zero).dim < 100000, (txB2 H (List.take k L) ++ (ByteArray.mk #[(32 : UInt8)] ++ digS (L.getD k Con.zero).exp ++ ByteArray.mk #[(94 : UInt8)])).size + (ByteArray.mk #[(43 : UInt8)]).size ≤ (1000000 : Nat), Dec ((L.getD k Con.zero).sign == 1) true, (txB2 H (List.take k L)).size + (ByteArray.mk #[(32 : UInt8)] ++ digS (L.getD k Con.zero).exp ++ ByteArray.mk #[(94 : UInt8)]).size ≤ (1000000 : Nat), (ByteArray.mk #[(32 : UInt8)] ++ digS (L.getD k Con.zero).exp).size + (ByteArray.mk #[(94 : UInt8)]).size ≤ (1000000 : Nat), (ByteArray.mk #[(32 : UInt8)]).size + (digS (L.getD k Con.zero).exp).size ≤ (1000000 : Nat), (0 : Int) ≤ (L.getD k Con.zero).exp ∧ (L.getD k Con.zero).exp < 100000, (0 : Int) ≤ ↑k ∧ (↑k : Int) < ↑L.length, Dec (decide ((↑k : Int) < ↑L.length)) true], by kernel_rfl, ⟨?_, ?_, ?_, ?_, ?_, ?_, ?_, d3, (dN hb), ?_, ?_, ?_, d2, ?_, ?_, ?_, ?_, ?_, d1⟩, MuG.out ?_, InG.out ?_⟩⟩)) (fun d2 => oe ((L.getD k Con.zero).odd) (fun d3 => ⟨[true, false, false, true], .inl ⟨(k + 1), [txB2 H (List.take k L) ++ (ByteArray.mk #[(32 : UInt8)] ++ digS (L.getD k Con.zero).exp ++ ByteArray.mk #[(94 : UInt8)]) ++ ByteArray.mk #[(45 : UInt8)] ++ digS (L.getD k Con.zero).dim ++ (ByteArray.mk #[(95 : UInt8)] ++ digS (L.getD k Con.zero).oddity) = txB2 H (List.take (k + (1 : Nat)) L), L.length = L.length ∧ (rws L) = (rws L), (↑L.length : Int) = ↑L.length, IntKind.i64.wrap ((↑k : Int) + 1) = (↑(k + (1 : Nat)) : Int), p = p, L.length = L.length ∧ (rws L) = (rws L), (txB2 H (List.take k L) ++ (ByteArray.mk #[(32 : UInt8)] ++ digS (L.getD k Con.zero).exp ++ ByteArray.mk #[(94 : UInt8)]) ++ ByteArray.mk #[(45 : UInt8)] ++ digS (L.getD k Con.zero).dim).size + (ByteArray.mk #[(95 : UInt8)] ++ digS (L.getD k Con.zero).oddity).size ≤ (1000000 : Nat), (ByteArray.mk #[(95 : UInt8)]).size + (digS (L.getD k Con.zero).oddity).size ≤ (1000000 : Nat), (0 : Int) ≤ (L.getD k Con.zero).oddity ∧ (L.getD k Con.zero).oddity < 100000, Dec (L.getD k Con.zero).odd true, Dec (p != (2 : Int)) false, (txB2 H (List.take k L) ++ (ByteArray.mk #[(32 : UInt8)] ++ digS (L.getD k Con.zero).exp ++ ByteArray.mk #[(94 : UInt8)]) ++ ByteArray.mk #[(45 : UInt8)]).size + (digS (L.getD k Con.zero).dim).size ≤ (1000000 : Nat), (0 : Int) ≤ (L.getD k Con.zero).dim ∧ (L.getD k Con.zero).dim < 100000, (txB2 H (List.take k L) ++ (ByteArray.mk #[(32 : UInt8)] ++ digS (L.getD k Con.zero).exp ++ ByteArray.mk #[(94 : UInt8)])).size + (ByteArray.mk #[(45 : UInt8)]).size ≤ (1000000 : Nat), Dec ((L.getD k Con.zero).sign == 1) false, (txB2 H (List.take k L)).size + (ByteArray.mk #[(32 : UInt8)] ++ digS (L.getD k Con.zero).exp ++ ByteArray.mk #[(94 : UInt8)]).size ≤ (1000000 : Nat), (ByteArray.mk #[(32 : UInt8)] ++ digS (L.getD k Con.zero).exp).size + (ByteArray.mk #[(94 : UInt8)]).size ≤ (1000000 : Nat), (ByteArray.mk #[(32 : UInt8)]).size + (digS (L.getD k Con.zero).exp).size ≤ (1000000 : Nat), (0 : Int) ≤ (L.getD k Con.zero).exp ∧ (L.getD k Con.zero).exp < 100000, (0 : Int) ≤ ↑k ∧ (↑k : Int) < ↑L.length, Dec (decide ((↑k : Int) < ↑L.length)) true], by kernel_rfl, ⟨?_, ?_, ?_, ?_, ?_, ?_, ?_, ?_, ?_, d3, (dN hb), ?_, ?_, ?_, d2, ?_, ?_, ?_, ?_, ?_, d1⟩, MuG.out ?_, InG.out ?_⟩⟩) (fun d3 => ⟨[true, false, false, false], .inl ⟨(k + 1), [txB2 H (List.take k L) ++ (ByteArray.mk #[(32 : UInt8)] ++ digS (L.getD k Con.zero).exp ++ ByteArray.mk #[(94 : UInt8)]) ++ ByteArray.mk #[(45 : UInt8)] ++ digS (L.getD k Con.zero).dim ++ ByteArray.mk #[(95 : UInt8), (73 : UInt8), (73 : UInt8)] = txB2 H (List.take (k + (1 : Nat)) L), L.length = L.length ∧ (rws L) = (rws L), (↑L.length : Int) = ↑L.length, IntKind.i64.wrap ((↑k : Int) + 1) = (↑(k + (1 : Nat)) : Int), p = p, L.length = L.length ∧ (rws L) = (rws L), (txB2 H (List.take k L) ++ (ByteArray.mk #[(32 : UInt8)] ++ digS (L.getD k Con.zero).exp ++ ByteArray.mk #[(94 : UInt8)]) ++ ByteArray.mk #[(45 : UInt8)] ++ digS (L.getD k Con.zero).dim).size + (ByteArray.mk #[(95 : UInt8), (73 : UInt8), (73 : UInt8)]).size ≤ (1000000 : Nat), Dec (L.getD k Con.zero).odd false, Dec (p != (2 : Int)) false, (txB2 H (List.take k L) ++ (ByteArray.mk #[(32 : UInt8)] ++ digS (L.getD k Con.zero).exp ++ ByteArray.mk #[(94 : UInt8)]) ++ ByteArray.mk #[(45 : UInt8)]).size + (digS (L.getD k Con.zero).dim).size ≤ (1000000 : Nat), (0 : Int) ≤ (L.getD k Con.zero).dim ∧ (L.getD k Con.zero).dim < 100000, (txB2 H (List.take k L) ++ (ByteArray.mk #[(32 : UInt8)] ++ digS (L.getD k Con.zero).exp ++ ByteArray.mk #[(94 : UInt8)])).size + (ByteArray.mk #[(45 : UInt8)]).size ≤ (1000000 : Nat), Dec ((L.getD k Con.zero).sign == 1) false, (txB2 H (List.take k L)).size + (ByteArray.mk #[(32 : UInt8)] ++ digS (L.getD k Con.zero).exp ++ ByteArray.mk #[(94 : UInt8)]).size ≤ (1000000 : Nat), (ByteArray.mk #[(32 : UInt8)] ++ digS (L.getD k Con.zero).exp).size + (ByteArray.mk #[(94 : UInt8)]).size ≤ (1000000 : Nat), (ByteArray.mk #[(32 : UInt8)]).size + (digS (L.getD k Con.zero).exp).size ≤ (1000000 : Nat), (0 : Int) ≤ (L.getD k Con.zero).exp ∧ (L.getD k Con.zero).exp < 100000, (0 : Int) ≤ ↑k ∧ (↑k : Int) < ↑L.length, Dec (decide ((↑k : Int) < ↑L.length)) true], by kernel_rfl, ⟨?_, ?_, ?_, ?_, ?_, ?_, ?_, d3, (dN hb), ?_, ?_, ?_, d2, ?_, ?_, ?_, ?_, ?_, d1⟩, MuG.out ?_, InG.out ?_⟩⟩))) (fun d1 => ⟨[false], .inr ⟨[txB2 H (List.take k L) = txB2 H L, Dec (decide ((↑k : Int) < (↑L.length : Int))) false], by kernel_rfl, ⟨?_, d1⟩, rfl⟩⟩)
      all_goals first | (refine MuG.mk ?_; (simp only [decide_eq_true_eq] at *; show L.length - (k + 1) < L.length - k; omega)) | (refine InG.mk ?_; (simp only [decide_eq_true_eq] at *; show k + 1 ≤ L.length; omega)) | (refine CtG.mk ?_; (exact (5 : Nat))) | (first | (with_reducible rfl) | exact ⟨rfl, rfl⟩ | (simp only [decide_eq_true_eq, decide_eq_false_iff_not] at d1; first | omega | (rw [List.take_of_length_le (by omega)]; done) | (rw [w64 (by omega) (by omega)]; omega) | (have hk : k < L.length := (by omega); have hc := hL _ (getD_mem hk); obtain ⟨⟨hc, ho⟩, hsg⟩ := hc; have h1 := digS_size (n := (L.getD k Con.zero).exp) (by omega) (by omega); have h2 := digS_size (n := (L.getD k Con.zero).dim) (by omega) (by omega); have h3 := digS_size (n := (L.getD k Con.zero).oddity) (by omega) (by omega); first | omega | (simp only [ByteArray.size_append, one_size, ii3_size]; omega) | (rw [txB2_take H hk, cTxt2_po (sg_p d2) d3]; simp only [ii3, ByteArray.append_assoc]; done) | (rw [txB2_take H hk, cTxt2_pe (sg_p d2) d3]; simp only [ii3, ByteArray.append_assoc]; done) | (rw [txB2_take H hk, cTxt2_mo (sg_m hsg d2) d3]; simp only [ii3, ByteArray.append_assoc]; done) | (rw [txB2_take H hk, cTxt2_me (sg_m hsg d2) d3]; simp only [ii3, ByteArray.append_assoc]; done))))
    · -- d = true
      have hb : (p == (2 : Int)) = true := (by rw [hp]; rfl)
      have hT := txB2_size (L := L.take k) (fun c hc => (hL c (List.mem_of_mem_take hc)).1) H
      have hTl : (L.take k).length ≤ 8 := by rw [List.length_take]; omega
      have hz : (txB2 H (L.take k)).size ≤ 300 := by omega
      refine oe (decide ((↑k : Int) < ↑L.length)) (fun d1 => oe ((L.getD k Con.zero).sign == 1) (fun d2 => oe ((L.getD k Con.zero).odd) (fun d3 => ⟨[true, true, false, true], .inl ⟨(k + 1), [txB2 H (List.take k L) ++ (ByteArray.mk #[(32 : UInt8)] ++ digS (L.getD k Con.zero).exp ++ ByteArray.mk #[(94 : UInt8)]) ++ ByteArray.mk #[(43 : UInt8)] ++ digS (L.getD k Con.zero).dim ++ (ByteArray.mk #[(95 : UInt8)] ++ digS (L.getD k Con.zero).oddity) = txB2 H (List.take (k + (1 : Nat)) L), L.length = L.length ∧ (rws L) = (rws L), (↑L.length : Int) = ↑L.length, IntKind.i64.wrap ((↑k : Int) + 1) = (↑(k + (1 : Nat)) : Int), p = p, L.length = L.length ∧ (rws L) = (rws L), (txB2 H (List.take k L) ++ (ByteArray.mk #[(32 : UInt8)] ++ digS (L.getD k Con.zero).exp ++ ByteArray.mk #[(94 : UInt8)]) ++ ByteArray.mk #[(43 : UInt8)] ++ digS (L.getD k Con.zero).dim).size + (ByteArray.mk #[(95 : UInt8)] ++ digS (L.getD k Con.zero).oddity).size ≤ (1000000 : Nat), (ByteArray.mk #[(95 : UInt8)]).size + (digS (L.getD k Con.zero).oddity).size ≤ (1000000 : Nat), (0 : Int) ≤ (L.getD k Con.zero).oddity ∧ (L.getD k Con.zero).oddity < 100000, Dec (L.getD k Con.zero).odd true, Dec (p != (2 : Int)) false, (txB2 H (List.take k L) ++ (ByteArray.mk #[(32 : UInt8)] ++ digS (L.getD k Con.zero).exp ++ ByteArray.mk #[(94 : UInt8)]) ++ ByteArray.mk #[(43 : UInt8)]).size + (digS (L.getD k Con.zero).dim).size ≤ (1000000 : Nat), (0 : Int) ≤ (L.getD k Con.zero).dim ∧ (L.getD k Con.zero).dim < 100000, (txB2 H (List.take k L) ++ (ByteArray.mk #[(32 : UInt8)] ++ digS (L.getD k Con.zero).exp ++ ByteArray.mk #[(94 : UInt8)])).size + (ByteArray.mk #[(43 : UInt8)]).size ≤ (1000000 : Nat), Dec ((L.getD k Con.zero).sign == 1) true, (txB2 H (List.take k L)).size + (ByteArray.mk #[(32 : UInt8)] ++ digS (L.getD k Con.zero).exp ++ ByteArray.mk #[(94 : UInt8)]).size ≤ (1000000 : Nat), (ByteArray.mk #[(32 : UInt8)] ++ digS (L.getD k Con.zero).exp).size + (ByteArray.mk #[(94 : UInt8)]).size ≤ (1000000 : Nat), (ByteArray.mk #[(32 : UInt8)]).size + (digS (L.getD k Con.zero).exp).size ≤ (1000000 : Nat), (0 : Int) ≤ (L.getD k Con.zero).exp ∧ (L.getD k Con.zero).exp < 100000, (0 : Int) ≤ ↑k ∧ (↑k : Int) < ↑L.length, Dec (decide ((↑k : Int) < ↑L.length)) true], by kernel_rfl, ⟨?_, ?_, ?_, ?_, ?_, ?_, ?_, ?_, ?_, d3, (dN hb), ?_, ?_, ?_, d2, ?_, ?_, ?_, ?_, ?_, d1⟩, MuG.out ?_, InG.out ?_⟩⟩) (fun d3 => ⟨[true, true, false, false], .inl ⟨(k + 1), [txB2 H (List.take k L) ++ (ByteArray.mk #[(32 : UInt8)] ++ digS (L.getD k Con.zero).exp ++ ByteArray.mk #[(94 : UInt8)]) ++ ByteArray.mk #[(43 : UInt8)] ++ digS (L.getD k Con.zero).dim ++ ByteArray.mk #[(95 : UInt8), (73 : UInt8), (73 : UInt8)] = txB2 H (List.take (k + (1 : Nat)) L), L.length = L.length ∧ (rws L) = (rws L), (↑L.length : Int) = ↑L.length, IntKind.i64.wrap ((↑k : Int) + 1) = (↑(k + (1 : Nat)) : Int), p = p, L.length = L.length ∧ (rws L) = (rws L), (txB2 H (List.take k L) ++ (ByteArray.mk #[(32 : UInt8)] ++ digS (L.getD k Con.zero).exp ++ ByteArray.mk #[(94 : UInt8)]) ++ ByteArray.mk #[(43 : UInt8)] ++ digS (L.getD k Con.zero).dim).size + (ByteArray.mk #[(95 : UInt8), (73 : UInt8), (73 : UInt8)]).size ≤ (1000000 : Nat), Dec (L.getD k Con.zero).odd false, Dec (p != (2 : Int)) false, (txB2 H (List.take k L) ++ (ByteArray.mk #[(32 : UInt8)] ++ digS (L.getD k Con.zero).exp ++ ByteArray.mk #[(94 : UInt8)]) ++ ByteArray.mk #[(43 : UInt8)]).size + (digS (L.getD k Con.zero).dim).size ≤ (1000000 : Nat), (0 : Int) ≤ (L.getD k Con.zero).dim ∧ (L.getD k Con.zero).dim < 100000, (txB2 H (List.take k L) ++ (ByteArray.mk #[(32 : UInt8)] ++ digS (L.getD k Con.zero).exp ++ ByteArray.mk #[(94 : UInt8)])).size + (ByteArray.mk #[(43 : UInt8)]).size ≤ (1000000 : Nat), Dec ((L.getD k Con.zero).sign == 1) true, (txB2 H (List.take k L)).size + (ByteArray.mk #[(32 : UInt8)] ++ digS (L.getD k Con.zero).exp ++ ByteArray.mk #[(94 : UInt8)]).size ≤ (1000000 : Nat), (ByteArray.mk #[(32 : UInt8)] ++ digS (L.getD k Con.zero).exp).size + (ByteArray.mk #[(94 : UInt8)]).size ≤ (1000000 : Nat), (ByteArray.mk #[(32 : UInt8)]).size + (digS (L.getD k Con.zero).exp).size ≤ (1000000 : Nat), (0 : Int) ≤ (L.getD k Con.zero).exp ∧ (L.getD k Con.zero).exp < 100000, (0 : Int) ≤ ↑k ∧ (↑k : Int) < ↑L.length, Dec (decide ((↑k : Int) < ↑L.length)) true], by kernel_rfl, ⟨?_, ?_, ?_, ?_, ?_, ?_, ?_, d3, (dN hb), ?_, ?_, ?_, d2, ?_, ?_, ?_, ?_, ?_, d1⟩, MuG.out ?_, InG.out ?_⟩⟩)) (fun d2 => oe ((L.getD k Con.zero).odd) (fun d3 => ⟨[true, false, false, true], .inl ⟨(k + 1), [txB2 H (List.take k L) ++ (ByteArray.mk #[(32 : UInt8)] ++ digS (L.getD k Con.zero).exp ++ ByteArray.mk #[(94 : UInt8)]) ++ ByteArray.mk #[(45 : UInt8)] ++ digS (L.getD k Con.zero).dim ++ (ByteArray.mk #[(95 : UInt8)] ++ digS (L.getD k Con.zero).oddity) = txB2 H (List.take (k + (1 : Nat)) L), L.length = L.length ∧ (rws L) = (rws L), (↑L.length : Int) = ↑L.length, IntKind.i64.wrap ((↑k : Int) + 1) = (↑(k + (1 : Nat)) : Int), p = p, L.length = L.length ∧ (rws L) = (rws L), (txB2 H (List.take k L) ++ (ByteArray.mk #[(32 : UInt8)] ++ digS (L.getD k Con.zero).exp ++ ByteArray.mk #[(94 : UInt8)]) ++ ByteArray.mk #[(45 : UInt8)] ++ digS (L.getD k Con.zero).dim).size + (ByteArray.mk #[(95 : UInt8)] ++ digS (L.getD k Con.zero).oddity).size ≤ (1000000 : Nat), (ByteArray.mk #[(95 : UInt8)]).size + (digS (L.getD k Con.zero).oddity).size ≤ (1000000 : Nat), (0 : Int) ≤ (L.getD k Con.zero).oddity ∧ (L.getD k Con.zero).oddity < 100000, Dec (L.getD k Con.zero).odd true, Dec (p != (2 : Int)) false, (txB2 H (List.take k L) ++ (ByteArray.mk #[(32 : UInt8)] ++ digS (L.getD k Con.zero).exp ++ ByteArray.mk #[(94 : UInt8)]) ++ ByteArray.mk #[(45 : UInt8)]).size + (digS (L.getD k Con.zero).dim).size ≤ (1000000 : Nat), (0 : Int) ≤ (L.getD k Con.zero).dim ∧ (L.getD k Con.zero).dim < 100000, (txB2 H (List.take k L) ++ (ByteArray.mk #[(32 : UInt8)] ++ digS (L.getD k Con.zero).exp ++ ByteArray.mk #[(94 : UInt8)])).size + (ByteArray.mk #[(45 : UInt8)]).size ≤ (1000000 : Nat), Dec ((L.getD k Con.zero).sign == 1) false, (txB2 H (List.take k L)).size + (ByteArray.mk #[(32 : UInt8)] ++ digS (L.getD k Con.zero).exp ++ ByteArray.mk #[(94 : UInt8)]).size ≤ (1000000 : Nat), (ByteArray.mk #[(32 : UInt8)] ++ digS (L.getD k Con.zero).exp).size + (ByteArray.mk #[(94 : UInt8)]).size ≤ (1000000 : Nat), (ByteArray.mk #[(32 : UInt8)]).size + (digS (L.getD k Con.zero).exp).size ≤ (1000000 : Nat), (0 : Int) ≤ (L.getD k Con.zero).exp ∧ (L.getD k Con.zero).exp < 100000, (0 : Int) ≤ ↑k ∧ (↑k : Int) < ↑L.length, Dec (decide ((↑k : Int) < ↑L.length)) true], by kernel_rfl, ⟨?_, ?_, ?_, ?_, ?_, ?_, ?_, ?_, ?_, d3, (dN hb), ?_, ?_, ?_, d2, ?_, ?_, ?_, ?_, ?_, d1⟩, MuG.out ?_, InG.out ?_⟩⟩) (fun d3 => ⟨[true, false, false, false], .inl ⟨(k + 1), [txB2 H (List.take k L) ++ (ByteArray.mk #[(32 : UInt8)] ++ digS (L.getD k Con.zero).exp ++ ByteArray.mk #[(94 : UInt8)]) ++ ByteArray.mk #[(45 : UInt8)] ++ digS (L.getD k Con.zero).dim ++ ByteArray.mk #[(95 : UInt8), (73 : UInt8), (73 : UInt8)] = txB2 H (List.take (k + (1 : Nat)) L), L.length = L.length ∧ (rws L) = (rws L), (↑L.length : Int) = ↑L.length, IntKind.i64.wrap ((↑k : Int) + 1) = (↑(k + (1 : Nat)) : Int), p = p, L.length = L.length ∧ (rws L) = (rws L), (txB2 H (List.take k L) ++ (ByteArray.mk #[(32 : UInt8)] ++ digS (L.getD k Con.zero).exp ++ ByteArray.mk #[(94 : UInt8)]) ++ ByteArray.mk #[(45 : UInt8)] ++ digS (L.getD k Con.zero).dim).size + (ByteArray.mk #[(95 : UInt8), (73 : UInt8), (73 : UInt8)]).size ≤ (1000000 : Nat), Dec (L.getD k Con.zero).odd false, Dec (p != (2 : Int)) false, (txB2 H (List.take k L) ++ (ByteArray.mk #[(32 : UInt8)] ++ digS (L.getD k Con.zero).exp ++ ByteArray.mk #[(94 : UInt8)]) ++ ByteArray.mk #[(45 : UInt8)]).size + (digS (L.getD k Con.zero).dim).size ≤ (1000000 : Nat), (0 : Int) ≤ (L.getD k Con.zero).dim ∧ (L.getD k Con.zero).dim < 100000, (txB2 H (List.take k L) ++ (ByteArray.mk #[(32 : UInt8)] ++ digS (L.getD k Con.zero).exp ++ ByteArray.mk #[(94 : UInt8)])).size + (ByteArray.mk #[(45 : UInt8)]).size ≤ (1000000 : Nat), Dec ((L.getD k Con.zero).sign == 1) false, (txB2 H (List.take k L)).size + (ByteArray.mk #[(32 : UInt8)] ++ digS (L.getD k Con.zero).exp ++ ByteArray.mk #[(94 : UInt8)]).size ≤ (1000000 : Nat), (ByteArray.mk #[(32 : UInt8)] ++ digS (L.getD k Con.zero).exp).size + (ByteArray.mk #[(94 : UInt8)]).size ≤ (1000000 : Nat), (ByteArray.mk #[(32 : UInt8)]).size + (digS (L.getD k Con.zero).exp).size ≤ (1000000 : Nat), (0 : Int) ≤ (L.getD k Con.zero).exp ∧ (L.getD k Con.zero).exp < 100000, (0 : Int) ≤ ↑k ∧ (↑k : Int) < ↑L.length, Dec (decide ((↑k : Int) < ↑L.length)) true], by kernel_rfl, ⟨?_, ?_, ?_, ?_, ?_, ?_, ?_, d3, (dN hb), ?_, ?_, ?_, d2, ?_, ?_, ?_, ?_, ?_, d1⟩, MuG.out ?_, InG.out ?_⟩⟩))) (fun d1 => ⟨[false], .inr ⟨[txB2 H (List.take k L) = txB2 H L, Dec (decide ((↑k : Int) < (↑L.length : Int))) false], by kernel_rfl, ⟨?_, d1⟩, rfl⟩⟩)
      all_goals first | (refine MuG.mk ?_; (simp only [decide_eq_true_eq] at *; show L.length - (k + 1) < L.length - k; omega)) | (refine InG.mk ?_; (simp only [decide_eq_true_eq] at *; show k + 1 ≤ L.length; omega)) | (refine CtG.mk ?_; (exact (5 : Nat))) | (first | (with_reducible rfl) | exact ⟨rfl, rfl⟩ | (simp only [decide_eq_true_eq, decide_eq_false_iff_not] at d1; first | omega | (rw [List.take_of_length_le (by omega)]; done) | (rw [w64 (by omega) (by omega)]; omega) | (have hk : k < L.length := (by omega); have hc := hL _ (getD_mem hk); obtain ⟨⟨hc, ho⟩, hsg⟩ := hc; have h1 := digS_size (n := (L.getD k Con.zero).exp) (by omega) (by omega); have h2 := digS_size (n := (L.getD k Con.zero).dim) (by omega) (by omega); have h3 := digS_size (n := (L.getD k Con.zero).oddity) (by omega) (by omega); first | omega | (simp only [ByteArray.size_append, one_size, ii3_size]; omega) | (rw [txB2_take H hk, cTxt2_po (sg_p d2) d3]; simp only [ii3, ByteArray.append_assoc]; done) | (rw [txB2_take H hk, cTxt2_pe (sg_p d2) d3]; simp only [ii3, ByteArray.append_assoc]; done) | (rw [txB2_take H hk, cTxt2_mo (sg_m hsg d2) d3]; simp only [ii3, ByteArray.append_assoc]; done) | (rw [txB2_take H hk, cTxt2_me (sg_m hsg d2) d3]; simp only [ii3, ByteArray.append_assoc]; done))))
theorem text_s (p : Int) (L : List Con) (hp : p ≠ 2) (h0 : 0 ≤ p) (h1 : p ≤ 9973) (hL : ∀ c ∈ L, okD c ∧ (c.sign = 1 ∨ c.sign = -1)) (hn : L.length ≤ 8) : PureC Tryz.prog [] 33 [.agg [.int .i64 p, roC L]] (.str (txS p L)) := by
  have hs := digS_size h0 (by omega); have hl0 := t1_loop p L (digS p ++ ⟨#[58]⟩) hp hL hn (by rw [ByteArray.size_append, one_size]; omega)
  have rr := fun (tp : List Bool) (ms : List Prop) h hm => pure_run evOk (callF_ok evOk (orcOf_ok entsDM_ok) 8) Tryz.func33 (A := [.agg [.int .i64 p, roC L]]) (N := Nat.max 1 Tryz.f33.ntmps) rfl (one_ann hl0) rfl rfl evNg (tabs := []) (R := .str (txS p L)) (tp := tp) (ms := ms) h hm
  refine rr [] [txB (digS p ++ ByteArray.mk #[(58 : UInt8)]) L = txS p L, digS p ++ ByteArray.mk #[(58 : UInt8)] = digS p ++ ByteArray.mk #[(58 : UInt8)], L.length = L.length ∧ (rws L) = (rws L), (↑L.length : Int) = ↑L.length, p = p, L.length = L.length ∧ (rws L) = (rws L), (digS p).size + (ByteArray.mk #[(58 : UInt8)]).size ≤ (1000000 : Nat), (0 : Int) ≤ p ∧ p < 100000] (by kernel_rfl) ⟨?_, ?_, ?_, ?_, ?_, ?_, ?_, (?_ : (0 : Int) ≤ p ∧ p < 100000)⟩
  all_goals first | (first | (with_reducible rfl) | exact ⟨rfl, rfl⟩ | (first | omega | (rw [one_size]; omega) | rfl | exact (5 : Nat)))
theorem text_t0 (p : Int) (L : List Con) (hp : p = 2) (h0 : 0 ≤ p) (h1 : p ≤ 9973) (hL : ∀ c ∈ L, okD c ∧ (c.sign = 1 ∨ c.sign = -1)) (hn : L.length ≤ 8) : PureC Tryz.prog [] 33 [.agg [.int .i64 p, roC L]] (.str (txB2 (digS p ++ ⟨#[58]⟩) L)) := by
  have hs := digS_size h0 (by omega); have hl0 := t2_loop p L (digS p ++ ⟨#[58]⟩) hp hL hn (by rw [ByteArray.size_append, one_size]; omega)
  have rr := fun (tp : List Bool) (ms : List Prop) h hm => pure_run evOk (callF_ok evOk (orcOf_ok entsDM_ok) 8) Tryz.func33 (A := [.agg [.int .i64 p, roC L]]) (N := Nat.max 1 Tryz.f33.ntmps) rfl (one_ann hl0) rfl rfl evNg (tabs := []) (R := .str (txB2 (digS p ++ ⟨#[58]⟩) L)) (tp := tp) (ms := ms) h hm
  refine rr [] [txB2 (digS p ++ ByteArray.mk #[(58 : UInt8)]) L = txB2 (digS p ++ ByteArray.mk #[(58 : UInt8)]) L, digS p ++ ByteArray.mk #[(58 : UInt8)] = digS p ++ ByteArray.mk #[(58 : UInt8)], L.length = L.length ∧ (rws L) = (rws L), (↑L.length : Int) = ↑L.length, p = p, L.length = L.length ∧ (rws L) = (rws L), (digS p).size + (ByteArray.mk #[(58 : UInt8)]).size ≤ (1000000 : Nat), (0 : Int) ≤ p ∧ p < 100000] (by kernel_rfl) ⟨?_, ?_, ?_, ?_, ?_, ?_, ?_, (?_ : (0 : Int) ≤ p ∧ p < 100000)⟩
  all_goals first | (first | (with_reducible rfl) | exact ⟨rfl, rfl⟩ | (first | omega | (rw [one_size]; omega) | rfl | exact (5 : Nat)))
theorem dig2 : digS 2 ++ ⟨#[58]⟩ = (⟨#[50, 58]⟩ : ByteArray) := by
  rw [dig_small (by omega) (by omega)]; rfl
theorem text_t (L : List Con) (hL : ∀ c ∈ L, okD c ∧ (c.sign = 1 ∨ c.sign = -1)) (hn : L.length ≤ 8) : PureC Tryz.prog [] 33 [.agg [.int .i64 2, roC L]] (.str (txT L)) := by
  have h := text_t0 2 L rfl (by omega) (by omega) hL hn
  rw [dig2] at h
  exact h
end Go.Proofs.YtgdhgnhgmbkpdaaGreatDoor.S

namespace Go.Proofs.YtgdhgnhgmbkpdaaGreatDoor.S
open Go.QfSy Go.RowKit
def txA (p : Int) (L : List Con) : ByteArray := bif p == 2 then txT L else txS p L
theorem text_pure (p : Int) (L : List Con) (h0 : 0 ≤ p) (h1 : p ≤ 9973) (hL : ∀ c ∈ L, okD c ∧ (c.sign = 1 ∨ c.sign = -1)) (hn : L.length ≤ 8) : PureC Tryz.prog [] 33 [.agg [.int .i64 p, roC L]] (.str (txA p L)) := by
  unfold txA
  by_cases h : p = 2
  · subst h; exact text_t L hL hn
  · rw [beq_false_of_ne h]; exact text_s p L h h0 h1 hL hn
noncomputable def entsTX : List OEnt := [
  ⟨33, [], fun A => match A with
    | [.agg [.int .i64 p, .sl n 5 row]] => some (.str (txA p (consR n row)), [(∀ i, i < n → row i = (Con.ofR (row i)).rvs) ∧ 0 ≤ p ∧ p ≤ 9973 ∧ (∀ c ∈ consR n row, okD c ∧ (c.sign = 1 ∨ c.sign = -1)) ∧ n ≤ 8])
    | _ => none⟩]
theorem entsTX_ok : ∀ e ∈ entsTX, EntOk Tryz.prog e := by
  intro e he
  unfold entsTX at he
  rw [List.mem_singleton] at he
  subst he
  intro A R ms h hm
  simp only at h
  split at h
  · cases h
    obtain ⟨h1, h2, h3, h4, h5⟩ := hm _ (List.mem_singleton.2 rfl)
    exact PureC.imp (text_pure _ _ h2 h3 h4 (by rw [consR_len]; exact h5)) (.cons (.agg (.cons .same (.cons (.con h1) .nil))) .nil)
  · cases h
end Go.Proofs.YtgdhgnhgmbkpdaaGreatDoor.S

namespace Go.Proofs.YtgdhgnhgmbkpdaaGreatDoor.S
open Go.QfSy Go.RowKit
theorem ord_sign : ∀ {L : List Con} {last s : Int}, ordL L last s = true → ∀ c ∈ L, c.sign = 1 ∨ c.sign = -1
  | [], last, s, h => fun c hc => (nomatch hc)
  | c :: l, last, s, h => by
    simp only [ordL, Bool.and_eq_true, okO, decide_eq_true_eq] at h
    obtain ⟨⟨_, _, _, a4, _⟩, h⟩ := h
    intro x hx
    rcases List.mem_cons.1 hx with rfl | hx
    · exact a4
    · exact ord_sign h x hx
theorem sh_sign {p : Int} {L : List Con} (h : shV p L = true) : ∀ c ∈ L, c.sign = 1 ∨ c.sign = -1 := by
  have : orderV L = true := by
    unfold shV at h
    rcases Bool.or_eq_true_iff.1 h with h | h
    · simp only [val2M, Bool.and_eq_true] at h; exact h.2.1
    · simp only [fusM, Bool.and_eq_true] at h; exact h.2.1
  simp only [orderV, Bool.and_eq_true] at this
  exact ord_sign this.1
theorem sh_text {p : Int} {L : List Con} (h : shV p L = true) : p = 2 ∧ (∀ c ∈ L, okD c ∧ (c.sign = 1 ∨ c.sign = -1)) ∧ L.length ≤ 8 := by
  obtain ⟨h1, h2, h3⟩ := sh_bounds h
  exact ⟨h1, fun c hc => ⟨h2 c hc, sh_sign h c hc⟩, h3⟩
noncomputable def entsFV : List OEnt := entsTX ++ entsR3
theorem entsFV_ok : ∀ e ∈ entsFV, EntOk Tryz.prog e := by
  intro e he
  unfold entsFV at he
  rcases List.mem_append.1 he with h | h
  · exact entsTX_ok e h
  · exact entsR3_ok e h
theorem rfmtT_1 (p : Int) (L : List Con) (hv : val2M p L = true) (hq : p = 2 ∧ (∀ c ∈ L, okD c ∧ (c.sign = 1 ∨ c.sign = -1)) ∧ L.length ≤ 8) : PureC Tryz.prog [] 21 [.agg [.int .i64 p, roC L]] (.tup [.str (txT L), .int .i64 0]) := by
  have hk : val2M p (consR L.length fun i => (L.getD i Con.zero).rvs) = true := (by rw [consR_ro]; exact hv); obtain ⟨q1, q4, q5⟩ := hq
  have rr := fun (tp : List Bool) (ms : List Prop) h hm => pure_run evOk (callF_ok evOk (orcOf_ok entsFV_ok) 8) Tryz.func21 (A := [.agg [.int .i64 p, roC L]]) rfl none_ann rfl rfl evNg (tabs := []) (R := .tup [.str (txT L), .int .i64 0]) (tp := tp) (ms := ms) h hm
  refine rr [false] [txA p (consR L.length (rws L)) = txT L, (0 : Int) = 0, (∀ (i : Nat), i < L.length → (rws L) i = (Con.ofR ((rws L) i)).rvs) ∧ (0 : Int) ≤ p ∧ p ≤ 9973 ∧ (∀ (c : Con), (c ∈ consR L.length (rws L)) → okD c ∧ (c.sign = 1 ∨ c.sign = -1)) ∧ L.length ≤ (8 : Nat), Dec (!val2M p (consR L.length (rws L))) false, (∀ (i : Nat), i < L.length → (rws L) i = (Con.ofR ((rws L) i)).rvs) ∧ L.length ≤ (1000 : Nat)] (by kernel_rfl) ⟨?_, ?_, ?_, (dN hk), (?_ : (∀ (i : Nat), i < L.length → (rws L) i = (Con.ofR ((rws L) i)).rvs) ∧ L.length ≤ (1000 : Nat))⟩
  all_goals first | (first | (with_reducible rfl) | exact ⟨fun _ _ => rfl, by omega⟩ | exact ⟨fun _ _ => rfl, by omega, by omega, (by rw [consR_ro]; exact q4), q5⟩ | (unfold txA; rw [q1, consR_ro]; rfl))
theorem rfmtT_2 (p : Int) (L : List Con) (hv : val2M p L = false) (hw : fusM p L = true) (hq : p = 2 ∧ (∀ c ∈ L, okD c ∧ (c.sign = 1 ∨ c.sign = -1)) ∧ L.length ≤ 8) : PureC Tryz.prog [] 21 [.agg [.int .i64 p, roC L]] (.tup [.str (txT L), .int .i64 0]) := by
  have hk : val2M p (consR L.length fun i => (L.getD i Con.zero).rvs) = false := (by rw [consR_ro]; exact hv); have hk2 : fusM p (consR L.length fun i => (L.getD i Con.zero).rvs) = true := (by rw [consR_ro]; exact hw); obtain ⟨q1, q4, q5⟩ := hq
  have rr := fun (tp : List Bool) (ms : List Prop) h hm => pure_run evOk (callF_ok evOk (orcOf_ok entsFV_ok) 8) Tryz.func21 (A := [.agg [.int .i64 p, roC L]]) rfl none_ann rfl rfl evNg (tabs := []) (R := .tup [.str (txT L), .int .i64 0]) (tp := tp) (ms := ms) h hm
  refine rr [true, false] [txA p (consR L.length (rws L)) = txT L, (0 : Int) = 0, (∀ (i : Nat), i < L.length → (rws L) i = (Con.ofR ((rws L) i)).rvs) ∧ (0 : Int) ≤ p ∧ p ≤ 9973 ∧ (∀ (c : Con), (c ∈ consR L.length (rws L)) → okD c ∧ (c.sign = 1 ∨ c.sign = -1)) ∧ L.length ≤ (8 : Nat), Dec (!fusM p (consR L.length (rws L))) false, (∀ (i : Nat), i < L.length → (rws L) i = (Con.ofR ((rws L) i)).rvs) ∧ L.length ≤ (1000 : Nat), Dec (!val2M p (consR L.length (rws L))) true, (∀ (i : Nat), i < L.length → (rws L) i = (Con.ofR ((rws L) i)).rvs) ∧ L.length ≤ (1000 : Nat)] (by kernel_rfl) ⟨?_, ?_, ?_, (dN hk2), ?_, (dN hk), (?_ : (∀ (i : Nat), i < L.length → (rws L) i = (Con.ofR ((rws L) i)).rvs) ∧ L.length ≤ (1000 : Nat))⟩
  all_goals first | (first | (with_reducible rfl) | exact ⟨fun _ _ => rfl, by omega⟩ | exact ⟨fun _ _ => rfl, by omega, by omega, (by rw [consR_ro]; exact q4), q5⟩ | (unfold txA; rw [q1, consR_ro]; rfl))
theorem rfmtT_3 (p : Int) (L : List Con) (hv : val2M p L = false) (hw : fusM p L = false) (hn : L.length ≤ 1000) : PureC Tryz.prog [] 21 [.agg [.int .i64 p, roC L]] (.tup [.str ⟨#[]⟩, .int .i64 22]) := by
  have hk : val2M p (consR L.length fun i => (L.getD i Con.zero).rvs) = false := (by rw [consR_ro]; exact hv); have hk2 : fusM p (consR L.length fun i => (L.getD i Con.zero).rvs) = false := (by rw [consR_ro]; exact hw)
  have rr := fun (tp : List Bool) (ms : List Prop) h hm => pure_run evOk (callF_ok evOk (orcOf_ok entsFV_ok) 8) Tryz.func21 (A := [.agg [.int .i64 p, roC L]]) rfl none_ann rfl rfl evNg (tabs := []) (R := .tup [.str ⟨#[]⟩, .int .i64 22]) (tp := tp) (ms := ms) h hm
  refine rr [true, true] [ByteArray.mk #[] = ByteArray.mk #[], (22 : Int) = 22, Dec (!fusM p (consR L.length (rws L))) true, (∀ (i : Nat), i < L.length → (rws L) i = (Con.ofR ((rws L) i)).rvs) ∧ L.length ≤ (1000 : Nat), Dec (!val2M p (consR L.length (rws L))) true, (∀ (i : Nat), i < L.length → (rws L) i = (Con.ofR ((rws L) i)).rvs) ∧ L.length ≤ (1000 : Nat)] (by kernel_rfl) ⟨?_, ?_, (dN hk2), ?_, (dN hk), (?_ : (∀ (i : Nat), i < L.length → (rws L) i = (Con.ofR ((rws L) i)).rvs) ∧ L.length ≤ (1000 : Nat))⟩
  all_goals first | (first | (with_reducible rfl) | exact ⟨fun _ _ => rfl, hn⟩)
theorem rfmtT_pure (p : Int) (L : List Con) (hn : L.length ≤ 1000) : PureC Tryz.prog [] 21 [.agg [.int .i64 p, roC L]] (.tup [.str (bif shV p L then txT L else ⟨#[]⟩), .int .i64 (bif shV p L then 0 else 22)]) := by
  cases h : shV p L with
  | true =>
    have hq := sh_text h
    cases hv : val2M p L with
    | true => exact rfmtT_1 p L hv hq
    | false =>
      have hw : fusM p L = true := by
        unfold shV at h
        rw [hv, Bool.false_or] at h
        exact h
      exact rfmtT_2 p L hv hw hq
  | false =>
    unfold shV at h
    obtain ⟨hv, hw⟩ := Bool.or_eq_false_iff.1 h
    exact rfmtT_3 p L hv hw hn
end Go.Proofs.YtgdhgnhgmbkpdaaGreatDoor.S

namespace Go.Proofs.YtgdhgnhgmbkpdaaGreatDoor.S
open Go.QfSy Go.RowKit
theorem sh_even {p : Int} {L : List Con} (h : shV p L = true) : ∀ c ∈ L, c.odd = false → c.oddity = 0 := by
  unfold shV at h
  rcases Bool.or_eq_true_iff.1 h with h | h
  · simp only [val2M, Bool.and_eq_true, beq_iff_eq] at h
    intro c hc ho
    have := List.all_eq_true.1 h.2.2 c hc
    exact ((of_decide_eq_true this).2.2.2.2.1 ho).2
  · simp only [fusM, Bool.and_eq_true, beq_iff_eq] at h
    intro c hc ho
    obtain ⟨i, hi, rfl⟩ := List.mem_iff_getElem.1 hc
    have := List.all_eq_true.1 h.2.2.1 i (by simpa using hi)
    simp only [fusI, fusC, Bool.and_eq_true, decide_eq_true_eq, Bool.or_eq_true] at this
    have e : at_ L i = L[i] := by simp [at_, hi]
    rw [e] at this
    rcases this.1.2 with h' | h'
    · rw [ho] at h'; cases h'
    · exact h'.2
theorem sh_ne {p : Int} {L : List Con} (h : shV p L = true) : L ≠ [] := by
  rintro rfl
  unfold shV at h
  rcases Bool.or_eq_true_iff.1 h with h | h
  · simp only [val2M, Bool.and_eq_true] at h
    exact absurd h.2.1 (by decide)
  · simp only [fusM, Bool.and_eq_true] at h
    exact absurd h.2.1 (by decide)
theorem leadN_all {f : ByteArray → Con × Bool} : ∀ {W : List ByteArray}, (∀ w ∈ W, (f w).2 = true) → leadN f W = W.length
  | [], _ => rfl
  | w :: l, h => by
    rw [leadN, h w List.mem_cons_self, leadN_all (fun x hx => h x (List.mem_cons_of_mem _ hx))]
    rfl
theorem rd_map {f : ByteArray → Con × Bool} {w : Con → List UInt8} {L : List Con} (h : ∀ c ∈ L, f (strL (w c)) = (c, true)) : rdW f (L.map fun c => strL (w c)) = L ∧ leadN f (L.map fun c => strL (w c)) = (L.map fun c => strL (w c)).length := by
  constructor
  · unfold rdW
    rw [List.map_map]
    conv => rhs; rw [← List.map_id L]
    exact List.map_congr_left (fun c hc => by show (f (strL (w c))).1 = c; rw [h c hc])
  · refine leadN_all (fun x hx => ?_)
    obtain ⟨c, hc, rfl⟩ := List.mem_map.1 hx
    rw [h c hc]
theorem good_txT {L : List Con} (h : shV 2 L = true) : conT (txT L) = L ∧ goodT (txT L) = true := by
  obtain ⟨-, hd, -⟩ := sh_bounds h
  cases L with
  | nil => exact absurd rfl (sh_ne h)
  | cons c l =>
    obtain ⟨r1, r2⟩ := rd_map (f := pcT) (w := wL2) (L := c :: l) (fun x hx => pcT_word (hd x hx) (sh_sign h x hx) (sh_even h x hx))
    have e : conT (txT (c :: l)) = c :: l := by unfold conT; rw [words_txT hd]; exact r1
    refine ⟨e, ?_⟩
    unfold goodT
    rw [e, h, eqB_self, words_txT hd, r2]
    simp
end Go.Proofs.YtgdhgnhgmbkpdaaGreatDoor.S

