/- quadformscene.constituent. -/
import Derived.Test.YtejmmglffmckeaaGreatDoorYB
set_option linter.unusedSimpArgs false
set_option linter.unusedVariables false
namespace Go.Proofs.YtejmmglffmckeaaGreatDoor.S
open Go.QfSy Go.RowKit

def dimM (p : Prt) (r : Int) : Int := 1 + p.x1 % (if r < 3 then r else 3)
def signM (p : Prt) : Int := 1 - 2 * (p.x2 % 2)
def oddM (p : Prt) (r : Int) (two : Bool) : Bool := bif two then (bif dimM p r % 2 == 1 then true else decide (p.x3 % 3 > 0)) else false
noncomputable def conM (p : Prt) (e r : Int) (two : Bool) : Con := ⟨e, dimM p r, signM p, oddM p r two, bif oddM p r two then oddityF_v (dimM p r) (signM p) p.x4 else 0⟩

noncomputable def entsO : List OEnt := [
  ⟨169, [], fun A => match A with
    | [.int .i64 d, .int .i64 s, .int .u8 k] => some (.int .i64 (oddityF_v d s k), [])
    | _ => none⟩]
theorem entsO_ok : ∀ e ∈ entsO, EntOk Tryz.prog e := by
  intro e he
  simp only [entsO, List.mem_cons, List.not_mem_nil, or_false] at he
  subst he
  intro A R ms h hm
  simp only at h
  split at h
  · cases h; exact oddityF _ _ _
  · cases h

theorem dimM_b {p : Prt} {r : Int} (hp : p.ok) (h1 : 1 ≤ r) : 1 ≤ dimM p r ∧ dimM p r ≤ 3 ∧ dimM p r ≤ r := by
  obtain ⟨_, ⟨a, b⟩, _⟩ := hp
  unfold dimM
  split
  · have := Int.emod_nonneg p.x1 (b := r) (by omega)
    have := Int.emod_lt_of_pos p.x1 (b := r) (by omega)
    omega
  · omega
theorem signM_b {p : Prt} (hp : p.ok) : signM p = 1 ∨ signM p = -1 := by
  unfold signM; omega
theorem raw_dim {p : Prt} {r : Int} (hp : p.ok) (h1 : 1 ≤ r) (h2 : r ≤ 100) : IntKind.i64.wrap ((1 : Int) + (IntKind.i64.wrap p.x1).tmod (if r < (3 : Int) then r else (3 : Int))) = dimM p r := by
  have hb := dimM_b hp h1
  obtain ⟨_, ⟨a, b⟩, _⟩ := hp
  rw [w64 (n := p.x1) (by omega) (by omega), Int.tmod_eq_emod_of_nonneg a]
  exact w64 (by unfold dimM at hb; omega) (by unfold dimM at hb; omega)
theorem raw_sign {p : Prt} (hp : p.ok) : IntKind.i64.wrap ((1 : Int) - IntKind.i64.wrap ((2 : Int) * IntKind.i64.wrap (p.x2.tmod (2 : Int)))) = signM p := by
  obtain ⟨_, _, ⟨a, b⟩, _⟩ := hp
  rw [Int.tmod_eq_emod_of_nonneg a]
  unfold signM
  rw [w64 (n := p.x2 % 2) (by omega) (by omega), w64 (n := 2 * (p.x2 % 2)) (by omega) (by omega), w64 (by omega) (by omega)]

set_option maxRecDepth 100000 in
theorem constituentF (p : Prt) (e r : Int) (two : Bool) (hp : p.ok) (h1 : 1 ≤ r) (h2 : r ≤ 100) : PureC Tryz.prog [] 104 [.agg p.rvs, .int .i64 e, .int .i64 r, .bool two] (.agg (conM p e r two).rvs) := by
  have hd := raw_dim hp h1 h2; have hs := raw_sign hp; have hb := dimM_b hp h1; have ht : (dimM p r).tmod 2 = dimM p r % 2 := Int.tmod_eq_emod_of_nonneg (by omega); have hx : p.x3.tmod 3 = p.x3 % 3 := Int.tmod_eq_emod_of_nonneg (by have := hp.2.2.2.1.1; omega)
  rcases Bool.eq_false_or_eq_true (two) with d1 | d1
  · -- true
    rcases Bool.eq_false_or_eq_true ((IntKind.i64.wrap ((1 : Int) + (IntKind.i64.wrap p.x1).tmod (if r < (3 : Int) then r else (3 : Int)))).tmod (2 : Int) == (1 : Int)) with d2 | d2
    · -- true
      exact pure_run evOk (callF_ok evOk (orcOf_ok entsO_ok) 8) Tryz.func104 rfl none_ann rfl rfl evNg (tp := [true, true]) (ms := [e = (conM p e r two).exp, IntKind.i64.wrap ((1 : Int) + (IntKind.i64.wrap p.x1).tmod (if r < (3 : Int) then r else (3 : Int))) = (conM p e r two).dim, IntKind.i64.wrap ((1 : Int) - IntKind.i64.wrap ((2 : Int) * IntKind.i64.wrap (p.x2.tmod (2 : Int)))) = (conM p e r two).sign, true = (conM p e r two).odd, oddityF_v (IntKind.i64.wrap ((1 : Int) + (IntKind.i64.wrap p.x1).tmod (if r < (3 : Int) then r else (3 : Int)))) (IntKind.i64.wrap ((1 : Int) - IntKind.i64.wrap ((2 : Int) * IntKind.i64.wrap (p.x2.tmod (2 : Int))))) p.x4 = (conM p e r two).oddity, Dec ((IntKind.i64.wrap ((1 : Int) + (IntKind.i64.wrap p.x1).tmod (if r < (3 : Int) then r else (3 : Int)))).tmod (2 : Int) == (1 : Int)) true, (2 : Int) ≠ (0 : Int), Dec two true, (2 : Int) ≠ (0 : Int), (if r < (3 : Int) then r else (3 : Int)) ≠ (0 : Int)]) (by kernel_rfl) ⟨(by first | rfl | decide | (split <;> omega) | (simp only [hd, hs, ht, hx] at * <;> simp only [conM, oddM, hd, hs, ht, hx, *, cond_true, cond_false])), (by first | rfl | decide | (split <;> omega) | (simp only [hd, hs, ht, hx] at * <;> simp only [conM, oddM, hd, hs, ht, hx, *, cond_true, cond_false])), (by first | rfl | decide | (split <;> omega) | (simp only [hd, hs, ht, hx] at * <;> simp only [conM, oddM, hd, hs, ht, hx, *, cond_true, cond_false])), (by first | rfl | decide | (split <;> omega) | (simp only [hd, hs, ht, hx] at * <;> simp only [conM, oddM, hd, hs, ht, hx, *, cond_true, cond_false])), (by first | rfl | decide | (split <;> omega) | (simp only [hd, hs, ht, hx] at * <;> simp only [conM, oddM, hd, hs, ht, hx, *, cond_true, cond_false])), d2, (by first | rfl | decide | (split <;> omega) | (simp only [hd, hs, ht, hx] at * <;> simp only [conM, oddM, hd, hs, ht, hx, *, cond_true, cond_false])), d1, (by first | rfl | decide | (split <;> omega) | (simp only [hd, hs, ht, hx] at * <;> simp only [conM, oddM, hd, hs, ht, hx, *, cond_true, cond_false])), (show (if r < (3 : Int) then r else (3 : Int)) ≠ (0 : Int) from by first | rfl | decide | (split <;> omega) | (simp only [hd, hs, ht, hx] at * <;> simp only [conM, oddM, hd, hs, ht, hx, *, cond_true, cond_false]))⟩
    · -- false
      rcases Bool.eq_false_or_eq_true (decide (p.x3.tmod (3 : Int) > (0 : Int))) with d3 | d3
      · -- true
        exact pure_run evOk (callF_ok evOk (orcOf_ok entsO_ok) 8) Tryz.func104 rfl none_ann rfl rfl evNg (tp := [true, false, true]) (ms := [e = (conM p e r two).exp, IntKind.i64.wrap ((1 : Int) + (IntKind.i64.wrap p.x1).tmod (if r < (3 : Int) then r else (3 : Int))) = (conM p e r two).dim, IntKind.i64.wrap ((1 : Int) - IntKind.i64.wrap ((2 : Int) * IntKind.i64.wrap (p.x2.tmod (2 : Int)))) = (conM p e r two).sign, decide (p.x3.tmod (3 : Int) > (0 : Int)) = (conM p e r two).odd, oddityF_v (IntKind.i64.wrap ((1 : Int) + (IntKind.i64.wrap p.x1).tmod (if r < (3 : Int) then r else (3 : Int)))) (IntKind.i64.wrap ((1 : Int) - IntKind.i64.wrap ((2 : Int) * IntKind.i64.wrap (p.x2.tmod (2 : Int))))) p.x4 = (conM p e r two).oddity, Dec (decide (p.x3.tmod (3 : Int) > (0 : Int))) true, (3 : Int) ≠ (0 : Int), Dec ((IntKind.i64.wrap ((1 : Int) + (IntKind.i64.wrap p.x1).tmod (if r < (3 : Int) then r else (3 : Int)))).tmod (2 : Int) == (1 : Int)) false, (2 : Int) ≠ (0 : Int), Dec two true, (2 : Int) ≠ (0 : Int), (if r < (3 : Int) then r else (3 : Int)) ≠ (0 : Int)]) (by kernel_rfl) ⟨(by first | rfl | decide | (split <;> omega) | (simp only [hd, hs, ht, hx] at * <;> simp only [conM, oddM, hd, hs, ht, hx, *, cond_true, cond_false])), (by first | rfl | decide | (split <;> omega) | (simp only [hd, hs, ht, hx] at * <;> simp only [conM, oddM, hd, hs, ht, hx, *, cond_true, cond_false])), (by first | rfl | decide | (split <;> omega) | (simp only [hd, hs, ht, hx] at * <;> simp only [conM, oddM, hd, hs, ht, hx, *, cond_true, cond_false])), (by first | rfl | decide | (split <;> omega) | (simp only [hd, hs, ht, hx] at * <;> simp only [conM, oddM, hd, hs, ht, hx, *, cond_true, cond_false])), (by first | rfl | decide | (split <;> omega) | (simp only [hd, hs, ht, hx] at * <;> simp only [conM, oddM, hd, hs, ht, hx, *, cond_true, cond_false])), d3, (by first | rfl | decide | (split <;> omega) | (simp only [hd, hs, ht, hx] at * <;> simp only [conM, oddM, hd, hs, ht, hx, *, cond_true, cond_false])), d2, (by first | rfl | decide | (split <;> omega) | (simp only [hd, hs, ht, hx] at * <;> simp only [conM, oddM, hd, hs, ht, hx, *, cond_true, cond_false])), d1, (by first | rfl | decide | (split <;> omega) | (simp only [hd, hs, ht, hx] at * <;> simp only [conM, oddM, hd, hs, ht, hx, *, cond_true, cond_false])), (show (if r < (3 : Int) then r else (3 : Int)) ≠ (0 : Int) from by first | rfl | decide | (split <;> omega) | (simp only [hd, hs, ht, hx] at * <;> simp only [conM, oddM, hd, hs, ht, hx, *, cond_true, cond_false]))⟩
      · -- false
        exact pure_run evOk (callF_ok evOk (orcOf_ok entsO_ok) 8) Tryz.func104 rfl none_ann rfl rfl evNg (tp := [true, false, false]) (ms := [e = (conM p e r two).exp, IntKind.i64.wrap ((1 : Int) + (IntKind.i64.wrap p.x1).tmod (if r < (3 : Int) then r else (3 : Int))) = (conM p e r two).dim, IntKind.i64.wrap ((1 : Int) - IntKind.i64.wrap ((2 : Int) * IntKind.i64.wrap (p.x2.tmod (2 : Int)))) = (conM p e r two).sign, decide (p.x3.tmod (3 : Int) > (0 : Int)) = (conM p e r two).odd, (0 : Int) = (conM p e r two).oddity, Dec (decide (p.x3.tmod (3 : Int) > (0 : Int))) false, (3 : Int) ≠ (0 : Int), Dec ((IntKind.i64.wrap ((1 : Int) + (IntKind.i64.wrap p.x1).tmod (if r < (3 : Int) then r else (3 : Int)))).tmod (2 : Int) == (1 : Int)) false, (2 : Int) ≠ (0 : Int), Dec two true, (2 : Int) ≠ (0 : Int), (if r < (3 : Int) then r else (3 : Int)) ≠ (0 : Int)]) (by kernel_rfl) ⟨(by first | rfl | decide | (split <;> omega) | (simp only [hd, hs, ht, hx] at * <;> simp only [conM, oddM, hd, hs, ht, hx, *, cond_true, cond_false])), (by first | rfl | decide | (split <;> omega) | (simp only [hd, hs, ht, hx] at * <;> simp only [conM, oddM, hd, hs, ht, hx, *, cond_true, cond_false])), (by first | rfl | decide | (split <;> omega) | (simp only [hd, hs, ht, hx] at * <;> simp only [conM, oddM, hd, hs, ht, hx, *, cond_true, cond_false])), (by first | rfl | decide | (split <;> omega) | (simp only [hd, hs, ht, hx] at * <;> simp only [conM, oddM, hd, hs, ht, hx, *, cond_true, cond_false])), (by first | rfl | decide | (split <;> omega) | (simp only [hd, hs, ht, hx] at * <;> simp only [conM, oddM, hd, hs, ht, hx, *, cond_true, cond_false])), d3, (by first | rfl | decide | (split <;> omega) | (simp only [hd, hs, ht, hx] at * <;> simp only [conM, oddM, hd, hs, ht, hx, *, cond_true, cond_false])), d2, (by first | rfl | decide | (split <;> omega) | (simp only [hd, hs, ht, hx] at * <;> simp only [conM, oddM, hd, hs, ht, hx, *, cond_true, cond_false])), d1, (by first | rfl | decide | (split <;> omega) | (simp only [hd, hs, ht, hx] at * <;> simp only [conM, oddM, hd, hs, ht, hx, *, cond_true, cond_false])), (show (if r < (3 : Int) then r else (3 : Int)) ≠ (0 : Int) from by first | rfl | decide | (split <;> omega) | (simp only [hd, hs, ht, hx] at * <;> simp only [conM, oddM, hd, hs, ht, hx, *, cond_true, cond_false]))⟩
  · -- false
    exact pure_run evOk (callF_ok evOk (orcOf_ok entsO_ok) 8) Tryz.func104 rfl none_ann rfl rfl evNg (tp := [false]) (ms := [e = (conM p e r two).exp, IntKind.i64.wrap ((1 : Int) + (IntKind.i64.wrap p.x1).tmod (if r < (3 : Int) then r else (3 : Int))) = (conM p e r two).dim, IntKind.i64.wrap ((1 : Int) - IntKind.i64.wrap ((2 : Int) * IntKind.i64.wrap (p.x2.tmod (2 : Int)))) = (conM p e r two).sign, false = (conM p e r two).odd, (0 : Int) = (conM p e r two).oddity, Dec two false, (2 : Int) ≠ (0 : Int), (if r < (3 : Int) then r else (3 : Int)) ≠ (0 : Int)]) (by kernel_rfl) ⟨(by first | rfl | decide | (split <;> omega) | (simp only [hd, hs, ht, hx] at * <;> simp only [conM, oddM, hd, hs, ht, hx, *, cond_true, cond_false])), (by first | rfl | decide | (split <;> omega) | (simp only [hd, hs, ht, hx] at * <;> simp only [conM, oddM, hd, hs, ht, hx, *, cond_true, cond_false])), (by first | rfl | decide | (split <;> omega) | (simp only [hd, hs, ht, hx] at * <;> simp only [conM, oddM, hd, hs, ht, hx, *, cond_true, cond_false])), (by first | rfl | decide | (split <;> omega) | (simp only [hd, hs, ht, hx] at * <;> simp only [conM, oddM, hd, hs, ht, hx, *, cond_true, cond_false])), (by first | rfl | decide | (split <;> omega) | (simp only [hd, hs, ht, hx] at * <;> simp only [conM, oddM, hd, hs, ht, hx, *, cond_true, cond_false])), d1, (by first | rfl | decide | (split <;> omega) | (simp only [hd, hs, ht, hx] at * <;> simp only [conM, oddM, hd, hs, ht, hx, *, cond_true, cond_false])), (show (if r < (3 : Int) then r else (3 : Int)) ≠ (0 : Int) from by first | rfl | decide | (split <;> omega) | (simp only [hd, hs, ht, hx] at * <;> simp only [conM, oddM, hd, hs, ht, hx, *, cond_true, cond_false]))⟩
end Go.Proofs.YtejmmglffmckeaaGreatDoor.S
