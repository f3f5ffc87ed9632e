import Derived.Test.YtejmmglffmckeaaDoorChecked
import Derived.WalkKit
import Derived.Lib.Hide
namespace Go.Proofs.YtejmmglffmckeaaDoor.Q
open Go.RowKit

open Classical in
noncomputable def isP (n : Int) : Bool := decide (2 ≤ n ∧ n ≤ 2147483647 ∧ ∀ d : Int, 2 ≤ d → d * d ≤ n → n % d ≠ 0)

theorem isP_of_lt {n : Int} (h : n < 2) : isP n = false := by unfold isP; simp; intro h1; omega
theorem isP_of_gt {n : Int} (h : 2147483647 < n) : isP n = false := by unfold isP; simp; intro _ h1; omega
theorem isP_div {n d : Int} (h1 : 2 ≤ d) (h2 : d * d ≤ n) (h3 : n % d = 0) : isP n = false := by
  unfold isP
  simp
  intro _ _
  exact ⟨d, h1, h2, h3⟩
theorem isP_true {n d : Int} (h1 : 2 ≤ n) (h2 : n ≤ 2147483647) (h0 : 2 ≤ d) (h3 : n < d * d) (h4 : ∀ c : Int, 2 ≤ c → c < d → n % c ≠ 0) : isP n = true := by
  unfold isP
  simp
  refine ⟨h1, h2, fun c hc hcc => ?_⟩
  refine h4 c hc ?_
  rcases Int.lt_or_le c d with h | h
  · exact h
  · exfalso
    have : d * d ≤ c * c := Int.mul_le_mul h h (by omega) (by omega)
    omega

theorem ret_bool {a b : Bool} (h : a = b) : Ending.returned (.bool a) = .returned (.bool b) := by rw [h]

end Go.Proofs.YtejmmglffmckeaaDoor.Q
