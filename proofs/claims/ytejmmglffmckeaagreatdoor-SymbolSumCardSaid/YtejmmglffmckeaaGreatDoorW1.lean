import Derived.Test.YtejmmglffmckeaaGreatDoorChecked
import Derived.WalkKit
import Derived.Lib.Hide
namespace Go.Proofs.YtejmmglffmckeaaGreatDoor.Q
open Go.RowKit

open Classical in
noncomputable def isP (n : Int) : Bool := decide (2 ≤ n ∧ n ≤ 2147483647 ∧ ∀ d : Int, 2 ≤ d → d * d ≤ n → n % d ≠ 0)

theorem isP_of_lt {n : Int} (h : n < 2) : isP n = false := by unfold isP; simp; intro h1; omega
theorem isP_of_gt {n : Int} (h : 2147483647 < n) : isP n = false := by unfold isP; simp; intro _ h1; omega
theorem isP_div {n d : Int} (h1 : 2 ≤ d) (h2 : d * d ≤ n) (h3 : n % d = 0) : isP n = false := by
  unfold isP
  simp
  intro _ _
  exact ⟨d, h1, h2, h3⟩
theorem isP_true {n d : Int} (h1 : 2 ≤ n) (h2 : n ≤ 2147483647) (h0 : 2 ≤ d) (h3 : n < d * d) (h4 : ∀ c : Int, 2 ≤ c → c < d → n % c ≠ 0) : isP n = true := by
  unfold isP
  simp
  refine ⟨h1, h2, fun c hc hcc => ?_⟩
  refine h4 c hc ?_
  rcases Int.lt_or_le c d with h | h
  · exact h
  · exfalso
    have : d * d ≤ c * c := Int.mul_le_mul h h (by omega) (by omega)
    omega

theorem ret_bool {a b : Bool} (h : a = b) : Ending.returned (.bool a) = .returned (.bool b) := by rw [h]

set_option maxHeartbeats 400000 in
theorem refIs (n : Int) (w : World) : Calls Tryz.prog 127 #[.int .i64 n] w fun e w' => e = .returned (.bool (isP n)) ∧ w = w' := by
  by_cases h1 : n < 2
  · have HB := Lib.hid (isP_of_lt h1)
    go_enter Tryz.func127, Tryz.ntmps127
    go_wp2
    go_ret
    exact ⟨ret_bool HB.out.symm, rfl⟩
  · by_cases h2 : 2147483647 < n
    · have HB := Lib.hid (isP_of_gt h2)
      go_enter Tryz.func127, Tryz.ntmps127
      go_wp2
      go_ret
      exact ⟨ret_bool HB.out.symm, rfl⟩
    · have h1' : 2 ≤ n := by omega
      have h2' : n ≤ 2147483647 := by omega
      go_enter Tryz.func127, Tryz.ntmps127
      go_wp2
      go_loop [3] (fun i => ∃ d : Int, 2 ≤ d ∧ d ≤ 46341 ∧ i = .int .i64 d ∧ Hid (∀ c : Int, 2 ≤ c → c < d → n % c ≠ 0)) (fun i => (46341 - intOf i).toNat)
      case atStart => exact ⟨2, by omega, by omega, rfl, fun c a b => by omega⟩
      case round =>
        obtain ⟨d, hd1, hd2, rfl, hH⟩ := hrel
        have hdd : d * d ≤ 2147488281 := by
          have := Int.mul_le_mul hd2 hd2 (by omega) (by omega)
          omega
        have hdd0 : 0 ≤ d * d := Int.mul_nonneg (by omega) (by omega)
        go_wp2
        · have HB := isP_div (n := n) hd1 (by assumption) (eq_of_beq (by assumption))
          go_ret
          exact ⟨ret_bool HB.symm, rfl⟩
        · rename_i hle hdiv
          have hd3 : d ≤ 46340 := by
            rcases Int.lt_or_le d 46341 with h | h
            · omega
            · exfalso
              have := Int.mul_le_mul h h (by omega) (by omega)
              omega
          refine ⟨⟨d + 1, by omega, by omega, rfl, fun c h1 h2 => ?_⟩, ?_⟩
          · by_cases hcd : c = d
            · subst hcd; simpa using hdiv
            · exact hH.out c h1 (by omega)
          · simp [intOf]; omega
        · have HB := isP_true h1' h2' hd1 (by assumption) hH.out
          go_ret
          exact ⟨ret_bool HB.symm, rfl⟩
end Go.Proofs.YtejmmglffmckeaaGreatDoor.Q
