/- quadformscene.constituent for an odd prime. -/
import Derived.Test.YtejmmglffmckeaaGreatDoorW6
import Derived.BigRegion
import Derived.StillTailTactics
namespace Go.Proofs.YtejmmglffmckeaaGreatDoor.Q
open Go.RowKit

/-- The constituent that five bytes stand for. -/
def mkCon (x1 x2 exp room : Int) : Con := ⟨exp, 1 + x1 % min 3 room, 1 - 2 * (x2 % 2), false, 0⟩

set_option maxHeartbeats 4000000 in
theorem constituent_calls (x0 x1 x2 x3 x4 exp room : Int) (w : World) (h1 : 0 ≤ x1) (h1' : x1 ≤ 255) (h2 : 0 ≤ x2) (h2' : x2 ≤ 255) (_ : 0 ≤ exp) (_ : exp ≤ 1000) (hr : 1 ≤ room) (hr' : room ≤ 8) :
    Calls Tryz.prog 104 #[.agg #[.int .u8 x0, .int .u8 x1, .int .u8 x2, .int .u8 x3, .int .u8 x4], .int .i64 exp, .int .i64 room, .bool false] w fun e w' => e = .returned (mkCon x1 x2 exp room).agg ∧ Below w.heap.size w w' := by
  by_cases h3 : 3 ≤ room
  · have hmin : min 3 room = 3 := by omega
    have HC := Lib.hid (show mkCon x1 x2 exp room = ⟨exp, 1 + x1 % 3, 1 - 2 * (x2 % 2), false, 0⟩ by simp [mkCon, hmin])
    clear hmin
    generalize mkCon x1 x2 exp room = c at HC ⊢
    go_enter Tryz.func104, Tryz.ntmps104
    go_wp2
    go_big_region
    go_wp2
    refine bodyPost_ret (v := c.agg) (by rw [HC.out]; simp [results, Tryz.results104, go_sem, Con.agg]) rfl ⟨rfl, ?_⟩
    repeat (first | exact Below.refl _ _ | refine below_drewN ?_ _ | refine Below.alloc ?_ (by first | omega | (simp; done) | (simp; omega)) _ | refine Below.setCell ?_ (by first | omega | (simp; done) | (simp; omega)) _)
  have h12 : room = 1 ∨ room = 2 := by omega
  rcases h12 with rfl | rfl
  · have HC := Lib.hid (show mkCon x1 x2 exp 1 = ⟨exp, 1, 1 - 2 * (x2 % 2), false, 0⟩ by have e : min (3 : Int) 1 = 1 := by decide
                                                                                         simp [mkCon, e])
    generalize mkCon x1 x2 exp 1 = c at HC ⊢
    go_enter Tryz.func104, Tryz.ntmps104
    go_wp2
    go_big_region
    go_wp2
    refine bodyPost_ret (v := c.agg) (by rw [HC.out]; simp [results, Tryz.results104, go_sem, Con.agg]) rfl ⟨rfl, ?_⟩
    repeat (first | exact Below.refl _ _ | refine below_drewN ?_ _ | refine Below.alloc ?_ (by first | omega | (simp; done) | (simp; omega)) _ | refine Below.setCell ?_ (by first | omega | (simp; done) | (simp; omega)) _)
  · have HC := Lib.hid (show mkCon x1 x2 exp 2 = ⟨exp, 1 + x1 % 2, 1 - 2 * (x2 % 2), false, 0⟩ by have e : min (3 : Int) 2 = 2 := by decide
                                                                                                  simp [mkCon, e])
    generalize mkCon x1 x2 exp 2 = c at HC ⊢
    go_enter Tryz.func104, Tryz.ntmps104
    go_wp2
    go_big_region
    go_wp2
    refine bodyPost_ret (v := c.agg) (by rw [HC.out]; simp [results, Tryz.results104, go_sem, Con.agg]) rfl ⟨rfl, ?_⟩
    repeat (first | exact Below.refl _ _ | refine below_drewN ?_ _ | refine Below.alloc ?_ (by first | omega | (simp; done) | (simp; omega)) _ | refine Below.setCell ?_ (by first | omega | (simp; done) | (simp; omega)) _)

theorem mkCon_good {x1 x2 exp room : Int} (hr : 1 ≤ room) : (mkCon x1 x2 exp room).exp = exp ∧ 1 ≤ (mkCon x1 x2 exp room).dim ∧ (mkCon x1 x2 exp room).dim ≤ room ∧ ((mkCon x1 x2 exp room).sign = 1 ∨ (mkCon x1 x2 exp room).sign = -1) ∧ (mkCon x1 x2 exp room).odd = false ∧ (mkCon x1 x2 exp room).oddity = 0 := by
  have hm : 1 ≤ min 3 room ∧ min 3 room ≤ room := by omega
  have hx : 0 ≤ x1 % min 3 room ∧ x1 % min 3 room < min 3 room := ⟨Int.emod_nonneg _ (by omega), Int.emod_lt_of_pos _ (by omega)⟩
  refine ⟨rfl, ?_, ?_, ?_, rfl, rfl⟩ <;> simp only [mkCon] <;> omega
end Go.Proofs.YtejmmglffmckeaaGreatDoor.Q
