/- quadformscene.Symbol.list of no parts; OddPrime; Symbol.Local; either; long. -/
import Derived.Test.YtejmmglffmckeaaGreatDoorW8
import Derived.Deep.RegionWith
import Derived.Deep.RegionHeld3
namespace Go.Proofs.YtejmmglffmckeaaGreatDoor.Q
open Go.RowKit

theorem con0 : mkCon 0 0 0 1 = ⟨0, 1, 1, false, 0⟩ := by decide

set_option maxRecDepth 100000 in
set_option maxHeartbeats 4000000 in
theorem list_zero (xp most : Int) (a : Option Addr) (cap : Nat) (w : World) (hm : 1 ≤ most) (_ : most ≤ 8) :
    Calls Tryz.prog 53 #[.agg #[.int .u8 xp, .slice a 0 cap], .int .i64 most, .bool false] w fun e w' => ∃ v l, e = .returned v ∧ Listed w.heap.size w' v most l ∧ Below w.heap.size w w' := by
  obtain ⟨i0, hi, hz0, hz1, hz2⟩ := info_parts74
  have hi' := Lib.hid hi
  have hz0' := Lib.hid hz0
  have hz1' := Lib.hid hz1
  have hz2' := Lib.hid hz2
  clear hi hz0 hz1 hz2
  have hcall := Lib.hid (fun W => constituent_calls 0 0 0 0 0 0 1 W (by omega) (by omega) (by omega) (by omega) (by omega) (by omega) (by omega) (by omega))
  have hc0 := con0
  generalize mkCon 0 0 0 1 = c at hcall hc0
  have hc0' := Lib.hid hc0
  clear hc0
  unfold Con.agg at hcall
  go_enter Tryz.func53, Tryz.ntmps53
  go_wp2
  go_loopw [7, 8, 9, 16] (fun v e d i wr => v = .slice none 0 0 ∧ e = .int .i64 (-1) ∧ d = .int .i64 0 ∧ i = .int .i64 0 ∧ wr = w.alloc (.cells #[.int .u8 xp, .slice a 0 cap] 27)) (fun _ _ _ _ _ => 0)
  case atStart => exact ⟨rfl, rfl, rfl, rfl, rfl⟩
  case round =>
    obtain ⟨rfl, rfl, rfl, rfl, rfl⟩ := hrel
    go_wp2_with (first
          | (go_at_call 104; refine (hcall.out _).mono ?_; rintro e w1 ⟨rfl, hb1⟩; have hz1 := hb1.size; simp at hz1)
          | (at_builtin; refine wpList_append_own _ rfl _ _ 22 rfl (w.heap.size + 1) 74 i0 _ 5 40 Tryz.underlying22 hi'.out hz0'.out hz1'.out hz2'.out rfl (by decide) _ 0 [] rfl (World.ownsRow_nil _ _ _ _) ⟨w1.heap.size, 0, none⟩ 1 1 c.vals rfl rfl ?_ (fun x hx => by simp [Con.vals] at hx; rcases hx with rfl | rfl | rfl | rfl | rfl <;> rfl) (by unfold maxLen; omega) (by omega) (by simp; omega) ?_
             · simpa using cell_five_new w1 c 74
             intro v' w3 hown' hgrow3 hnil3
             have hbw3 : Below w.heap.size w w3 := Below.grown ((((Below.refl _ _).alloc (Nat.le_refl _) _).trans (hb1.mono (by simp))).alloc (by omega) _) hgrow3 (by simp; omega) (fun j hj => by cases hj)
             have X : Hid (w3.ownsRow (w.heap.size + 1) 74 5 v' (0 + 1) ([] ++ c.vals) ∧ Below w.heap.size w w3) := ⟨hown', hbw3⟩
             clear hown' hgrow3 hnil3 hbw3))
    go_ret
    refine ⟨_, [c], rfl, ⟨lst_of_own (base := w.heap.size + 1) (e := 74) (by simpa [flat] using X.out.1), fun k hk => by have := (X.out.1.lt k hk).1; omega, ?_, by simp, ?_, ?_⟩, X.out.2⟩
    · rw [hc0'.out]; decide
    · rw [hc0'.out]; simp [dims]; omega
    · rw [hc0'.out]; simp

theorem list_calls (xp most : Int) (v : Value) (n : Nat) (w : World) (hm : 1 ≤ most) (hm' : most ≤ 8) (hv : Prts w v n) (hn : n ≤ 20) :
    Calls Tryz.prog 53 #[.agg #[.int .u8 xp, v], .int .i64 most, .bool false] w fun e w' => ∃ v l, e = .returned v ∧ Listed w.heap.size w' v most l ∧ Below w.heap.size w w' := by
  obtain ⟨a, cap, rfl, h⟩ := hv
  rcases Nat.eq_zero_or_pos n with rfl | h0
  · exact list_zero xp most a cap w hm hm'
  · obtain ⟨b, o, rfl, hb, hp⟩ := h h0
    exact list_pos xp most n b o cap w hm hm' h0 hn hb hp

def oddPr (k : Int) : Int := ([3, 5, 7, 11, 13, 17, 19, 23] : List Int).getD (k % 8).toNat 3

theorem oddPrime_calls (k : Int) (w : World) (h0 : 0 ≤ k) (h1 : k ≤ 255) : Calls Tryz.prog 29 #[.int .u8 k] w fun e w' => e = .returned (.int .i64 (oddPr k)) ∧ Below w.heap.size w w' := by
  have hk : k % 8 = 0 ∨ k % 8 = 1 ∨ k % 8 = 2 ∨ k % 8 = 3 ∨ k % 8 = 4 ∨ k % 8 = 5 ∨ k % 8 = 6 ∨ k % 8 = 7 := by omega
  rcases hk with h | h | h | h | h | h | h | h
  all_goals
    have HO := Lib.hid (show oddPr k = _ by unfold oddPr; rw [h])
    generalize oddPr k = r at HO ⊢
    go_enter Tryz.func29, Tryz.ntmps29
    go_wp2
    go_ret
    exact ⟨ret_i64 HO.out.symm, (Below.refl _ _).alloc (Nat.le_refl _) _⟩
end Go.Proofs.YtejmmglffmckeaaGreatDoor.Q
