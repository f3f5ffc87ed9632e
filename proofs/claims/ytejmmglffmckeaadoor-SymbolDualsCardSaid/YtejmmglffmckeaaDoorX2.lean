/- either, long of quadformlaw26. -/
import Derived.Test.YtejmmglffmckeaaDoorX1
namespace Go.Proofs.YtejmmglffmckeaaDoor.Q
open Go.RowKit

/-- A symbol's value in a world: p, and a slice that holds l. -/
def Sym (w : World) (s : Value) (p : Int) (l : List Con) : Prop := ∃ a n c, s = .agg #[.int .i64 p, .slice a n c] ∧ Lst w (.slice a n c) l

theorem Sym.below {w w' : World} {s : Value} {p : Int} {l : List Con} {n : Nat} (h : Sym w s p l) (hb : Below n w w') (hn : w.heap.size ≤ n) : Sym w' s p l := by
  obtain ⟨a, m, c, e, hl⟩ := h
  exact ⟨a, m, c, e, hl.below hb hn⟩

theorem Lst.len {w : World} {a : Option Addr} {n c : Nat} {l : List Con} (h : Lst w (.slice a n c) l) : l.length = n := by
  rcases h with ⟨rfl, a', c', e⟩ | ⟨_, b, o, cap, e, _⟩
  · cases e; rfl
  · cases e; rfl

theorem oddPr_cases (k : Int) : oddPr k = 3 ∨ oddPr k = 5 ∨ oddPr k = 7 ∨ oddPr k = 11 ∨ oddPr k = 13 ∨ oddPr k = 17 ∨ oddPr k = 19 ∨ oddPr k = 23 := by
  have hk : k % 8 = 0 ∨ k % 8 = 1 ∨ k % 8 = 2 ∨ k % 8 = 3 ∨ k % 8 = 4 ∨ k % 8 = 5 ∨ k % 8 = 6 ∨ k % 8 = 7 := by omega
  unfold oddPr
  rcases hk with h | h | h | h | h | h | h | h <;> rw [h] <;> decide
theorem isP_small {q : Int} (h2 : 2 ≤ q) (h25 : q < 25) (h : ¬ (q % 2 = 0 ∧ q ≠ 2)) (h' : ¬ (q % 3 = 0 ∧ q ≠ 3)) : isP q = true := by
  unfold isP
  simp only [decide_eq_true_eq]
  refine ⟨h2, by omega, fun d hd hdd => ?_⟩
  have : d < 5 := by
    rcases Int.lt_or_le d 5 with h | h
    · exact h
    · have : (5 : Int) * 5 ≤ d * d := Int.mul_le_mul h h (by omega) (by omega)
      omega
  have : d = 2 ∨ d = 3 ∨ d = 4 := by omega
  rcases this with rfl | rfl | rfl <;> omega
theorem oddPr_vS (k : Int) {l : List Con} (hl : vL l 0 (-1) = true) (hne : l ≠ []) : vS (oddPr k) l = true := by
  have he : l.isEmpty = false := by cases l; exact absurd rfl hne; rfl
  have h1 : 2 < oddPr k ∧ oddPr k ≤ 9973 := by have := oddPr_cases k; omega
  have h2 : isP (oddPr k) = true := by
    have := oddPr_cases k
    exact isP_small (by omega) (by omega) (by omega) (by omega)
  simp [vS, h1, h2, he, hl]

theorem local_form (xp most : Int) (v : Value) (n : Nat) (w : World) (h0 : 0 ≤ xp) (h1 : xp ≤ 255) (hm : 1 ≤ most) (hm' : most ≤ 8) (hv : Prts w v n) (hn : n ≤ 20) :
    Calls Tryd.prog 5 #[.agg #[.int .u8 xp, v], .int .i64 most] w fun e w' => ∃ av nv cv l, e = .returned (.agg #[.int .i64 (oddPr xp), .slice av nv cv]) ∧ Hid (Listed w.heap.size w' (.slice av nv cv) most l) ∧ Below w.heap.size w w' := by
  refine (local_calls xp most v n w h0 h1 hm hm' hv hn).mono ?_
  rintro e w' ⟨v, l, rfl, hL, hb⟩
  obtain ⟨a, n, c, rfl⟩ := hL.lst.form
  exact ⟨a, n, c, l, rfl, hL, hb⟩

end Go.Proofs.YtejmmglffmckeaaDoor.Q
