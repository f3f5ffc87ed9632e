/- quadformref26.Scale. -/
import Derived.Test.YtejmmglffmckeaaDoorS2
namespace Go.Proofs.YtejmmglffmckeaaDoor.Q
open Go.RowKit

theorem app_step {W w3 : World} {v v' : Value} {l : List Con} {c : Con} {B : Nat} (hB : B ≤ W.heap.size) (hown : Own W B v l) (hown' : w3.ownsRow B 31 5 v' (l.length + 1) (flat l ++ c.vals)) (hg : W.grownBy w3 v.ownBlock) :
    Own w3 B v' (l ++ [c]) ∧ Below B W w3 ∧ W.heap.size ≤ w3.heap.size := by
  refine ⟨?_, Below.grown (Below.refl _ _) hg hB (fun k hk => (hown.lt k hk).1), hg.size⟩
  unfold Own
  rw [flat_append]
  simpa [flat] using hown'
theorem five_new {W : World} {c : Con} {h : Nat} (hh : W.heap.size = h) (x : Array Value) (hx : x = c.vals.toArray) (t : TypeId) : ∀ j u, c.vals[j]? = some u → (W.alloc (.cells x t)).cell? ((⟨h, 0, none⟩ : Addr).add j) = some u := by
  subst hh hx
  exact cell_five_new W c t
theorem conVals_one (c : Con) : ∀ x ∈ c.vals, x.oneCell' = true := by
  intro x hx; simp [Con.vals] at hx; rcases hx with rfl | rfl | rfl | rfl | rfl <;> rfl
theorem map_snoc {f : Con → Con} {l : List Con} {k : Nat} {c : Con} (h : l[k]? = some c) : (l.take k).map f ++ [f c] = (l.take (k + 1)).map f := by
  rw [take_snoc h, List.map_append]; rfl

theorem vS_of {p : Int} {l l' : List Con} (h : vS p l = true) (hne : l' ≠ []) : vS p l' = vL l' 0 (-1) := by
  obtain ⟨h1, h2, h3, _, _⟩ := vS_parts h
  have : l'.isEmpty = false := by cases l'; exact absurd rfl hne; rfl
  simp [vS, h1, h2, h3, this]

end Go.Proofs.YtejmmglffmckeaaDoor.Q
