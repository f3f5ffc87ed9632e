/- quadformref26.Valid. -/
import Derived.Test.YtejmmglffmckeaaDoorW4
namespace Go.Proofs.YtejmmglffmckeaaDoor.Q
open Go.RowKit

theorem bcell {W w1 : World} (hb : Below W.heap.size W w1) : (∀ b o, b < W.heap.size → w1.cell? ⟨b, o, none⟩ = W.cell? ⟨b, o, none⟩) ∧ (∀ b o, b < W.heap.size → w1.frozen? ⟨b, o, none⟩ = W.frozen? ⟨b, o, none⟩) :=
  ⟨fun b o h => hb.cell (p := ⟨b, o, none⟩) h, fun b o h => hb.frozen (p := ⟨b, o, none⟩) h⟩

def even (c : Con) : Bool := !c.odd && decide (c.oddity = 0)
theorem all_drop {l : List Con} {k : Nat} {c : Con} (h : l[k]? = some c) : (l.drop k).all even = (even c && (l.drop (k + 1)).all even) := by
  rw [List.getElem?_eq_some_iff] at h
  obtain ⟨hk, rfl⟩ := h
  rw [List.drop_eq_getElem_cons hk]
  rfl
theorem all_end {l : List Con} {k : Nat} (h : l.length ≤ k) : (l.drop k).all even = true := by
  rw [List.drop_eq_nil_of_le h]; rfl

theorem oL_vL : ∀ (l : List Con) (s last : Int), vL l s last = (oL l s last && l.all even)
  | [], _, _ => rfl
  | c :: l, s, last => by
    simp only [vL, oL, List.all_cons, oL_vL l]
    have : vc c s last = (oc c s last && even c) := by
      simp only [vc, oc, even]
      rw [Bool.eq_iff_iff]
      simp only [Bool.and_eq_true, decide_eq_true_eq, Bool.not_eq_true']
      constructor
      · rintro ⟨a, b, c, d, e, f, g⟩; exact ⟨⟨a, b, c, d, e⟩, f, g⟩
      · rintro ⟨⟨a, b, c, d, e⟩, f, g⟩; exact ⟨a, b, c, d, e, f, g⟩
    rw [this]
    cases oc c s last <;> cases even c <;> simp

theorem oddP_eq (p : Int) : oddP p = (decide (2 < p ∧ p ≤ 9973) && isP p) := by
  unfold oddP
  cases hp : isP p
  · simp
  · have : 2 ≤ p := by
      rcases Int.lt_or_le p 2 with h | h
      · rw [isP_of_lt h] at hp; cases hp
      · exact h
    rw [Bool.and_true, Bool.and_true]
    congr 1
    rw [eq_iff_iff]
    omega

theorem vS_eq (p : Int) (l : List Con) : vS p l = (oddP p && (!l.isEmpty && oL l 0 (-1)) && l.all even) := by
  unfold vS
  rw [oL_vL, oddP_eq]
  cases (decide (2 < p ∧ p ≤ 9973) && isP p) <;> cases l.isEmpty <;> simp

end Go.Proofs.YtejmmglffmckeaaDoor.Q
