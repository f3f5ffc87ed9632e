/- quadformref24.Small, Odd; quadformref26.order, Valid. -/
import Derived.Test.YtejmmglffmckeaaDoorW3
import Derived.BigQuiet
import Derived.Deep.QuietTactic
namespace Go.Proofs.YtejmmglffmckeaaDoor.Q
open Go.RowKit

noncomputable def oddP (p : Int) : Bool := decide (p ≠ 2 ∧ p ≤ 9973) && isP p

def oc (c : Con) (s last : Int) : Bool := decide (last < c.exp ∧ c.exp ≤ 60 ∧ 1 ≤ c.dim ∧ c.dim ≤ 8 - s ∧ (c.sign = 1 ∨ c.sign = -1))
def oL : List Con → Int → Int → Bool
  | [], _, _ => true
  | c :: l, s, last => oc c s last && oL l (s + c.dim) c.exp
theorem oL_drop {l : List Con} {k : Nat} {c : Con} (h : l[k]? = some c) (s last : Int) : oL (l.drop k) s last = (oc c s last && oL (l.drop (k + 1)) (s + c.dim) c.exp) := by
  rw [List.getElem?_eq_some_iff] at h
  obtain ⟨hk, rfl⟩ := h
  rw [List.drop_eq_getElem_cons hk]
  rfl
theorem oL_end {l : List Con} {k : Nat} (h : l.length ≤ k) (s last : Int) : oL (l.drop k) s last = true := by
  rw [List.drop_eq_nil_of_le h]; rfl

theorem below_drewN {B : Nat} {a w : World} (h : Below B a w) (n : Nat) : Below B a (w.drewN n) := ⟨h.os, h.tape, h.output, h.size, h.block⟩
theorem ordF {c : Con} {S L : Int} {t r : Bool} (h : (oc c S L && t) = r) (hf : ¬ (L < c.exp ∧ c.exp ≤ 60 ∧ 1 ≤ c.dim ∧ c.dim ≤ 8 - S ∧ (c.sign = 1 ∨ c.sign = -1))) : r = false := by
  rw [← h]; simp only [oc, decide_eq_false hf, Bool.false_and]
theorem ordT {c : Con} {S L : Int} {t r : Bool} (h : (oc c S L && t) = r) (hf : L < c.exp ∧ c.exp ≤ 60 ∧ 1 ≤ c.dim ∧ c.dim ≤ 8 - S ∧ (c.sign = 1 ∨ c.sign = -1)) : t = r := by
  rw [← h]; simp only [oc, decide_eq_true hf, Bool.true_and]

end Go.Proofs.YtejmmglffmckeaaDoor.Q
