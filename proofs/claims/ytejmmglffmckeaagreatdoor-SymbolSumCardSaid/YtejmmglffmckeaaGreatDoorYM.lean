/- Plain functions on lists of constituents: numbers that fit, which lists are in order. -/
import Derived.Test.YtejmmglffmckeaaGreatDoorYO
set_option linter.unusedSimpArgs false
set_option linter.unusedVariables false
namespace Go.Proofs.YtejmmglffmckeaaGreatDoor.S
open Go.QfSy Go.RowKit

theorem w64 {n : Int} (h1 : -9223372036854775808 ≤ n) (h2 : n ≤ 9223372036854775807) : IntKind.i64.wrap n = n := by
  rw [IntKind.wrap_i64]; omega
theorem wu8 {n : Int} (h1 : 0 ≤ n) (h2 : n ≤ 255) : IntKind.u8.wrap n = n := by
  rw [IntKind.wrap_u8]; omega

/-- The constituent at place i. -/
abbrev at_ (L : List Con) (i : Nat) : Con := L.getD i Con.zero
theorem drop_at {L : List Con} {k : Nat} (h : k < L.length) : L.drop k = at_ L k :: L.drop (k + 1) := by
  rw [List.drop_eq_getElem_cons h]
  simp [at_, h]
theorem take_at {L : List Con} {k : Nat} (h : k < L.length) : L.take (k + 1) = L.take k ++ [at_ L k] := by
  rw [List.take_succ_eq_append_getElem h]
  simp [at_, h]
theorem at_fits {L : List Con} (hf : ∀ c ∈ L, fits c) {k : Nat} (h : k < L.length) : fits (at_ L k) := by
  have : at_ L k = L[k] := by simp [at_, h]
  rw [this]
  exact hf _ (List.getElem_mem h)

def dimS : List Con → Int
  | [] => 0
  | c :: l => c.dim + dimS l
theorem dimS_append (a b : List Con) : dimS (a ++ b) = dimS a + dimS b := by
  induction a with
  | nil => simp [dimS]
  | cons c a ih => simp only [List.cons_append, dimS, ih]; omega
theorem dimS_take {L : List Con} {k : Nat} (h : k < L.length) : dimS (L.take (k + 1)) = dimS (L.take k) + (at_ L k).dim := by
  rw [take_at h, dimS_append]; simp [dimS]

/-- quadformref26.order's test of one constituent behind a number, with a sum of dimensions. -/
def okO (c : Con) (last s : Int) : Bool := decide (0 ≤ c.exp ∧ c.exp ≤ 60 ∧ last < c.exp ∧ (c.sign = 1 ∨ c.sign = -1) ∧ 1 ≤ c.dim ∧ c.dim ≤ 8 - s)
def ordL : List Con → Int → Int → Bool
  | [], _, _ => true
  | c :: l, last, s => okO c last s && ordL l c.exp (s + c.dim)
def orderV (L : List Con) : Bool := ordL L (-1) 0 && decide (dimS L > 0)
def lastO (L : List Con) (k : Nat) : Int := if k = 0 then -1 else (at_ L (k - 1)).exp
theorem lastO_succ (L : List Con) (k : Nat) : lastO L (k + 1) = (at_ L k).exp := by simp [lastO]
theorem ord_next {L : List Con} {k : Nat} {s : Int} (hk : k < L.length) (ho : okO (at_ L k) (lastO L k) s = true) : ordL (L.drop (k + 1)) (lastO L (k + 1)) (s + (at_ L k).dim) = ordL (L.drop k) (lastO L k) s := by
  rw [drop_at hk, lastO_succ]
  show _ = (okO (at_ L k) (lastO L k) s && _)
  rw [ho, Bool.true_and]
theorem ord_bad {L : List Con} {k : Nat} {s : Int} (hk : k < L.length) (ho : okO (at_ L k) (lastO L k) s = false) : ordL (L.drop k) (lastO L k) s = false := by
  rw [drop_at hk]
  show (okO (at_ L k) (lastO L k) s && _) = false
  rw [ho, Bool.false_and]
theorem ord_end {L : List Con} {k : Nat} (hk : L.length ≤ k) (l s : Int) : ordL (L.drop k) l s = true := by
  rw [List.drop_eq_nil_of_le hk]; rfl
theorem dimS_all {L : List Con} {k : Nat} (hk : L.length ≤ k) : dimS (L.take k) = dimS L := by rw [List.take_of_length_le hk]
/-- What the tests of order say together. -/
theorem okO_iff {L : List Con} {k : Nat} {s : Int} : okO (at_ L k) (lastO L k) s = true ↔ (0 ≤ (at_ L k).exp ∧ (at_ L k).exp ≤ 60 ∧ (k = 0 ∨ (at_ L (k - 1)).exp < (at_ L k).exp) ∧ ((at_ L k).sign = 1 ∨ (at_ L k).sign = -1) ∧ 1 ≤ (at_ L k).dim ∧ (at_ L k).dim ≤ 8 - s) := by
  unfold okO lastO
  rw [decide_eq_true_eq]
  split
  · rename_i h
    constructor
    · rintro ⟨a, b, c, d⟩; exact ⟨a, b, .inl h, d⟩
    · rintro ⟨a, b, c, d⟩; exact ⟨a, b, by omega, d⟩
  · rename_i h
    constructor
    · rintro ⟨a, b, c, d⟩; exact ⟨a, b, .inr c, d⟩
    · rintro ⟨a, b, c, d⟩; exact ⟨a, b, by omega, d⟩
end Go.Proofs.YtejmmglffmckeaaGreatDoor.S
