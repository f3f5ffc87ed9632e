/- The excess: plain mathematics. -/
import Derived.Test.YtejmmglffmckeaaGreatDoorC
namespace Go.Proofs.YtejmmglffmckeaaGreatDoor.Q

theorem pow_mod (a : Int) (k : Nat) : (a % 8) ^ k % 8 = a ^ k % 8 := by
  induction k with
  | zero => simp
  | succ k ih => rw [Int.pow_succ, Int.pow_succ, Int.mul_emod, ih, Int.emod_emod, ← Int.mul_emod]
theorem mul_pow_mod (o a : Int) (k : Nat) : (o * (a % 8) ^ k) % 8 = (o * a ^ k) % 8 := by
  rw [Int.mul_emod, pow_mod, ← Int.mul_emod]

/-- p to the e modulo 8. -/
def pw (p e : Int) : Int := p ^ e.toNat % 8
theorem pw_bounds (p e : Int) : 0 ≤ pw p e ∧ pw p e ≤ 7 := by
  unfold pw; omega
theorem pow_odd {p : Int} (h : p % 2 = 1) : ∀ k : Nat, p ^ k % 2 = 1
  | 0 => by simp
  | k + 1 => by rw [Int.pow_succ, Int.mul_emod, pow_odd h k, h]; rfl
theorem pw_pos {p : Int} (h : p % 2 = 1) (e : Int) : 1 ≤ pw p e := by
  have := pow_odd h e.toNat
  unfold pw; omega

/-- What ModPow's loop keeps. -/
theorem modpow_even {o a e : Int} (h0 : 0 ≤ e) (he : e % 2 = 0) : (o * (a * a % 8) ^ (e / 2).toNat) % 8 = (o * a ^ e.toNat) % 8 := by
  rw [mul_pow_mod]
  have : e.toNat = (e / 2).toNat + (e / 2).toNat := by omega
  rw [this, Int.pow_add, ← Int.mul_pow]
theorem modpow_odd {o a e : Int} (h0 : 0 ≤ e) (he : e % 2 = 1) : ((o * a % 8) * (a * a % 8) ^ (e / 2).toNat) % 8 = (o * a ^ e.toNat) % 8 := by
  rw [mul_pow_mod]
  have : e.toNat = (e / 2).toNat + (e / 2).toNat + 1 := by omega
  rw [this, Int.pow_succ, Int.pow_add, ← Int.mul_pow]
  rw [Int.mul_emod, Int.emod_emod, ← Int.mul_emod, Int.mul_assoc, Int.mul_comm a]

def four (c : Con) : Int := if c.exp % 2 = 1 ∧ c.sign = -1 then 4 else 0
def ex1 (p : Int) : List Con → Int
  | [] => 0
  | c :: l => (c.dim * (pw p c.exp - 1) + four c) + ex1 p l
def ex2 (p : Int) : List Con → Int
  | [] => 0
  | c :: l => (c.dim * (pw p c.exp + 7) + four c) + ex2 p l
theorem ex1_append (p : Int) (a b : List Con) : ex1 p (a ++ b) = ex1 p a + ex1 p b := by
  induction a with
  | nil => simp [ex1]
  | cons c a ih => simp only [List.cons_append, ex1, ih]; omega
theorem ex2_append (p : Int) (a b : List Con) : ex2 p (a ++ b) = ex2 p a + ex2 p b := by
  induction a with
  | nil => simp [ex2]
  | cons c a ih => simp only [List.cons_append, ex2, ih]; omega
theorem take_snoc {l : List Con} {k : Nat} {c : Con} (h : l[k]? = some c) : l.take (k + 1) = l.take k ++ [c] := by
  rw [List.getElem?_eq_some_iff] at h
  obtain ⟨hk, rfl⟩ := h
  rw [List.take_succ_eq_append_getElem hk]
theorem ex1_step (p : Int) {l : List Con} {k : Nat} {c : Con} (h : l[k]? = some c) : ex1 p (l.take (k + 1)) = ex1 p (l.take k) + (c.dim * (pw p c.exp - 1) + four c) := by
  rw [take_snoc h, ex1_append]; simp [ex1]
theorem ex2_step (p : Int) {l : List Con} {k : Nat} {c : Con} (h : l[k]? = some c) : ex2 p (l.take (k + 1)) = ex2 p (l.take k) + (c.dim * (pw p c.exp + 7) + four c) := by
  rw [take_snoc h, ex2_append]; simp [ex2]
theorem ex_same (p : Int) (l : List Con) : ex1 p l % 8 = ex2 p l % 8 := by
  induction l with
  | nil => rfl
  | cons c l ih =>
    simp only [ex1, ex2]
    have : c.dim * (pw p c.exp + 7) = c.dim * (pw p c.exp - 1) + 8 * c.dim := by
      rw [Int.mul_add, Int.mul_sub]; omega
    omega

/-- What a valid list's constituents are. -/
def Con.good (c : Con) : Prop := 0 ≤ c.exp ∧ c.exp ≤ 60 ∧ 1 ≤ c.dim ∧ c.dim ≤ 8 ∧ (c.sign = 1 ∨ c.sign = -1) ∧ c.odd = false ∧ c.oddity = 0
theorem vL_good : ∀ {l : List Con} {s last : Int}, 0 ≤ s → -1 ≤ last → vL l s last = true → ∀ c ∈ l, c.good
  | [], _, _, _, _, _, c, hc => by cases hc
  | x :: l, s, last, h0, h1, h, c, hc => by
    simp only [vL, Bool.and_eq_true, vc, decide_eq_true_eq] at h
    obtain ⟨⟨a1, a2, a3, a4, a5, a6, a7⟩, h2⟩ := h
    rcases List.mem_cons.1 hc with rfl | hc
    · exact ⟨by omega, a2, a3, by omega, a5, a6, a7⟩
    · exact vL_good (by omega) (by omega) h2 c hc
theorem vL_len : ∀ {l : List Con} {s last : Int}, s ≤ 8 → vL l s last = true → (l.length : Int) ≤ 8 - s
  | [], _, _, _, _ => by simp; omega
  | x :: l, s, last, h0, h => by
    simp only [vL, Bool.and_eq_true, vc, decide_eq_true_eq] at h
    obtain ⟨⟨a1, a2, a3, a4, _⟩, h2⟩ := h
    have := vL_len (by omega) h2
    simp; omega
theorem vS_parts {p : Int} {l : List Con} (h : vS p l = true) : 2 < p ∧ p ≤ 9973 ∧ isP p = true ∧ l ≠ [] ∧ vL l 0 (-1) = true := by
  simp only [vS, Bool.and_eq_true, decide_eq_true_eq, Bool.not_eq_true'] at h
  obtain ⟨⟨⟨⟨h1, h2⟩, h3⟩, h4⟩, h5⟩ := h
  exact ⟨h1, h2, h3, (by intro e; rw [e] at h4; cases h4), h5⟩
theorem isP_odd {p : Int} (h : isP p = true) (h2 : 2 < p) : p % 2 = 1 := by
  rcases Int.emod_two_eq p with h0 | h0
  · rw [isP_div (d := 2) (by omega) (by omega) h0] at h; cases h
  · exact h0
theorem term1 {c : Con} {p : Int} (hc : c.good) (hp : p % 2 = 1) : 0 ≤ c.dim * (pw p c.exp - 1) ∧ c.dim * (pw p c.exp - 1) ≤ 48 := by
  obtain ⟨_, _, a3, a4, _⟩ := hc
  have := pw_pos hp c.exp
  have := (pw_bounds p c.exp).2
  exact ⟨Int.mul_nonneg (by omega) (by omega), by
    have := Int.mul_le_mul (a := c.dim) (b := pw p c.exp - 1) (c := 8) (d := 6) (by omega) (by omega) (by omega) (by omega)
    omega⟩
theorem term2 {c : Con} {p : Int} (hc : c.good) : 0 ≤ c.dim * (pw p c.exp + 7) ∧ c.dim * (pw p c.exp + 7) ≤ 112 := by
  obtain ⟨_, _, a3, a4, _⟩ := hc
  have := (pw_bounds p c.exp)
  exact ⟨Int.mul_nonneg (by omega) (by omega), by
    have := Int.mul_le_mul (a := c.dim) (b := pw p c.exp + 7) (c := 8) (d := 14) (by omega) (by omega) (by omega) (by omega)
    omega⟩
theorem four_bounds (c : Con) : 0 ≤ four c ∧ four c ≤ 4 := by unfold four; split <;> omega
end Go.Proofs.YtejmmglffmckeaaGreatDoor.Q
