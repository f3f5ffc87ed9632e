/- slices.Reverse of an own list. -/
import Derived.Test.YtejmmglffmckeaaDoorS3
import Derived.BigRegion
namespace Go.Proofs.YtejmmglffmckeaaDoor.Q
open Go.RowKit

/-- A whole constituent is written. -/
theorem Own.put {w : World} {base g n cap : Nat} {l : List Con} (h : Own w base (.slice (some ⟨g, 0, none⟩) n cap) l) {i : Nat} {c : Con} (hi : i < l.length) :
    Own (((((w.setCell ⟨g, i * 5, none⟩ (.int .i64 c.exp)).setCell ⟨g, i * 5 + 1, none⟩ (.int .i64 c.dim)).setCell ⟨g, i * 5 + 2, none⟩ (.int .i64 c.sign)).setCell ⟨g, i * 5 + 3, none⟩ (.bool c.odd)).setCell ⟨g, i * 5 + 4, none⟩ (.int .i64 c.oddity)) base (.slice (some ⟨g, 0, none⟩) n cap) (l.set i c) := by
  obtain ⟨d, hd⟩ : ∃ d, l[i]? = some d := ⟨l[i], List.getElem?_eq_getElem hi⟩
  have h0 := h.set (j := 0) (c' := ⟨c.exp, d.dim, d.sign, d.odd, d.oddity⟩) (u := .int .i64 c.exp) hd (by omega) rfl
  have h1 := h0.set (i := i) (j := 1) (c := ⟨c.exp, d.dim, d.sign, d.odd, d.oddity⟩) (c' := ⟨c.exp, c.dim, d.sign, d.odd, d.oddity⟩) (u := .int .i64 c.dim) (by rw [List.getElem?_set_self hi]) (by omega) rfl
  have h2 := h1.set (i := i) (j := 2) (c := ⟨c.exp, c.dim, d.sign, d.odd, d.oddity⟩) (c' := ⟨c.exp, c.dim, c.sign, d.odd, d.oddity⟩) (u := .int .i64 c.sign) (by rw [List.getElem?_set_self (by simpa using hi)]) (by omega) rfl
  have h3 := h2.set (i := i) (j := 3) (c := ⟨c.exp, c.dim, c.sign, d.odd, d.oddity⟩) (c' := ⟨c.exp, c.dim, c.sign, c.odd, d.oddity⟩) (u := .bool c.odd) (by rw [List.getElem?_set_self (by simpa using hi)]) (by omega) rfl
  have h4 := h3.set (i := i) (j := 4) (c := ⟨c.exp, c.dim, c.sign, c.odd, d.oddity⟩) (c' := c) (u := .int .i64 c.oddity) (by rw [List.getElem?_set_self (by simpa using hi)]) (by omega) rfl
  simpa [List.set_set] using h4

/-- The first k and the last k of l are exchanged. -/
def Rev (l : List Con) (n k : Nat) (X : List Con) : Prop := X.length = n ∧ ∀ i, i < n → X[i]? = if i < k ∨ n - k ≤ i then l[n - 1 - i]? else l[i]?
theorem Rev.step {l X : List Con} {n k : Nat} {a b : Con} (h : Rev l n k X) (hk : k < n - 1 - k) (ha : X[k]? = some a) (hb : X[n - 1 - k]? = some b) : Rev l n (k + 1) ((X.set k b).set (n - 1 - k) a) := by
  obtain ⟨h1, h2⟩ := h
  refine ⟨by simp [h1], fun i hi => ?_⟩
  have e1 := h2 k (by omega)
  have e2 := h2 (n - 1 - k) (by omega)
  rw [if_neg (by omega)] at e1 e2
  rw [List.getElem?_set, List.getElem?_set]
  by_cases c1 : n - 1 - k = i
  · subst c1
    rw [if_pos rfl, if_pos (by simp [h1]; omega), if_pos (by omega)]
    have : n - 1 - (n - 1 - k) = k := by omega
    rw [this, ← e1, ha]
  · rw [if_neg c1]
    by_cases c2 : k = i
    · subst c2
      rw [if_pos rfl, if_pos (by omega), if_pos (by omega), ← e2, hb]
    · rw [if_neg c2, h2 i hi]
      by_cases c3 : i < k ∨ n - k ≤ i
      · rw [if_pos c3, if_pos (by omega)]
      · rw [if_neg c3, if_neg (by omega)]
theorem Rev.done {l X : List Con} {n k : Nat} (hl : l.length = n) (h : Rev l n k X) (hk : n - 1 - k ≤ k) (hk2 : 2 * k ≤ n) : X = l.reverse := by
  obtain ⟨h1, h2⟩ := h
  apply List.ext_getElem?
  intro i
  by_cases hi : i < n
  · rw [h2 i hi, List.getElem?_reverse (by omega), hl]
    by_cases c3 : i < k ∨ n - k ≤ i
    · rw [if_pos c3]
    · rw [if_neg c3]
      have : n - 1 - i = i := by omega
      rw [this]
  · rw [List.getElem?_eq_none (by omega), List.getElem?_eq_none (by simp; omega)]

theorem ixJ {n g cap k : Nat} (h : k < n) (W : World) : (Instr.indexAt 26 (.slice (some ⟨g, 0, none⟩) n cap) (.int .i64 ((n : Int) - 1 - k))).run Tryd.prog W = .ok (.pointer (some ⟨g, (n - 1 - k) * 5, none⟩)) W := by
  have := run_ix (i := n - 1 - k) (n := n) (I := (n : Int) - 1 - k) (by omega) (by omega) g 0 cap W
  simpa using this
theorem ixI {n g cap k : Nat} (h : k < n) (W : World) : (Instr.indexAt 26 (.slice (some ⟨g, 0, none⟩) n cap) (.int .i64 (k : Int))).run Tryd.prog W = .ok (.pointer (some ⟨g, k * 5, none⟩)) W := by
  have := run_ix (i := k) (n := n) (I := (k : Int)) rfl h g 0 cap W
  simpa using this

set_option maxRecDepth 100000 in
set_option maxHeartbeats 4000000 in
theorem reverse_own (l : List Con) (n g cap base : Nat) (w : World) (hn : Hid (l.length = n)) (hn0 : 0 < n) (hn1 : n ≤ 1000) (_ : g < w.heap.size) (hO : Hid (Own w base (.slice (some ⟨g, 0, none⟩) n cap) l)) :
    Calls Tryd.prog 16 #[.slice (some ⟨g, 0, none⟩) n cap] w fun e w' => e = .returned (.tuple #[]) ∧ Hid (Own w' base (.slice (some ⟨g, 0, none⟩) n cap) l.reverse) ∧ Below g w w' := by
  go_enter Tryd.func16, Tryd.ntmps16
  go_wp2
  go_loopw [2, 3] (fun i j wr => ∃ (k : Nat) (X : List Con), 2 * k ≤ n ∧ i = .int .i64 k ∧ j = .int .i64 ((n : Int) - 1 - k) ∧ Below g w wr ∧ Hid (Rev l n k X) ∧ Hid (Own wr base (.slice (some ⟨g, 0, none⟩) n cap) X)) (fun i _ _ => (n - (intOf i).toNat))
  case atStart => exact ⟨0, l, by omega, rfl, by simp, Below.refl _ _, ⟨hn.out, fun i hi => by rw [if_neg (by omega)]⟩, hO⟩
  case round =>
    obtain ⟨k, X, hk2, rfl, rfl, hbe, hR, hX⟩ := hrel
    by_cases hlt : k < n - 1 - k
    · obtain ⟨a, ha⟩ : ∃ c, X[k]? = some c := ⟨X[k]'(by rw [hR.out.1]; omega), List.getElem?_eq_getElem _⟩
      obtain ⟨b, hb⟩ : ∃ c, X[n - 1 - k]? = some c := ⟨X[n - 1 - k]'(by rw [hR.out.1]; omega), List.getElem?_eq_getElem _⟩
      obtain ⟨a0, a1, a2, a3, a4⟩ := hX.out.at_ ha
      obtain ⟨b0, b1, b2, b3, b4⟩ := hX.out.at_ hb
      have hfr := fun j => hX.out.free j
      have hst := Lib.hid (hR.out.step hlt ha hb)
      have hO2 := Lib.hid ((hX.out.put (i := k) (c := b) (by rw [hR.out.1]; omega)).put (i := n - 1 - k) (c := a) (by simp [hR.out.1]; omega))
      have i1 := ixJ (n := n) (g := g) (cap := cap) (k := k) (by omega)
      have i2 := ixI (n := n) (g := g) (cap := cap) (k := k) (by omega)
      have hJ : ∀ i j : Nat, i < 5 → j < 5 → k * 5 + i ≠ (n - 1 - k) * 5 + j := by intro i j h1 h2; omega
      have c1 : (k : Int) < (n : Int) - 1 - k := by omega
      clear ha hb hX hR
      generalize n - 1 - k = m at *
      obtain ⟨z0, z1, z2, z3, z4, z5, z6, z7, z8, z9, z10, z11, z12, z13, z14, z15, z16, z17, z18, z19, z20, z21, z22, z23, z24⟩ : ¬ m * 5 = k * 5 ∧ ¬ m * 5 + 1 = k * 5 ∧ ¬ m * 5 + 2 = k * 5 ∧ ¬ m * 5 + 3 = k * 5 ∧ ¬ m * 5 + 4 = k * 5 ∧ ¬ m * 5 = k * 5 + 1 ∧ ¬ m * 5 + 1 = k * 5 + 1 ∧ ¬ m * 5 + 2 = k * 5 + 1 ∧ ¬ m * 5 + 3 = k * 5 + 1 ∧ ¬ m * 5 + 4 = k * 5 + 1 ∧ ¬ m * 5 = k * 5 + 2 ∧ ¬ m * 5 + 1 = k * 5 + 2 ∧ ¬ m * 5 + 2 = k * 5 + 2 ∧ ¬ m * 5 + 3 = k * 5 + 2 ∧ ¬ m * 5 + 4 = k * 5 + 2 ∧ ¬ m * 5 = k * 5 + 3 ∧ ¬ m * 5 + 1 = k * 5 + 3 ∧ ¬ m * 5 + 2 = k * 5 + 3 ∧ ¬ m * 5 + 3 = k * 5 + 3 ∧ ¬ m * 5 + 4 = k * 5 + 3 ∧ ¬ m * 5 = k * 5 + 4 ∧ ¬ m * 5 + 1 = k * 5 + 4 ∧ ¬ m * 5 + 2 = k * 5 + 4 ∧ ¬ m * 5 + 3 = k * 5 + 4 ∧ ¬ m * 5 + 4 = k * 5 + 4 := by refine ⟨?_, ?_, ?_, ?_, ?_, ?_, ?_, ?_, ?_, ?_, ?_, ?_, ?_, ?_, ?_, ?_, ?_, ?_, ?_, ?_, ?_, ?_, ?_, ?_, ?_⟩ <;> omega
      clear hJ
      go_wp2
      go_big_region
      clear z0 z1 z2 z3 z4 z5 z6 z7 z8 z9 z10 z11 z12 z13 z14 z15 z16 z17 z18 z19 z20 z21 z22 z23 z24
      go_wp2
      go_roundw
      case rel =>
        refine ⟨k + 1, _, by omega, by go_num, by go_num, ?_, hst, ?_⟩
        · repeat (first | (with_reducible refine Below.drew ?_) | (with_reducible refine below_drewN ?_ _) | (with_reducible refine Below.setCell ?_ (by simp) _))
          with_reducible exact hbe
        · with_reducible exact Lib.hid (Own.drew hO2.out)
      case measure => simp [intOf]; omega
    · have hd := hR.out.done hn.out (by omega) hk2
      subst hd
      have c1 : ¬ (k : Int) < (n : Int) - 1 - k := by omega
      go_wp2
      go_end0
      exact ⟨rfl, hX, hbe⟩
end Go.Proofs.YtejmmglffmckeaaDoor.Q
