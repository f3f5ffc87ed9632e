/- Plain laws: the dual of the dual, scaling there and back. -/
import Derived.Test.YtejmmglffmckeaaDoorS5
namespace Go.Proofs.YtejmmglffmckeaaDoor.Q

theorem firstE_turn {l : List Con} (h : l ≠ []) (K : Int) : firstE (l.reverse.map (turn K)) = K - lastE l := by
  obtain ⟨m, x, rfl⟩ : ∃ m x, l = m ++ [x] := ⟨l.dropLast, l.getLast h, (List.dropLast_concat_getLast h).symm⟩
  simp [firstE, lastE, turn]
theorem lastE_turn {l : List Con} (h : l ≠ []) (K : Int) : lastE (l.reverse.map (turn K)) = K - firstE l := by
  cases l with
  | nil => exact absurd rfl h
  | cons x l => simp [firstE, lastE, turn]
theorem firstE_shift {l : List Con} (h : l ≠ []) (K : Int) : firstE (l.map (shift K)) = firstE l + K := by
  cases l with
  | nil => exact absurd rfl h
  | cons x l => simp [firstE, shift]
theorem lastE_shift {l : List Con} (h : l ≠ []) (K : Int) : lastE (l.map (shift K)) = lastE l + K := by
  obtain ⟨m, x, rfl⟩ : ∃ m x, l = m ++ [x] := ⟨l.dropLast, l.getLast h, (List.dropLast_concat_getLast h).symm⟩
  simp [lastE, shift]
theorem turn_turn (l : List Con) (K : Int) : (l.reverse.map (turn K)).reverse.map (turn K) = l := by
  simp only [List.map_reverse, List.reverse_reverse, List.map_map]
  have : turn K ∘ turn K = id := by
    funext c
    cases c
    simp [turn]
    omega
  rw [this, List.map_id]
theorem shift_shift (l : List Con) (K : Int) : (l.map (shift K)).map (shift (-K)) = l := by
  rw [List.map_map]
  have : shift (-K) ∘ shift K = id := by
    funext c
    cases c
    simp [shift]
    omega
  rw [this, List.map_id]

theorem top_le {p : Int} {l : List Con} (hv : vS p l = true) (ht : ∀ c ∈ l, c.exp ≤ 23) : 0 ≤ firstE l ∧ firstE l ≤ lastE l ∧ lastE l ≤ 23 := by
  obtain ⟨_, _, _, h4, h5⟩ := vS_parts hv
  obtain ⟨x1, x2, x3⟩ := exps_in h5 h4
  obtain ⟨c, hc, e⟩ := lastE_mem h4
  have := ht c hc
  omega
section
variable {p : Int} {l : List Con} {J : Int} (hv : vS p l = true) (ht : ∀ c ∈ l, c.exp ≤ 23) (h0 : 0 ≤ J) (h1 : J ≤ 29)
include hv ht h0 h1
theorem dual1 : duS p l (lastE l + J) = (p, l.reverse.map (turn (lastE l + J)), 0) := by
  obtain ⟨x1, x2, x3⟩ := top_le hv ht
  unfold duS
  rw [if_pos hv, if_pos (by omega)]
theorem dual2 : duS p (l.reverse.map (turn (lastE l + J))) (lastE l + J) = (p, l, 0) := by
  obtain ⟨x1, x2, x3⟩ := top_le hv ht
  obtain ⟨_, _, _, h4, h5⟩ := vS_parts hv
  have hv' : vS p (l.reverse.map (turn (lastE l + J))) = true := by
    rw [vS_of hv (by simpa using h4), vL_turn h5 h4]
    exact decide_eq_true (by omega)
  unfold duS
  rw [if_pos hv', if_pos (by rw [firstE_turn h4, lastE_turn h4]; omega), turn_turn]
theorem scale1 : scS p l J = (p, l.map (shift J), 0) := by
  obtain ⟨x1, x2, x3⟩ := top_le hv ht
  unfold scS
  rw [if_pos hv, if_pos (by omega)]
theorem scale2 : scS p (l.map (shift J)) (-J) = (p, l, 0) := by
  obtain ⟨x1, x2, x3⟩ := top_le hv ht
  obtain ⟨_, _, _, h4, h5⟩ := vS_parts hv
  have hv' : vS p (l.map (shift J)) = true := by
    rw [vS_of hv (by simpa using h4), vL_shift h5 h4]
    exact decide_eq_true (by omega)
  unfold scS
  rw [if_pos hv', if_pos (by rw [firstE_shift h4, lastE_shift h4]; omega), shift_shift]
end
end Go.Proofs.YtejmmglffmckeaaDoor.Q
