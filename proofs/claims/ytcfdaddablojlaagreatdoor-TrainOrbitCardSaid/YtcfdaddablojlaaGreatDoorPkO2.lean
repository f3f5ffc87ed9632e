/- A part of the proof of TiedTrainOrbit: TK, RA, RE, LB, YO2, CardTrainOrbit, TiedTrainOrbit. -/
import Derived.Test.YtcfdaddablojlaaGreatDoorPkO1
import Derived.Test.YtcfdaddablojlaaGreatDoorPkOB1
import Derived.Test.YtcfdaddablojlaaGreatDoorPkOM2
import Derived.Test.YtcfdaddablojlaaGreatDoorPkOB2
set_option linter.unusedSimpArgs false
set_option linter.unusedVariables false
/- Plain: the canonical list is fused, has the oddity of the fused one, and a sign -1 only where no link leads down. -/
set_option linter.unusedSimpArgs false
set_option linter.unusedVariables false
namespace Go.Proofs.YtcfdaddablojlaaGreatDoor.S
open Go.QfSy Go.RowKit

theorem canS_same {L : List Con} {k : Nat} (h1 : 1 ≤ k) (h2 : k < L.length) : sameT (canS L k) L := by
  unfold canS
  cases ((at_ L k).sign == -1 && linkM L k)
  · exact sameT.refl L
  · exact step_same h1 h2
theorem canS_fus {L : List Con} {k : Nat} (hf : fusM 2 L = true) (h1 : 1 ≤ k) (h2 : k < L.length) : fusM 2 (canS L k) = true := by
  unfold canS
  cases ((at_ L k).sign == -1 && linkM L k)
  · exact hf
  · exact fus_step hf h1 h2
theorem canS_odd {L : List Con} (hL : okL L) {k : Nat} (h1 : 1 ≤ k) (h2 : k < L.length) : oddVM (canS L k) = oddVM L := by
  unfold canS
  cases h : ((at_ L k).sign == -1 && linkM L k)
  · rfl
  · rw [Bool.and_eq_true] at h
    exact odd_step hL h1 h2 h.2
theorem canS_link {L : List Con} {k j : Nat} (h1 : 1 ≤ k) (h2 : k < L.length) (hj : j < L.length) : linkM (canS L k) j = linkM L j := by
  unfold canS
  cases ((at_ L k).sign == -1 && linkM L k)
  · rfl
  · exact link_step h1 h2 hj
/- what lies above k stays -/
theorem canS_above {L : List Con} {k j : Nat} (h1 : 1 ≤ k) (h2 : k < L.length) (hj : j < L.length) (hk : k < j) : (at_ (canS L k) j).sign = (at_ L j).sign := by
  unfold canS
  cases ((at_ L k).sign == -1 && linkM L k)
  · rfl
  · show (at_ (stepM L k) j).sign = _
    rw [step_at h1 h2 hj]
    unfold stepC
    have e1 : (j == k) = false := by rw [beq_eq_false_iff_ne]; omega
    have e2 : (j == k - 1) = false := by rw [beq_eq_false_iff_ne]; omega
    simp only [e1, e2, Bool.or_self, cond_false]
/- behind its own step no sign -1 is left above a link -/
theorem canS_own {L : List Con} (hL : okL L) {k : Nat} (h1 : 1 ≤ k) (h2 : k < L.length) (hl : linkM L k = true) : (at_ (canS L k) k).sign = 1 := by
  have hs := (hL.at h2).2.2.1
  unfold canS
  rw [hl, Bool.and_true]
  cases h : ((at_ L k).sign == -1)
  · have := beq_eq_false_iff_ne.1 h
    simp only [cond_false]
    omega
  · have h3 := beq_iff_eq.1 h
    simp only [cond_true]
    rw [step_at h1 h2 h2]
    unfold stepC
    simp only [beq_self_eq_true, Bool.true_or, cond_true]
    omega
theorem canG_all : ∀ {k : Nat} {L : List Con}, okL L → fusM 2 L = true → k < L.length → (∀ j, k < j → j < L.length → linkM L j = true → (at_ L j).sign = 1) →
    sameT (canG L k) L ∧ fusM 2 (canG L k) = true ∧ oddVM (canG L k) = oddVM L ∧ (∀ j, j < L.length → linkM (canG L k) j = linkM L j) ∧ ∀ j, 0 < j → j < L.length → linkM L j = true → (at_ (canG L k) j).sign = 1
  | 0, L, hL, hf, hk, hs => ⟨sameT.refl L, hf, rfl, fun _ _ => rfl, fun j h0 hj hl => hs j h0 hj hl⟩
  | k + 1, L, hL, hf, hk, hs => by
    have hlen := canS_len (L := L) (k := k + 1)
    obtain ⟨g1, g2, g3, g4, g5⟩ := canG_all (k := k) (L := canS L (k + 1)) (canS_ok hL hk) (canS_fus hf (by omega) hk) (by rw [hlen]; omega) (fun j h1 h2 h3 => by
      rw [hlen] at h2
      rw [canS_link (by omega) hk h2] at h3
      rcases Nat.lt_or_ge (k + 1) j with h4 | h4
      · rw [canS_above (by omega) hk h2 h4]; exact hs j h4 h2 h3
      · have e : j = k + 1 := by omega
        subst e
        exact canS_own hL (by omega) hk h3)
    simp only [canG]
    refine ⟨g1.trans (canS_same (by omega) hk), g2, g3.trans (canS_odd hL (by omega) hk), fun j hj => ?_, fun j h0 hj hl => ?_⟩
    · rw [g4 j (by rw [hlen]; exact hj), canS_link (by omega) hk hj]
    · exact g5 j h0 (by rw [hlen]; exact hj) (by rw [canS_link (by omega) hk hj]; exact hl)
theorem canM_all {L : List Con} (h : val2M 2 L = true) : sameT (canM L) L ∧ fusM 2 (canM L) = true ∧ oddVM (canM L) = oddVM (fuseM L) ∧ ∀ j, 0 < j → j < L.length → linkM (canM L) j = true → (at_ (canM L) j).sign = 1 := by
  obtain ⟨a, b, c, d⟩ := val2_ok h
  have hl := fuseM_len (L := L)
  obtain ⟨g1, g2, g3, g4, g5⟩ := canG_all (k := (fuseM L).length - 1) (L := fuseM L) (fuseM_ok a) (fus_fuse h) (by omega) (fun j h1 h2 => by omega)
  refine ⟨g1.trans fuseM_same, g2, g3, fun j h0 hj hlk => ?_⟩
  exact g5 j h0 (by omega) (by rw [← g4 j (by omega)]; exact hlk)
end Go.Proofs.YtcfdaddablojlaaGreatDoor.S

/- Plain: steps commute; a step over a link does not change the canonical list. -/
set_option linter.unusedSimpArgs false
set_option linter.unusedVariables false
namespace Go.Proofs.YtcfdaddablojlaaGreatDoor.S
open Go.QfSy Go.RowKit

theorem step_comm {L : List Con} {i k : Nat} (i1 : 1 ≤ i) (i2 : i < L.length) (k1 : 1 ≤ k) (k2 : k < L.length) : stepM (stepM L i) k = stepM (stepM L k) i := by
  have hi : i < (stepM L k).length := by rw [stepM_len]; exact i2
  have hk : k < (stepM L i).length := by rw [stepM_len]; exact k2
  refine list_ext (by simp only [stepM_len]) (fun j hj => ?_)
  simp only [stepM_len] at hj
  rw [step_at k1 hk (by rw [stepM_len]; exact hj), step_at i1 hi (by rw [stepM_len]; exact hj)]
  unfold stepC
  rw [step_at i1 i2 hj, step_at k1 k2 hj, hit_same (step_same i1 i2) k j, hit_same (step_same k1 k2) i j]
  simp only [stepC]
  cases (j == k || j == k - 1) <;> cases (j == i || j == i - 1) <;> cases hitB L k j <;> cases hitB L i j <;> rfl
theorem canS_step {X : List Con} {i k : Nat} (i1 : 1 ≤ i) (ik : i < k) (k2 : k < X.length) : canS (stepM X i) k = stepM (canS X k) i := by
  have i2 : i < X.length := by omega
  have hs : (at_ (stepM X i) k).sign = (at_ X k).sign := by
    rw [step_at i1 i2 k2]
    have h1 : (k == i) = false := by rw [beq_eq_false_iff_ne]; omega
    have h2 : (k == i - 1) = false := by rw [beq_eq_false_iff_ne]; omega
    simp only [stepC, h1, h2, Bool.or_self, cond_false]
  unfold canS
  rw [hs, link_step i1 i2 k2]
  cases ((at_ X k).sign == -1 && linkM X k) with
  | false => rfl
  | true => exact step_comm i1 i2 (by omega) k2
theorem canS_step_own {X : List Con} (hX : okL X) {i : Nat} (i1 : 1 ≤ i) (i2 : i < X.length) (hl : linkM X i = true) : canS (stepM X i) i = canS X i := by
  have hs : (at_ (stepM X i) i).sign = -(at_ X i).sign := by
    rw [step_at i1 i2 i2]
    simp only [stepC, beq_self_eq_true, Bool.true_or, cond_true]
  unfold canS
  rw [hs, link_step i1 i2 i2, hl]
  have h0 := (hX.at i2).2.2.1
  rcases h0 with h0 | h0 <;> rw [h0]
  · exact step_step hX i1 i2
  · rfl
theorem canG_step {i : Nat} (i1 : 1 ≤ i) : ∀ {k : Nat} {X : List Con}, okL X → i < X.length → linkM X i = true → i ≤ k → k < X.length → canG (stepM X i) k = canG X k
  | 0, X, hX, i2, hl, hk, k2 => by omega
  | k + 1, X, hX, i2, hl, hk, k2 => by
    show canG (canS (stepM X i) (k + 1)) k = canG (canS X (k + 1)) k
    rcases Nat.lt_or_ge i (k + 1) with h | h
    · rw [canS_step i1 h k2]
      refine canG_step i1 (canS_ok hX k2) (by rw [canS_len]; exact i2) ?_ (by omega) (by rw [canS_len]; omega)
      rw [canS_link (by omega) k2 i2]; exact hl
    · have e : i = k + 1 := by omega
      subst e
      rw [canS_step_own hX i1 i2 hl]
/- the canonical list of a fused one -/
def canF (M : List Con) : List Con := canG M (M.length - 1)
theorem canM_F (L : List Con) : canM L = canF (fuseM L) := rfl
theorem canF_step {X : List Con} (hX : okL X) {i : Nat} (i1 : 1 ≤ i) (i2 : i < X.length) (hl : linkM X i = true) : canF (stepM X i) = canF X := by
  unfold canF
  rw [stepM_len]
  exact canG_step i1 hX i2 hl (by omega) (by omega)
end Go.Proofs.YtcfdaddablojlaaGreatDoor.S

/- Plain: raw lists can be refined when fused, and walks keep that. -/
set_option linter.unusedSimpArgs false
set_option linter.unusedVariables false
namespace Go.Proofs.YtcfdaddablojlaaGreatDoor.S
open Go.QfSy Go.RowKit

theorem flat_nodup : ∀ {P : List (List Int)} {l : List Int}, P.flatten.Nodup → l ∈ P → l.Nodup
  | [], l, _, hl => by simp at hl
  | q :: P, l, hd, hl => by
    simp only [List.flatten_cons, List.nodup_append] at hd
    rcases List.mem_cons.1 hl with rfl | hl
    · exact hd.1
    · exact flat_nodup hd.2.1 hl
theorem ft2 {p : Int} {L : List Con} (h : fusM p L = true) {l : List Int} (hl : l ∈ partsM L) : totM L l = (at_ L (l.getD 0 0).toNat).oddity := (fus_tot h l hl).2.2
theorem canR_of {L M : List Con} (he : ∀ k, wO (at_ L k) 0 = wO (at_ M k) 0) : ∀ {l : List Int} {tot : Int}, (∀ x ∈ l, legalB (at_ L x.toNat) = true) → (sumO L l - tot) % 8 = 0 → 0 ≤ tot ∧ tot < 8 → canR M l tot = true
  | [], tot, _, hs, ht => by
    simp only [canR, beq_iff_eq]
    simp only [sumO] at hs
    omega
  | i :: l, tot, hl, hs, ht => by
    have h1 := hl i List.mem_cons_self
    have h2 := (of_decide_eq_true h1 : legalP _).2.2.2.1
    simp only [sumO] at hs
    simp only [canR]
    rw [List.any_eq_true]
    refine ⟨(at_ L i.toNat).oddity.toNat, List.mem_range.2 (by omega), ?_⟩
    rw [show (((at_ L i.toNat).oddity.toNat : Nat) : Int) = (at_ L i.toNat).oddity by omega, ← wO_eq (he i.toNat), Bool.and_eq_true]
    refine ⟨h1, canR_of he (fun x hx => hl x (List.mem_cons_of_mem _ hx)) (by omega) (by omega)⟩
theorem fuse_wO (L : List Con) (k : Nat) : wO (at_ L k) 0 = wO (at_ (fuseM L) k) 0 := by
  rcases Nat.lt_or_ge k L.length with hk | hk
  · obtain ⟨h1, h2⟩ := fuseM_same (L := L)
    have h2 := h2 k (by rw [h1]; exact hk)
    exact con_ext h2.1.symm h2.2.2.symm sign_fuseM.symm h2.2.1.symm rfl
  · have e1 : at_ L k = Con.zero := by simp [at_, List.getD_eq_getElem?_getD, List.getElem?_eq_none hk]
    have e2 : at_ (fuseM L) k = Con.zero := by simp [at_, List.getD_eq_getElem?_getD, List.getElem?_eq_none (show (fuseM L).length ≤ k by rw [fuseM_len]; exact hk)]
    rw [e1, e2]
theorem lg_fuse {L : List Con} (h : val2M 2 L = true) : lgAll (fuseM L) = true := by
  have hf := fus_fuse h
  rw [lgAll, List.all_eq_true]
  intro l hl
  rw [← row_lg hf hl]
  have hl' : l ∈ partsM L := by rw [← parts_same (fuseM_same (L := L))]; exact hl
  obtain ⟨h1, h2, _⟩ := parts_rows l hl'
  have hm := first_mem h1
  have h0 := (h2 _ hm).1
  have e : (at_ (fuseM L) (l.getD 0 0).toNat).oddity = totM L l := by
    rw [fuseM_at hl' (by rw [Int.toNat_of_nonneg h0]; exact hm), if_pos (Int.toNat_of_nonneg h0)]
  rw [e]
  refine canR_of (fuse_wO L) (fun x hx => ?_) (by unfold totM; omega) (by unfold totM; omega)
  have := (h2 x hx)
  exact decide_eq_true ((val2_parts h).2 x.toNat (by omega))

theorem lgN_flip : ((List.range 8).all fun d => [true, false].all fun s => (List.range 8).all fun t => (!lgN (d + 1) s t) || lgN (d + 1) (!s) ((t + 4) % 8)) = true := by kernel_rfl
theorem lgN_keep : ((List.range 8).all fun d => [true, false].all fun s => (List.range 8).all fun t => (!lgN (d + 1) s t) || (Nat.beq d 0 || ((Nat.beq d 1 && Nat.beq (t % 4) 0) || lgN (d + 1) s ((t + 4) % 8)))) = true := by kernel_rfl
theorem lgB_flip {d s t : Int} (hd : 1 ≤ d ∧ d ≤ 8) (hs : s = 1 ∨ s = -1) (ht : 0 ≤ t ∧ t < 8) (h : lgB d s t = true) : lgB d (-s) ((t + 4) % 8) = true := by
  obtain ⟨b, rfl⟩ := sg_of hs
  obtain ⟨D, rfl⟩ : ∃ D : Nat, d = D := ⟨d.toNat, by omega⟩
  obtain ⟨T, rfl⟩ : ∃ T : Nat, t = T := ⟨t.toNat, by omega⟩
  rw [lgB_N (by omega) (by omega) (by omega)] at h
  rw [show -(sg b) = sg (!b) by cases b <;> rfl, show ((T : Int) + 4) % 8 = (((T + 4) % 8 : Nat) : Int) by omega, lgB_N (by omega) (by omega) (by omega)]
  have k := lgN_flip
  rw [List.all_eq_true] at k
  have k := k (D - 1) (by simp; omega)
  rw [List.all_eq_true] at k
  have k := k b (by cases b <;> simp)
  rw [List.all_eq_true] at k
  have k := k T (by simp; omega)
  rw [show D - 1 + 1 = D by omega, h] at k
  simpa using k
theorem lgB_keep {d s t : Int} (hd : 2 ≤ d ∧ d ≤ 8) (hs : s = 1 ∨ s = -1) (ht : 0 ≤ t ∧ t < 8) (hb : ¬ (d = 2 ∧ t % 4 = 0)) (h : lgB d s t = true) : lgB d s ((t + 4) % 8) = true := by
  obtain ⟨b, rfl⟩ := sg_of hs
  obtain ⟨D, rfl⟩ : ∃ D : Nat, d = D := ⟨d.toNat, by omega⟩
  obtain ⟨T, rfl⟩ : ∃ T : Nat, t = T := ⟨t.toNat, by omega⟩
  rw [lgB_N (by omega) (by omega) (by omega)] at h
  rw [show ((T : Int) + 4) % 8 = (((T + 4) % 8 : Nat) : Int) by omega, lgB_N (by omega) (by omega) (by omega)]
  have k := lgN_keep
  rw [List.all_eq_true] at k
  have k := k (D - 1) (by simp; omega)
  rw [List.all_eq_true] at k
  have k := k b (by cases b <;> simp)
  rw [List.all_eq_true] at k
  have k := k T (by simp; omega)
  have k0 : Nat.beq (D - 1) 0 = false := by cases hq : Nat.beq (D - 1) 0 with | false => rfl | true => have := Nat.eq_of_beq_eq_true hq; omega
  have k1 : (Nat.beq (D - 1) 1 && Nat.beq (T % 4) 0) = false := by
    cases hq : Nat.beq (D - 1) 1 with
    | false => rfl
    | true =>
      have := Nat.eq_of_beq_eq_true hq
      cases hr : Nat.beq (T % 4) 0 with
      | false => rfl
      | true => have := Nat.eq_of_beq_eq_true hr; exact absurd ⟨by omega, by omega⟩ hb
  rw [show D - 1 + 1 = D by omega, h, k0, k1] at k
  simpa using k

theorem sgnR_step {L : List Con} {i : Nat} (h1 : 1 ≤ i) (h2 : i < L.length) : ∀ {l : List Int}, l.Nodup → inR L.length l → sgnR (stepM L i) l = sgnR L l * (if (i : Int) ∈ l then -1 else 1) * (if (i : Int) - 1 ∈ l then -1 else 1)
  | [], _, _ => by simp [sgnR]
  | x :: l, hd, hl => by
    rw [List.nodup_cons] at hd
    have hx := hl x List.mem_cons_self
    have ih := sgnR_step h1 h2 hd.2 (fun y hy => hl y (List.mem_cons_of_mem _ hy))
    simp only [sgnR]
    rw [ih, step_at h1 h2 (by omega)]
    simp only [stepC, List.mem_cons]
    by_cases e1 : (i : Int) = x
    · have n1 : (i : Int) ∉ l := by rw [e1]; exact hd.1
      have b1 : (x.toNat == i) = true := by rw [beq_iff_eq]; omega
      have n2 : ¬ (i : Int) - 1 = x := by omega
      have q1 : ((i : Int) = x ∨ (i : Int) ∈ l) := .inl e1
      have q2 : ((i : Int) - 1 = x ∨ (i : Int) - 1 ∈ l) ↔ (i : Int) - 1 ∈ l := ⟨fun h => h.resolve_left n2, .inr⟩
      simp only [if_neg n1, if_pos q1, q2, b1, Bool.true_or, cond_true, Int.mul_neg, Int.neg_mul, Int.mul_one, Int.mul_assoc]
    · by_cases e2 : (i : Int) - 1 = x
      · have n1 : (i : Int) - 1 ∉ l := by rw [e2]; exact hd.1
        have b1 : (x.toNat == i) = false := by rw [beq_eq_false_iff_ne]; omega
        have b2 : (x.toNat == i - 1) = true := by rw [beq_iff_eq]; omega
        have q1 : ((i : Int) - 1 = x ∨ (i : Int) - 1 ∈ l) := .inl e2
        have q2 : ((i : Int) = x ∨ (i : Int) ∈ l) ↔ (i : Int) ∈ l := ⟨fun h => h.resolve_left e1, .inr⟩
        simp only [if_neg n1, if_pos q1, q2, b1, b2, Bool.or_true, cond_true, Int.mul_neg, Int.neg_mul, Int.mul_one, Int.mul_assoc]
      · have b1 : (x.toNat == i) = false := by rw [beq_eq_false_iff_ne]; omega
        have b2 : (x.toNat == i - 1) = false := by rw [beq_eq_false_iff_ne]; omega
        rw [b1, b2]
        simp only [e1, e2, false_or, Bool.or_self, cond_false, Int.mul_assoc]
theorem hit_one {L : List Con} {l : List Int} (hl : l ∈ partsM L) {x : Nat} (hx : x < L.length) : (decide (0 < (partM L (x : Int)).length) && (((partM L (x : Int)).getD 0 0).toNat == (l.getD 0 0).toNat)) = decide ((x : Int) ∈ l) := by
  obtain ⟨h1, h2, _⟩ := parts_rows l hl
  cases ho : oddB L x with
  | false =>
    rw [partM_even (fun h => by rw [ho] at h; exact absurd h.2 (by simp))]
    have : (x : Int) ∉ l := fun hm => by
      have := (row_odd hl _ hm).2.2
      rw [Int.toNat_natCast, ho] at this; cases this
    simp [this]
  | true =>
    obtain ⟨p1, p2⟩ := partM_odd hx ho
    by_cases hm : (x : Int) ∈ l
    · rw [part_mem hl hm]
      simp [hm, List.length_pos_iff.2 h1]
    · have hne : ((partM L (x : Int)).getD 0 0).toNat ≠ (l.getD 0 0).toNat := by
        intro e
        obtain ⟨g1, g2, _⟩ := parts_rows _ p1
        have m1 := first_mem g1
        have m2 := first_mem h1
        have e' : (partM L (x : Int)).getD 0 0 = l.getD 0 0 := by have := (g2 _ m1).1; have := (h2 _ m2).1; omega
        rw [e'] at m1
        have := part_mem p1 m1
        rw [part_mem hl m2] at this
        rw [← this] at p2
        exact hm p2
      rw [beq_eq_false_iff_ne.2 hne, decide_eq_false hm, Bool.and_false]
theorem hit_row {L : List Con} {l : List Int} (hl : l ∈ partsM L) {i : Nat} (h1 : 1 ≤ i) (h2 : i < L.length) : hitB L i (l.getD 0 0).toNat = (decide ((i : Int) - 1 ∈ l) || decide ((i : Int) ∈ l)) := by
  unfold hitB
  rw [hit_one hl h2, show (i : Int) - 1 = ((i - 1 : Nat) : Int) by omega, hit_one hl (by omega)]
theorem dimR_len {L : List Con} : ∀ {l : List Int}, (∀ x ∈ l, oddOk (at_ L x.toNat)) → (l.length : Int) ≤ dimR L l
  | [], _ => by simp [dimR]
  | i :: l, h => by
    have h1 := (h i List.mem_cons_self).2.1
    have ih := dimR_len (l := l) (fun x hx => h x (List.mem_cons_of_mem _ hx))
    simp only [dimR, List.length_cons]; omega
theorem lg_step {L : List Con} (hf : fusM 2 L = true) {i : Nat} (h1 : 1 ≤ i) (h2 : i < L.length) (hk : linkM L i = true) (ha : lgAll L = true) : lgAll (stepM L i) = true := by
  rw [lgAll, List.all_eq_true] at ha ⊢
  intro l hl
  have hl : l ∈ partsM L := by rw [← parts_same (step_same h1 h2)]; exact hl
  have ha := ha l hl
  obtain ⟨g1, g2, _⟩ := parts_rows l hl
  obtain ⟨f1, f2, f3, f4, f5⟩ := fus_parts hf
  have hm := g2 _ (first_mem g1)
  have hF := f5 (l.getD 0 0).toNat (by omega)
  have hok := row_ok hf hl
  have hd8 := row_dim hf hl
  have hd1 := dimR_pos g1 hok
  have hsg := sgnR_pm hok
  have hnd : l.Nodup := flat_nodup (parts_nodup L) hl
  unfold lgRow at ha ⊢
  rw [dimR_same (step_same h1 h2) (by rw [stepM_len]; exact g2), sgnR_step h1 h2 hnd g2, step_at h1 h2 (by omega)]
  simp only [stepC]
  rw [hit_row hl h1 h2]
  have ht : 0 ≤ (at_ L (l.getD 0 0).toNat).oddity ∧ (at_ L (l.getD 0 0).toNat).oddity < 8 := ⟨hF.odt.1, by have := hF.odt.2; omega⟩
  by_cases m1 : (i : Int) ∈ l
  · by_cases m2 : (i : Int) - 1 ∈ l
    · rw [if_pos m1, if_pos m2]
      simp only [m1, m2, decide_true, Bool.or_self, cond_true, Int.mul_neg, Int.mul_one, Int.neg_neg]
      have hlen : 2 ≤ l.length := by
        match l, m1, m2 with
        | [], m1, _ => simp at m1
        | [a], m1, m2 => simp at m1 m2; omega
        | a :: b :: l, _, _ => simp
      have hdl := dimR_len hok
      refine lgB_keep ⟨by omega, hd8⟩ hsg ht ?_ ha
      rintro ⟨b1, b2⟩
      obtain ⟨s, n, e, _, hj⟩ := part_row hl
      have hi := mem_ivN.1 (e ▸ m1)
      have hi' := mem_ivN.1 (e ▸ m2)
      have hju := hj (i - s) (by omega)
      rw [show s + (i - s) = i by omega] at hju
      have hj1 := hju.2 (by omega)
      simp only [joinB, Bool.and_eq_true, decide_eq_true_eq] at hj1
      have ho : (at_ L i).odd = true := hju.1
      have hlk := hk
      unfold linkM at hlk
      rw [show (at_ L i).exp - (at_ L (i - 1)).exp = 1 by omega] at hlk
      rw [part_mem hl m1, hj1.2.1, ho] at hlk
      have hbad : badM L l = true := by
        match l, hlen, hdl, b1, hok, ft2 hf hl with
        | [a, b], _, _, b1, hok, ft =>
          have q1 := (hok a (by simp)).2.1
          have q2 := (hok b (by simp)).2.1
          simp only [dimR] at b1
          simp only [badM, List.length_cons, List.length_nil, decide_true, Bool.true_and, Bool.and_eq_true, beq_iff_eq]
          simp only [List.getD_cons_zero, List.getD_cons_succ] at ft b2 ⊢
          exact ⟨by omega, by omega, by rw [ft]; exact b2⟩
        | a :: b :: c :: l, _, hdl, b1, _, _ => simp only [List.length_cons] at hdl; omega
      rw [hbad] at hlk
      simp at hlk
    · rw [if_pos m1, if_neg m2]
      simp only [m1, m2, decide_true, decide_false, Bool.or_true, Bool.false_or, cond_true, Int.mul_neg, Int.mul_one, Int.neg_neg]
      exact lgB_flip ⟨hd1, hd8⟩ hsg ht ha
  · by_cases m2 : (i : Int) - 1 ∈ l
    · rw [if_neg m1, if_pos m2]
      simp only [m1, m2, decide_true, decide_false, Bool.or_false, Bool.true_or, cond_true, Int.mul_neg, Int.mul_one, Int.neg_neg]
      exact lgB_flip ⟨hd1, hd8⟩ hsg ht ha
    · rw [if_neg m1, if_neg m2]
      simp only [m1, m2, decide_false, Bool.or_self, cond_false, Int.mul_one]
      exact ha
end Go.Proofs.YtcfdaddablojlaaGreatDoor.S

/- TrainOrbit returns true. -/
set_option linter.unusedSimpArgs false
set_option linter.unusedVariables false
namespace Go.Proofs.YtcfdaddablojlaaGreatDoor.S
open Go.QfSy Go.RowKit

noncomputable def entsOb (kx : Int) (X : List Prt) (L F K R : List Con) : List OEnt := entsRaw kx X L ++ [
  ⟨22, [], fun A => match A with
    | [.agg [.int .i64 p, .sl n 5 row]] => some (.tup [.agg [.int .i64 2, roC K], .bool true], [(∀ i, i < n → row i = (Con.ofR (row i)).rvs) ∧ p = 2 ∧ val2M 2 (consR n row) = true ∧ canM (consR n row) = K])
    | _ => none⟩,
  ⟨19, [], fun A => match A with
    | [.agg [.int .i64 p, .sl n 5 row]] => some (.tup [.agg [.int .i64 2, roC F], .bool true], [(∀ i, i < n → row i = (Con.ofR (row i)).rvs) ∧ p = 2 ∧ val2M 2 (consR n row) = true ∧ fuseM (consR n row) = F])
    | _ => none⟩,
  ⟨25, [], fun A => match A with
    | [.agg [.int .i64 p, .sl n 5 row], .int .i64 a] => some (.tup [.agg [.int .i64 (bP (wkB (consR n row) a)), roC (bL (wkB (consR n row) a) (stepM (consR n row) a.toNat))], .bool (wkB (consR n row) a)], [(∀ i, i < n → row i = (Con.ofR (row i)).rvs) ∧ p = 2 ∧ fusM 2 (consR n row) = true])
    | _ => none⟩,
  ⟨36, [], fun A => match A with
    | [.agg [.int .i64 p, .sl n 5 row]] => some (.tup [.agg [.int .i64 2, roC R], .bool true], [(∀ i, i < n → row i = (Con.ofR (row i)).rvs) ∧ p = 2 ∧ fusM 2 (consR n row) = true ∧ refM (consR n row) = some R])
    | _ => none⟩]
theorem entsOb_ok {kx : Int} {X : List Prt} {L F K R : List Con} (hra : RawC kx X L) : ∀ e ∈ entsOb kx X L F K R, EntOk Tryz.prog e := by
  intro e he
  rcases List.mem_append.1 he with he | he
  · exact entsRaw_ok hra e he
  simp only [List.mem_cons, List.not_mem_nil, or_false] at he
  rcases he with rfl | rfl | rfl | rfl
  all_goals
    intro A R ms h hm
    simp only at h
    split at h
    all_goals first | (cases h; done) | cases h
  · obtain ⟨h1, h2, h3, h4⟩ := all_one hm
    subst h2
    subst h4
    obtain ⟨a, _, c, _⟩ := val2_ok h3
    exact PureC.imp (tcan_yes _ a h3 c) (.cons (.agg (.cons .same (.cons (.con h1) .nil))) .nil)
  · obtain ⟨h1, h2, h3, h4⟩ := all_one hm
    subst h2
    subst h4
    obtain ⟨a, _, c, _⟩ := val2_ok h3
    exact PureC.imp (tfuse_yes _ a h3 c) (.cons (.agg (.cons .same (.cons (.con h1) .nil))) .nil)
  · obtain ⟨h1, h2, h3⟩ := all_one hm
    subst h2
    exact PureC.imp (twk_yes _ _ h3 (fus_okL h3)) (.cons (.agg (.cons .same (.cons (.con h1) .nil))) .same)
  · obtain ⟨h1, h2, h3, h4⟩ := all_one hm
    subst h2
    exact PureC.imp (tref_yes _ _ h3 h4 (refM_len h4)) (.cons (.agg (.cons .same (.cons (.con h1) .nil))) .nil)
def wN (w : Int) : Int := (IntKind.i64.wrap w).tmod 8
noncomputable def orbS (G : List Con) (w : Int) : List Con := bif wkB G (wN w) then stepM G (wN w).toNat else G
noncomputable def orbF (F : List Con) (ws : List Int) : List Con := ws.foldl orbS F
structure OrbI (K G : List Con) : Prop where
  fus : fusM 2 G = true
  lg : lgAll G = true
  can : canF G = K
theorem wkB_some {L : List Con} {a : Int} (h : wkB L a = true) : 1 ≤ a.toNat ∧ a.toNat < L.length ∧ linkM L a.toNat = true := by
  unfold wkB at h
  simp only [Bool.and_eq_true, decide_eq_true_eq] at h
  exact ⟨by omega, by omega, h.2.2⟩
theorem orbS_ok {K G : List Con} (h : OrbI K G) (w : Int) : OrbI K (orbS G w) := by
  unfold orbS
  cases hk : wkB G (wN w) with
  | false => exact h
  | true =>
    obtain ⟨h1, h2, h3⟩ := wkB_some hk
    exact ⟨fus_step h.fus h1 h2, lg_step h.fus h1 h2 h3 h.lg, (canF_step (fus_okL h.fus) h1 h2 h3).trans h.can⟩
theorem orbF_ok {K : List Con} : ∀ {ws : List Int} {G : List Con}, OrbI K G → OrbI K (orbF G ws)
  | [], _, h => h
  | w :: ws, G, h => orbF_ok (ws := ws) (orbS_ok h w)
theorem orbF_take {F : List Con} {ws : List Int} {k : Nat} (hk : k < ws.length) : orbF F (ws.take (k + 1)) = orbS (orbF F (ws.take k)) (ws.getD k 0) := by
  unfold orbF; rw [take_int hk, List.foldl_append]; rfl
noncomputable def obB : List (Nat × AV) := [(6, .ptr 1003 0), (7, .vbool true), (8, .ptr 1004 0), (9, .vbool true)]
noncomputable def obT (ws : List Int) (j : AV) : List (Nat × AV) := obB ++ [(38, (rI .u8 ws).av), (39, .vint .i64 ws.length), (40, j)]
noncomputable def obH (K G : List Con) : List (Nat × Blk) := [(1003, ⟨.plain [.vint .i64 2, (roC K).av], 24, 0, false, true⟩), (1004, ⟨.plain [.vint .i64 2, (roC G).av], 24, 0, false, true⟩)] ++ tabList tabs
noncomputable def obAnn (ws : List Int) (F K : List Con) : Ann := ⟨⟨obT ws (.int .i64 0), obH K F, 1500⟩, none, fun _ => (.exit 0, ⟨obB, obH K (orbF F ws), 1500⟩)⟩
set_option maxRecDepth 100000 in
theorem ob_loop (kx : Int) (X : List Prt) (ws : List Int) (L F K R : List Con) (hra : RawC kx X L) (hw : ∀ w ∈ ws, U8 w) (hn : ws.length ≤ 1000) (hF : OrbI K F) : AnnOk Tryz.prog EV.ng (Nat.max 2 Tryz.f12.ntmps) (bodyAt Tryz.f12 [0, 1, 0, 1, 1, 1, 1, 1]) (obAnn ws F K) := by
  refine ann_of evOk (callF_ok evOk (orcOf_ok (entsOb_ok (F := F) (K := K) (R := R) hra)) 8) none_ann (by kernel_rfl) (by kernel_rfl) (fun i : Nat × List Con => (fun (j : Nat) (G : List Con) => (⟨obT ws (.vint .i64 (j : Int)), obH K G, 1500⟩ : St)) i.1 i.2) (fun i : Nat × List Con => (fun (j : Nat) (G : List Con) => (ws.length - j : Nat)) i.1 i.2) (fun (d : Bool) (i : Nat × List Con) => (fun (j : Nat) (G : List Con) => (j ≤ ws.length ∧ G = orbF F (ws.take j) : Prop)) i.1 i.2) ?_ ?_
  · intro d hd
    exact ⟨(0, F), [true = true, true = true, ws.length = ws.length ∧ (fun j => [RV.int IntKind.u8 (ws.getD j (0 : Int))]) = fun j => [RV.int IntKind.u8 (ws.getD j (0 : Int))], (↑ws.length : Int) = (↑ws.length : Int), (0 : Int) = (↑(0 : Nat) : Int), (2 : Int) = (2 : Int), K.length = K.length ∧ (fun i => (K.getD i Con.zero).rvs) = fun i => (K.getD i Con.zero).rvs, (2 : Int) = (2 : Int), F.length = F.length ∧ (fun i => (F.getD i Con.zero).rvs) = fun i => (F.getD i Con.zero).rvs], by kernel_rfl, (by refine ⟨?_, ?_, ?_, ?_, ?_, ?_, ?_, ?_, (?_ : F.length = F.length ∧ (fun i => (F.getD i Con.zero).rvs) = fun i => (F.getD i Con.zero).rvs)⟩ <;> (first | rfl | assumption | omega | simp_all)), (by exact ⟨Nat.zero_le _, rfl⟩)⟩
  · rintro d hd ⟨j, G⟩ hI
    cases d
    · -- d = false
      exact Bool.noConfusion (show false = true from hd)
    · -- d = true
      obtain ⟨ht, hG⟩ := hI
      have ht : j ≤ ws.length := ht
      have hG : G = orbF F (ws.take j) := hG
      have hO : OrbI K G := by rw [hG]; exact orbF_ok hF
      have ek : IntKind.i64.wrap ((j : Int) + 1) = ((j + 1 : Nat) : Int) := by rw [w64 (by omega) (by omega)]; omega
      refine Or.elim (Bool.eq_false_or_eq_true (decide ((↑j : Int) < (↑ws.length : Int)))) (fun d1 => Or.elim (Bool.eq_false_or_eq_true (wkB (consR G.length fun i => (G.getD i Con.zero).rvs) ((IntKind.i64.wrap (ws.getD j (0 : Int))).tmod (8 : Int)))) (fun d2 => ⟨[true, true], .inl ⟨(j + 1, orbS G (ws.getD j 0)), [true = true, true = true, ws.length = ws.length ∧ (fun j => [RV.int IntKind.u8 (ws.getD j (0 : Int))]) = fun j => [RV.int IntKind.u8 (ws.getD j (0 : Int))], (↑ws.length : Int) = (↑ws.length : Int), IntKind.i64.wrap ((↑j : Int) + (1 : Int)) = (↑(j + (1 : Nat)) : Int), (2 : Int) = (2 : Int), K.length = K.length ∧ (fun i => (K.getD i Con.zero).rvs) = fun i => (K.getD i Con.zero).rvs, bP (wkB (consR G.length fun i => (G.getD i Con.zero).rvs) ((IntKind.i64.wrap (ws.getD j (0 : Int))).tmod (8 : Int))) = (2 : Int), (bL (wkB (consR G.length fun i => (G.getD i Con.zero).rvs) ((IntKind.i64.wrap (ws.getD j (0 : Int))).tmod (8 : Int))) (stepM (consR G.length fun i => (G.getD i Con.zero).rvs) ((IntKind.i64.wrap (ws.getD j (0 : Int))).tmod (8 : Int)).toNat)).length = (orbS G (ws.getD j (0 : Int))).length ∧ (fun i => ((bL (wkB (consR G.length fun i => (G.getD i Con.zero).rvs) ((IntKind.i64.wrap (ws.getD j (0 : Int))).tmod (8 : Int))) (stepM (consR G.length fun i => (G.getD i Con.zero).rvs) ((IntKind.i64.wrap (ws.getD j (0 : Int))).tmod (8 : Int)).toNat)).getD i Con.zero).rvs) = fun i => ((orbS G (ws.getD j (0 : Int))).getD i Con.zero).rvs, Dec (wkB (consR G.length fun i => (G.getD i Con.zero).rvs) ((IntKind.i64.wrap (ws.getD j (0 : Int))).tmod (8 : Int))) true, (∀ (i : Nat), i < G.length → (fun i => (G.getD i Con.zero).rvs) i = (Con.ofR ((fun i => (G.getD i Con.zero).rvs) i)).rvs) ∧ (2 : Int) = (2 : Int) ∧ fusM (2 : Int) (consR G.length fun i => (G.getD i Con.zero).rvs) = true, (8 : Int) ≠ (0 : Int), (0 : Int) ≤ (↑j : Int) ∧ (↑j : Int) < (↑ws.length : Int), Dec (decide ((↑j : Int) < (↑ws.length : Int))) true], by kernel_rfl, ⟨?_, ?_, ?_, ?_, ?_, ?_, ?_, ?_, ?_, d2, ?_, ?_, ?_, d1⟩, MuG.out ?_, InG.out ?_⟩⟩)
           (fun d2 => ⟨[true, false], .inl ⟨(j + 1, orbS G (ws.getD j 0)), [true = true, true = true, ws.length = ws.length ∧ (fun j => [RV.int IntKind.u8 (ws.getD j (0 : Int))]) = fun j => [RV.int IntKind.u8 (ws.getD j (0 : Int))], (↑ws.length : Int) = (↑ws.length : Int), IntKind.i64.wrap ((↑j : Int) + (1 : Int)) = (↑(j + (1 : Nat)) : Int), (2 : Int) = (2 : Int), K.length = K.length ∧ (fun i => (K.getD i Con.zero).rvs) = fun i => (K.getD i Con.zero).rvs, (2 : Int) = (2 : Int), G.length = (orbS G (ws.getD j (0 : Int))).length ∧ (fun i => (G.getD i Con.zero).rvs) = fun i => ((orbS G (ws.getD j (0 : Int))).getD i Con.zero).rvs, Dec (wkB (consR G.length fun i => (G.getD i Con.zero).rvs) ((IntKind.i64.wrap (ws.getD j (0 : Int))).tmod (8 : Int))) false, (∀ (i : Nat), i < G.length → (fun i => (G.getD i Con.zero).rvs) i = (Con.ofR ((fun i => (G.getD i Con.zero).rvs) i)).rvs) ∧ (2 : Int) = (2 : Int) ∧ fusM (2 : Int) (consR G.length fun i => (G.getD i Con.zero).rvs) = true, (8 : Int) ≠ (0 : Int), (0 : Int) ≤ (↑j : Int) ∧ (↑j : Int) < (↑ws.length : Int), Dec (decide ((↑j : Int) < (↑ws.length : Int))) true], by kernel_rfl, ⟨?_, ?_, ?_, ?_, ?_, ?_, ?_, ?_, ?_, d2, ?_, ?_, ?_, d1⟩, MuG.out ?_, InG.out ?_⟩⟩))
           (fun d1 => ⟨[false], .inr ⟨[true = true, true = true, (2 : Int) = (2 : Int), K.length = K.length ∧ (fun i => (K.getD i Con.zero).rvs) = fun i => (K.getD i Con.zero).rvs, (2 : Int) = (2 : Int), G.length = (orbF F ws).length ∧ (fun i => (G.getD i Con.zero).rvs) = fun i => ((orbF F ws).getD i Con.zero).rvs, Dec (decide ((↑j : Int) < (↑ws.length : Int))) false], by kernel_rfl, ⟨?_, ?_, ?_, ?_, ?_, ?_, d1⟩, rfl⟩⟩)
      all_goals first | (refine MuG.mk ?_; (simp only [decide_eq_true_eq] at *; show ws.length - (j + 1) < ws.length - j; omega)) | (refine InG.mk ?_; (simp only [decide_eq_true_eq] at d1; exact ⟨by omega, by rw [orbF_take (by omega), ← hG]⟩)) | (refine CtG.mk ?_; (simp_all)) | (first | (with_reducible rfl) | exact ⟨rfl, rfl⟩ | decide | ((try simp only [ek, consR_ro, decide_eq_true_eq, decide_eq_false_iff_not] at *) <;> first | omega | (rw [d2]; rfl) | (unfold orbS wN; rw [d2]; exact ⟨rfl, rfl⟩) | (rw [hG, List.take_of_length_le (by omega)]; exact ⟨rfl, rfl⟩) | exact ⟨fun _ _ => rfl, by trivial, hO.fus⟩ | exact ⟨fun _ _ => rfl, hO.fus⟩))
set_option maxHeartbeats 2000000 in
set_option maxRecDepth 100000 in
theorem orbit_y (kx : Int) (X : List Prt) (ws : List Int) (L F K R : List Con) (hra : RawC kx X L) (hw : ∀ w ∈ ws, U8 w) (hn : ws.length ≤ 1000) (hv : val2M 2 L = true) (hF : fuseM L = F) (hO : OrbI K F) (hK : canM L = K) (hne : 0 < K.length) (hkl : K.length ≤ 1000) (hR : refM (orbF F ws) = some R) (hvR : val2M 2 R = true) (hKR : canM R = K) : PureC Tryz.prog tabs 12 [.agg [.int .u8 kx, roP X], rI .u8 ws] (.bool true) := by
  have hO2 := orbF_ok (ws := ws) hO
  have rr := fun (tp : List Bool) (ms : List Prop) h hm => pure_run evOk (callF_ok evOk (orcOf_ok (entsOb_ok (F := F) (K := K) (R := R) hra)) 8) Tryz.func12 (A := [.agg [.int .u8 kx, roP X], rI .u8 ws]) (N := Nat.max 1 Tryz.f12.ntmps) rfl (one_ann (ob_loop kx X ws L F K R hra hw hn hO)) rfl rfl evNg (tabs := tabs) (R := .bool true) (tp := tp) (ms := ms) h hm
  refine Or.elim (Bool.eq_false_or_eq_true (decide ((↑X.length : Int) > (20 : Int)))) (fun d1 => rr [true] [true = true, Dec (decide ((↑X.length : Int) > (20 : Int))) true] (by kernel_rfl) ⟨?_, d1⟩)
           (fun d1 => Or.elim (Bool.eq_false_or_eq_true (decide ((↑ws.length : Int) > (20 : Int)))) (fun d2 => rr [false, true] [true = true, Dec (decide ((↑ws.length : Int) > (20 : Int))) true, Dec (decide ((↑X.length : Int) > (20 : Int))) false] (by kernel_rfl) ⟨?_, d2, d1⟩)
           (fun d2 => Or.elim (Bool.eq_false_or_eq_true (decide ((↑K.length : Int) > (0 : Int)))) (fun d3 => rr [false, false, true, true, true, true, true, true] [true = true, Dec true true, (∀ (i : Nat), i < K.length → (fun i => (K.getD i Con.zero).rvs) i = (Con.ofR ((fun i => (K.getD i Con.zero).rvs) i)).rvs) ∧ (∀ (i : Nat), i < K.length → (fun i => (K.getD i Con.zero).rvs) i = (Con.ofR ((fun i => (K.getD i Con.zero).rvs) i)).rvs) ∧ (2 : Int) = (2 : Int) ∧ ((consR K.length fun i => (K.getD i Con.zero).rvs) = consR K.length fun i => (K.getD i Con.zero).rvs) ∧ K.length ≤ (1000 : Nat), Dec (decide ((↑K.length : Int) > (0 : Int))) true, Dec true true, Dec true true, Dec true true, Dec true true, (∀ (i : Nat), i < R.length → (fun i => (R.getD i Con.zero).rvs) i = (Con.ofR ((fun i => (R.getD i Con.zero).rvs) i)).rvs) ∧ (2 : Int) = (2 : Int) ∧ val2M (2 : Int) (consR R.length fun i => (R.getD i Con.zero).rvs) = true ∧ canM (consR R.length fun i => (R.getD i Con.zero).rvs) = K, (∀ (i : Nat), i < (orbF F ws).length → (fun i => ((orbF F ws).getD i Con.zero).rvs) i = (Con.ofR ((fun i => ((orbF F ws).getD i Con.zero).rvs) i)).rvs) ∧ (2 : Int) = (2 : Int) ∧ fusM (2 : Int) (consR (orbF F ws).length fun i => ((orbF F ws).getD i Con.zero).rvs) = true ∧ refM (consR (orbF F ws).length fun i => ((orbF F ws).getD i Con.zero).rvs) = some R, true = true, true = true, ws.length = ws.length ∧ (fun j => [RV.int IntKind.u8 (ws.getD j (0 : Int))]) = fun j => [RV.int IntKind.u8 (ws.getD j (0 : Int))], (↑ws.length : Int) = (↑ws.length : Int), (2 : Int) = (2 : Int), K.length = K.length ∧ (fun i => (K.getD i Con.zero).rvs) = fun i => (K.getD i Con.zero).rvs, (2 : Int) = (2 : Int), F.length = F.length ∧ (fun i => (F.getD i Con.zero).rvs) = fun i => (F.getD i Con.zero).rvs, (∀ (i : Nat), i < L.length → (fun i => (L.getD i Con.zero).rvs) i = (Con.ofR ((fun i => (L.getD i Con.zero).rvs) i)).rvs) ∧ (2 : Int) = (2 : Int) ∧ val2M (2 : Int) (consR L.length fun i => (L.getD i Con.zero).rvs) = true ∧ fuseM (consR L.length fun i => (L.getD i Con.zero).rvs) = F, (∀ (i : Nat), i < L.length → (fun i => (L.getD i Con.zero).rvs) i = (Con.ofR ((fun i => (L.getD i Con.zero).rvs) i)).rvs) ∧ (2 : Int) = (2 : Int) ∧ val2M (2 : Int) (consR L.length fun i => (L.getD i Con.zero).rvs) = true ∧ canM (consR L.length fun i => (L.getD i Con.zero).rvs) = K, kx = kx ∧ (8 : Int) = (8 : Int) ∧ X.length = X.length ∧ ∀ (i : Nat), i < X.length → (fun i => (X.getD i Prt.zero).rvs) i = (X.getD i Prt.zero).rvs, Dec (decide ((↑ws.length : Int) > (20 : Int))) false, Dec (decide ((↑X.length : Int) > (20 : Int))) false] (by kernel_rfl) ⟨?_, rfl, ?_, d3, rfl, rfl, rfl, rfl, ?_, ?_, ?_, ?_, ?_, ?_, ?_, ?_, ?_, ?_, ?_, ?_, ?_, d2, d1⟩)
           (fun d3 => CtG.no ?_)))
  all_goals first | (refine CtG.mk ?_; (first | (exfalso; simp only [decide_eq_false_iff_not, gt_iff_lt] at *; omega) | (exact absurd d3 (by decide)) | (exact absurd d2 (by simp)) | (simp_all; done))) | (first | (with_reducible rfl) | (with_reducible exact ⟨rfl, rfl⟩) | exact ⟨rfl, rfl, rfl, fun _ _ => rfl⟩ | exact ⟨fun _ _ => rfl, rfl, by rw [consR_ro]; exact hv, by rw [consR_ro]; exact hF⟩ | exact ⟨fun _ _ => rfl, rfl, by rw [consR_ro]; exact hv, by rw [consR_ro]; exact hK⟩ | exact ⟨fun _ _ => rfl, rfl, by rw [consR_ro]; exact hO2.fus, by rw [consR_ro]; exact hR⟩ | exact ⟨fun _ _ => rfl, rfl, by rw [consR_ro]; exact hvR, by rw [consR_ro]; exact hKR⟩ | exact ⟨fun _ _ => rfl, fun _ _ => rfl, rfl, rfl, by omega⟩)
set_option maxRecDepth 100000 in
theorem orbit_m (kx : Int) (X : List Prt) (ws : List Int) (hX : decide ((X.length : Int) > 20) = true) : PureC Tryz.prog tabs 12 [.agg [.int .u8 kx, roP X], rI .u8 ws] (.bool true) := by
  have rr := fun (tp : List Bool) (ms : List Prop) h hm => pure_run evOk (callF_ok evOk (orcOf_ok entsAw2_ok) 8) Tryz.func12 (A := [.agg [.int .u8 kx, roP X], rI .u8 ws]) rfl none_ann rfl rfl evNg (tabs := tabs) (R := .bool true) (tp := tp) (ms := ms) h hm
  refine rr [true] [true = true, Dec (decide ((↑X.length : Int) > (20 : Int))) true] (by kernel_rfl) ⟨?_, hX⟩
  all_goals first | (first | (with_reducible rfl) | (with_reducible exact ⟨rfl, rfl⟩))
set_option maxRecDepth 100000 in
theorem orbit_w (kx : Int) (X : List Prt) (ws : List Int) (hX : decide ((X.length : Int) > 20) = false) (hw : decide ((ws.length : Int) > 20) = true) : PureC Tryz.prog tabs 12 [.agg [.int .u8 kx, roP X], rI .u8 ws] (.bool true) := by
  have rr := fun (tp : List Bool) (ms : List Prop) h hm => pure_run evOk (callF_ok evOk (orcOf_ok entsAw2_ok) 8) Tryz.func12 (A := [.agg [.int .u8 kx, roP X], rI .u8 ws]) rfl none_ann rfl rfl evNg (tabs := tabs) (R := .bool true) (tp := tp) (ms := ms) h hm
  refine rr [false, true] [true = true, Dec (decide ((↑ws.length : Int) > (20 : Int))) true, Dec (decide ((↑X.length : Int) > (20 : Int))) false] (by kernel_rfl) ⟨?_, hw, hX⟩
  all_goals first | (first | (with_reducible rfl) | (with_reducible exact ⟨rfl, rfl⟩))
theorem trainOrbit_pure (kx : Int) (X : List Prt) (ws : List Int) (hX : ∀ p ∈ X, p.ok) (hw : ∀ w ∈ ws, U8 w) : PureC Tryz.prog tabs 12 [.agg [.int .u8 kx, roP X], rI .u8 ws] (.bool true) := by
  by_cases hm : (X.length : Int) > 20
  · exact orbit_m kx X ws (decide_eq_true hm)
  · by_cases hl : (ws.length : Int) > 20
    · exact orbit_w kx X ws (decide_eq_false hm) (decide_eq_true hl)
    · have hra := rawP kx X hX (by omega)
      have hv := val2_listV (most := 8) (by decide) (by decide) hX
      have hO : OrbI (canM (listV 8 true X)) (fuseM (listV 8 true X)) := ⟨fus_fuse hv, lg_fuse hv, rfl⟩
      have hO2 := orbF_ok (ws := ws) hO
      obtain ⟨R, hR, _, hvR, hFR⟩ := ref_some hO2.fus hO2.lg
      have hk := canM_all hv
      have h0 := (val2_ok hv).2.2.1
      have h1 := (val2_ok hv).2.2.2
      have h2 : (canM (listV 8 true X)).length = (listV 8 true X).length := hk.1.1
      exact orbit_y kx X ws _ _ _ R hra hw (by omega) hv rfl hO rfl (by omega) (by omega) hR hvR (by rw [canM_F, hFR]; exact hO2.can)
end Go.Proofs.YtcfdaddablojlaaGreatDoor.S

/- A list of bytes as an argument of a law, opened to a value that is read. -/
namespace Go.Proofs.YtcfdaddablojlaaGreatDoor.S
open Go.ChangeShapes Go.WideShapes Go.ChangeAt Go.RowKit Go.Joins Go.Deep
open Go.QfSy (Con RV RRel RsRel FzAt roC Fz Tb TabW PureC rI)

theorem one_of {α : Type} {l : List α} (h : l.length = 1) : ∃ a, l = [a] := by
  match l, h with
  | [a], _ => exact ⟨a, rfl⟩
section
variable {H : Type} {enc : TypeId × Value → H} {P : Program} {w : World} {base : Nat} {spare : Nat → Bool} {held : Bool} {r : Reach} {b0 : Nat} {v : Value} {d : DataW H} {p : List MemPlace}
theorem one_at {a : Addr} {i : Nat} {cs : List Value} (h : w.cells? base (a.add (i * 1)) 1 = some cs) : cs.length = 1 ∧ a.block < w.heap.size ∧ ∀ j u, cs[j]? = some u → w.cell? ⟨a.block, a.off + i * 1 + j, none⟩ = some u := by
  obtain ⟨_, hl, hc⟩ := World.cells?_some h
  have hlt := World.cells?_block h (by omega)
  refine ⟨hl, by rw [(add_form a (i * 1)).1] at hlt; exact hlt, fun j u hu => ?_⟩
  have hj : j < 1 := by have := (List.getElem?_eq_some_iff.1 hu).1; omega
  have h1 := (hc j hj).trans hu
  have h2 := spot_none h1
  obtain ⟨e1, e2⟩ := add_form (a.add (i * 1)) j
  obtain ⟨e3, e4⟩ := add_form a (i * 1)
  rw [h2, e1, e2, e3, e4] at h1
  exact h1
theorem open_u8s {t u : TypeId} (hcell : P.cellsOf u = 1) (hu : P.underlying u = some (.int .u8)) (ht : P.underlying t = some (.slice u)) (hv : Value.okWide P w r b0 t v) (h : DataW.Trod enc P w base spare held t v d p) :
    ∃ L : List Int, L.length ≤ maxLen ∧ RRel (Wz w) (rI .u8 L) v ∧ ∀ c ∈ L, U8 c := by
  obtain ⟨n, h⟩ := h
  obtain ⟨a0, len0, cap0, rfl⟩ := okWide_slice ht hv
  have h : DataW.trod enc P w base spare held n t [.slice a0 len0 cap0] = some (d, p) := h
  rcases open_slice ht h with ⟨h0, _⟩ | ⟨a, len, cap, m, n', D, Pl, hcs, hb, hl, hm, hmm, hx, hi⟩
  · simp at h0
    obtain ⟨rfl, rfl, rfl⟩ := h0
    exact ⟨[], Nat.zero_le _, .sl0 _ _ _ _ rfl, by simp⟩
  · simp at hcs
    obtain ⟨e1, e2, e3⟩ := hcs
    subst e1
    subst e2
    subst e3
    rw [hcell] at hi
    have hlm : len0 ≤ m := by rw [hmm]; split <;> omega
    have hall : ∀ i, i < len0 → ∃ c : Int, U8 c ∧ ∀ j y, ([Value.int .u8 c])[j]? = some y → w.cell? ⟨a.block, a.off + i * 1 + j, none⟩ = some y := by
      intro i him
      obtain ⟨cs', hc, ht⟩ := hi i (by omega)
      obtain ⟨hl1, hlt, hat⟩ := one_at hc
      obtain ⟨x, rfl⟩ := one_of hl1
      obtain ⟨z, rfl, hz⟩ := one_int hu ht (Option.some_ne_none _)
      exact ⟨z, wf_u8 hz, hat⟩
    obtain ⟨L, hll, hr⟩ := list_of hall
    refine ⟨L, by rw [hll]; exact Nat.le_trans hl hm, ?_, fun c hc => ?_⟩
    · by_cases h0 : len0 = 0
      · subst h0
        exact .sl0 _ _ _ _ hll
      · have hsp : a = ⟨a.block, a.off, none⟩ := by
          obtain ⟨cs', hc, _⟩ := hi 0 (by omega)
          obtain ⟨_, hl5, hc5⟩ := World.cells?_some hc
          have h1 := hc5 0 (by omega)
          rw [List.getElem?_eq_getElem (by omega)] at h1
          have := spot_none h1
          simpa [Addr.add] using this
        rw [hsp, ← hll]
        refine .sl (fun i => [Value.int .u8 (L.getD i 0)]) (by rw [hll]; exact hl) (fun i _ => rfl) (fun i j u hi' hu => ?_) (fun i _ => .cons (.int _ _) .nil)
        have he : L[i]? = some (L.getD i 0) := by simp [hi']
        exact cell_fz ((hr i _ he).2 j u hu)
    · obtain ⟨i, hi', he⟩ := List.getElem_of_mem hc
      exact (hr i c (by rw [List.getElem?_eq_getElem hi', he])).1
end
end Go.Proofs.YtcfdaddablojlaaGreatDoor.S

/- TrainOrbit returns true whatever the input, and its arguments read as before: the row's statement. -/
namespace Go.Proofs.YtcfdaddablojlaaGreatDoor.trainOrbit
open Go.ChangeShapes Go.WideShapes Go.ChangeAt Go.RowKit Go.Joins Go.Deep
open Go.QfSy (Con RV RRel RsRel FzAt roC Fz Tb TabW PureC)
open S

theorem readable : ∀ t ∈ Tryz.f12.params.toList, Tryz.prog.readableRec t = true ∧ t < Tryz.prog.types.size := by
  have h : (Tryz.f12.params.toList.all fun t => Tryz.prog.readableRec t && Nat.blt t Tryz.prog.types.size) = true := by kernel_rfl
  intro t ht
  have := List.all_eq_true.1 h t ht
  simp only [Bool.and_eq_true] at this
  exact ⟨this.1, Nat.le_of_ble_eq_true this.2⟩

set_option maxRecDepth 100000 in
theorem contract (H : Type) (enc : TypeId × Value → H) (W : World) (base : Nat) (args : Array Value) (ds gs : List (DataW H)) (before : List MemPlace)
    (hval : ∀ (j : Nat) t v, Tryz.f12.params[j]? = some t → args[j]? = some v → Value.okWide Tryz.prog W .any base t v)
    (hW : DataW.Whole enc Tryz.prog Tryz.f12.params.toList Rows.trainOrbitSpec.vars false W args.toList ds gs before) (hO : TabW tabs W) :
    Calls Tryz.prog 12 args W fun e W' => ∃ v, e = .returned v ∧ Rows.trainOrbitSpec.post enc Tryz.prog Tryz.f12 false true false false W args v W' := by
  have hW' := hW
  obtain ⟨p, q, hA0, hV, rfl, hfz, hnd⟩ := hW
  have hA : DataW.TrodAll enc Tryz.prog W 0 (fun _ => true) true Tryz.f12.params.toList args.toList ds p := hA0
  rw [Tryz.params12] at hA hval
  obtain ⟨v0, vs0, d0, ds0, p0, q0, hargs0, rfl, rfl, h0, r0⟩ := trodAll_cons hA
  obtain ⟨v1, vs1, d1, ds1, p1, q1, hargs1, rfl, rfl, h1, r1⟩ := trodAll_cons r0
  obtain ⟨rfl, rfl, rfl⟩ := trodAll_nil r1
  obtain rfl : args = #[v0, v1] := by cases args; simp_all
  obtain ⟨P0, X0, hr0, hP0, hn0, ho0⟩ := open_symbol symbolTys (hval 0 27 v0 rfl rfl) h0
  obtain ⟨B1, hn1, hr1, hB1⟩ := open_u8s (u := 5) (by kernel_rfl) Tryz.underlying5 Tryz.underlying51 (hval 1 51 v1 rfl rfl) h1
  refine (pure_calls (trainOrbit_pure P0 X0 B1 ho0 hB1) hO (.cons hr0 (.cons hr1 .nil))).mono fun e W' ⟨he, hb⟩ => ?_
  exact ⟨_, he, law_post laidOut readable rfl Tryz.underlying4 rfl hW' rfl hb⟩

def wArgs : Array Value := #[.agg #[.int .u8 0, .slice none 0 0], .slice none 0 0]
theorem laid_met (os : Os) : laidMet Tryz.prog Rows.trainOrbitRow.laid ((laidWorld os).forCall (fun _ _ => 0) ⟨#[], wArgs, []⟩).memory :=
  laidMet_of_run' 8 (by kernel_rfl) (by kernel_rfl)
theorem reads (os : Os) {H : Type} (enc : TypeId × Value → H) : ∃ ds places, DataW.whole enc Tryz.prog ((laidWorld os).forCall (fun _ _ => 0) ⟨#[], wArgs, []⟩).memory Tryz.f12.params.toList Rows.trainOrbitSpec.vars false wArgs.toList 8 = some (ds, [], places) :=
  ⟨[.agg [.lit (.int .u8 0), .nil], .nil], [], by kernel_rfl⟩

set_option maxRecDepth 100000 in
theorem lifted (os : Os) (started : os.Started) (H : Type) (enc : TypeId × Value → H) (F : Stop.Interp) :
    ReturnsInHanded {} Tryz.checked os 12 .any ((OpenSpec.ofChange Rows.trainOrbitSpec).preRow enc Tryz.prog Tryz.f12 Rows.trainOrbitRow.domain false Rows.trainOrbitRow.laid) (((OpenSpec.ofChange Rows.trainOrbitSpec).at F).post enc Tryz.prog Tryz.f12 false true false false) := by
  refine returnsInHanded_of_row (C := Tryz.checked) (s := OpenSpec.ofChange Rows.trainOrbitSpec) own started (by kernel_rfl) Tryz.func12
    (witness_row_at (enc := enc) (C := Tryz.checked) false (laidWorld os) wArgs rfl (by kernel_rfl) (by kernel_rfl) (by kernel_rfl)
      (OpenSpec.preRow_of_cond 8 (reads os enc).choose_spec.choose_spec (by kernel_rfl) (fun k hk => by cases hk) (by kernel_rfl) (laid_met os))) ?_
  intro W base args ds gs before hval hW _ _ _ hL hS _
  exact contract H enc W base args ds gs before hval hW (tabs_of hL hS)

theorem named : Tryz.prog.funcNamed Rows.trainOrbitRow.func = some 12 := by kernel_rfl
theorem facts : joinedFacts Tryz.prog 12 Tryz.f12 (OpenSpec.ofChange Rows.trainOrbitSpec).bare Rows.trainOrbitRow = true := by kernel_rfl
theorem inst : Tryz.f12.isInstance Tryz.prog Rows.trainOrbitRow.origin Rows.trainOrbitRow.targs := of_decide_eq_true (by kernel_rfl)
theorem wrap : Tryz.f12.isWrapper Tryz.prog Rows.trainOrbitRow.wrapper Rows.trainOrbitRow.mainSum := by
  unfold Func.isWrapper; first | (rw [if_pos (by decide +kernel)]; kernel_rfl) | (rw [if_neg (by decide +kernel)]; exact ⟨rfl, rfl⟩)
theorem said : Rows.TrainOrbitSaid :=
  OpenClaim.holds_of_cond 12 Tryz.f12 rfl rfl rfl rfl rfl rfl rfl ⟨rfl, rfl, rfl, rfl, rfl⟩ rfl rfl rfl rfl rfl named Tryz.func12 facts inst wrap
    (fun os started H enc _ F => by rw [OpenClaim.pre_eq_preRow]; exact lifted os started H enc F)
end Go.Proofs.YtcfdaddablojlaaGreatDoor.trainOrbit

/- TrainOrbit returns true whatever the input, and its arguments read as before: the tied card. -/
namespace Go.Proofs.YtcfdaddablojlaaGreatDoor.trainOrbit
open Go.ChangeShapes Go.WideShapes Go.ChangeAt Go.RowKit Go.Joins Go.Deep

theorem stands : (Tryz.f12.params.toList.all fun t => !Tryz.prog.wantsStandIn t) = true := by kernel_rfl
theorem looks : false = Tryz.prog.looks [] := by kernel_rfl
theorem plain (f : FuncId) (fn : Func) (hf : Tryz.pinned.checked.prog.funcNamed "quadform/quadformlaw27.TrainOrbit" = some f) (hfn : Tryz.pinned.checked.prog.funcs[f]? = some fn) :
    false = Tryz.pinned.checked.prog.looks [] ∧ ∀ (j : Nat) t, fn.params[j]? = some t → Tryz.pinned.checked.prog.wantsStandIn t = false := by
  obtain rfl : f = 12 := Option.some.inj (named.symm.trans hf) |>.symm
  obtain rfl : fn = Tryz.f12 := (Option.some.inj (Tryz.func12.symm.trans hfn)).symm
  refine ⟨looks, fun j t ht => ?_⟩
  have := List.all_eq_true.1 stands t (by simpa using Array.mem_of_getElem? ht)
  exact (by simpa using this : Tryz.prog.wantsStandIn t = false)
theorem holds : Rows.TrainOrbitCardSaid :=
  Claim7.holds_tied_plain_at .later [] _ _ _ _ said (fun _ h => by cases h) (by kernel_rfl) (fun _ h => by cases h) trainOrbit_row_tie rfl ⟨rfl, rfl⟩ (by kernel_rfl) rfl plain (by kernel_rfl)
end Go.Proofs.YtcfdaddablojlaaGreatDoor.trainOrbit

