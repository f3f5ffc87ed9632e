/- A part of the proof of the laws: YR, YK, TE, TM, VC, TC, YU, TD, VD, VP, VF1, YW, YX, VL, VF. -/
import Derived.Test.YtkkmlbhmcdoibaaGreatDoorPkBB1
set_option linter.unusedSimpArgs false
set_option linter.unusedVariables false
namespace Go.Proofs.YtkkmlbhmcdoibaaGreatDoor.S
open Go.QfSy Go.RowKit
def legalP (c : Con) : Prop := (0 ≤ c.exp ∧ c.exp ≤ 60) ∧ (1 ≤ c.dim ∧ c.dim ≤ 8) ∧ (c.sign = 1 ∨ c.sign = -1) ∧ (0 ≤ c.oddity ∧ c.oddity ≤ 7) ∧
  (c.odd = false → c.dim % 2 = 0 ∧ c.oddity = 0) ∧
  (c.odd = true → (c.oddity - c.dim) % 2 = 0 ∧ (c.dim = 1 → c.sign = 1 → c.oddity = 1 ∨ c.oddity = 7) ∧ (c.dim = 1 → c.sign = -1 → c.oddity = 3 ∨ c.oddity = 5) ∧ (c.dim = 2 → c.sign = 1 → c.oddity ≠ 4) ∧ (c.dim = 2 → c.sign = -1 → c.oddity ≠ 0))
instance (c : Con) : Decidable (legalP c) := by unfold legalP; exact inferInstance
def legalB (c : Con) : Bool := decide (legalP c)
theorem tmod2 (a : Int) : a.tmod 2 = 0 ↔ a % 2 = 0 := by
  rw [← Int.dvd_iff_tmod_eq_zero, ← Int.dvd_iff_emod_eq_zero]
theorem legalR_eq (c : Con) : legalR_v c.exp c.dim c.sign c.odd c.oddity = legalB c := by
  obtain ⟨e, d, s, o, t⟩ := c
  rw [Bool.eq_iff_iff]
  rw [show (legalB ⟨e, d, s, o, t⟩ = true) ↔ legalP ⟨e, d, s, o, t⟩ from by simp [legalB]]
  unfold legalP
  simp only
  by_cases hb : (0 ≤ e ∧ e ≤ 60) ∧ (1 ≤ d ∧ d ≤ 8) ∧ (0 ≤ t ∧ t ≤ 7)
  · have hw : IntKind.i64.wrap (t - d) = t - d := w64 (by omega) (by omega)
    unfold legalR_v
    have h1 : decide (e < 0) = false := by simp; omega
    have h2 : decide (e > 60) = false := by simp; omega
    have h3 : decide (d < 1) = false := by simp; omega
    have h4 : decide (d > 8) = false := by simp; omega
    have h5 : decide (t < 0) = false := by simp; omega
    have h6 : decide (t > 7) = false := by simp; omega
    have h7 := tmod2 (t - d)
    have h8 := tmod2 d
    rw [hw, h1, h2, h3, h4, h5, h6]
    simp only [cond_false, Bool.cond_eq_ite, beq_iff_eq]
    cases o
    · simp only [Bool.false_eq_true, if_false, false_implies, true_implies, and_true]
      repeat' split
      all_goals simp_all
      all_goals omega
    · simp only [if_true, true_implies, h7]
      repeat' split
      all_goals simp_all
      all_goals omega
  · constructor
    · intro h
      exfalso
      have : legalR_v e d s o t = false := by
        unfold legalR_v
        by_cases h1 : e < 0
        · simp only [h1, decide_true, cond_true]
        by_cases h2 : e > 60
        · simp only [h1, h2, decide_true, decide_false, cond_true, cond_false]
        by_cases h3 : d < 1
        · simp only [h1, h2, h3, decide_true, decide_false, cond_true, cond_false]
        by_cases h4 : d > 8
        · simp only [h1, h2, h3, h4, decide_true, decide_false, cond_true, cond_false]
        by_cases h5 : t < 0
        · simp only [h1, h2, h3, h4, h5, decide_true, decide_false, cond_true, cond_false]
          cases s == 1 <;> cases s == -1 <;> rfl
        by_cases h6 : t > 7
        · simp only [h1, h2, h3, h4, h5, h6, decide_true, decide_false, cond_true, cond_false]
          cases s == 1 <;> cases s == -1 <;> rfl
        exact absurd ⟨⟨by omega, by omega⟩, ⟨by omega, by omega⟩, ⟨by omega, by omega⟩⟩ hb
      rw [this] at h
      cases h
    · rintro ⟨a, b, c, d, _⟩
      exact absurd ⟨a, b, d⟩ hb
noncomputable def val2M (p : Int) (L : List Con) : Bool := (p == 2) && (orderV L && L.all legalB)
theorem all_drop {L : List Con} {k : Nat} (hk : k < L.length) (q : Con → Bool) : (L.drop k).all q = (q (at_ L k) && (L.drop (k + 1)).all q) := by
  rw [drop_at hk]; rfl
theorem zeroP_append : ∀ {a b : List Int} {L : List Con}, zeroP L (a ++ b) = zeroP (zeroP L a) b
  | [], _, _ => rfl
  | i :: a, b, L => by simp only [List.cons_append, zeroP]; exact zeroP_append
theorem zeroP_take {L : List Con} {l : List Int} {t : Nat} (ht : t < l.length) : zeroP L (l.take (t + 1)) = setO (zeroP L (l.take t)) (l.getD t 0) 0 := by
  rw [take_int ht, zeroP_append]; rfl
end Go.Proofs.YtkkmlbhmcdoibaaGreatDoor.S

namespace Go.Proofs.YtkkmlbhmcdoibaaGreatDoor.S
open Go.QfSy Go.RowKit
theorem ord_listM {most : Int} (hm : most ≤ 8) {two : Bool} : ∀ {X : List Prt} {e n : Int}, (∀ p ∈ X, p.ok) → -1 ≤ e → 0 ≤ n → n ≤ most → e + 3 * (most - n) ≤ 60 → ordL (listM most two X e n) e n = true
  | [], e, n, _, _, _, _, _ => rfl
  | p :: X, e, n, hX, h1, h2, h3, h4 => by
    simp only [listM]
    split
    · rfl
    · have hp := hX p (by simp)
      have hd := dimM_b hp (r := most - n) (by omega)
      have he := expM_b (p := p) e
      have hs := signM_b hp
      simp only [ordL, Bool.and_eq_true]
      refine ⟨?_, ?_⟩
      · unfold okO
        rw [decide_eq_true_eq]
        show 0 ≤ expM p e ∧ expM p e ≤ 60 ∧ e < expM p e ∧ (signM p = 1 ∨ signM p = -1) ∧ 1 ≤ dimM p (most - n) ∧ dimM p (most - n) ≤ 8 - n
        omega
      · show ordL (listM most two X (expM p e) (n + dimM p (most - n))) (expM p e) (n + dimM p (most - n)) = true
        exact ord_listM hm (fun x hx => hX x (by simp [hx])) (by omega) (by omega) (by omega) (by omega)
theorem zero_ok : Prt.zero.ok := by refine ⟨?_, ?_, ?_, ?_, ?_⟩ <;> (unfold U8 Prt.zero; decide)
theorem ord_listV {most : Int} (h1 : 1 ≤ most) (hm : most ≤ 8) {two : Bool} {X : List Prt} (hX : ∀ p ∈ X, p.ok) : orderV (listV most two X) = true := by
  unfold listV
  cases he : (listF most two X).isEmpty with
  | false =>
    simp only [cond_false]
    unfold orderV
    rw [Bool.and_eq_true]
    refine ⟨ord_listM hm hX (by decide) (by decide) (by omega) (by omega), ?_⟩
    have := listF_pos hX he
    simp; omega
  | true =>
    simp only [cond_true]
    have hd := dimM_b zero_ok (r := 1) (by decide)
    have hs := signM_b zero_ok
    unfold orderV
    have e1 : (conM Prt.zero 0 1 two).exp = 0 := rfl
    have e2 : (conM Prt.zero 0 1 two).dim = dimM Prt.zero 1 := rfl
    have e3 : (conM Prt.zero 0 1 two).sign = signM Prt.zero := rfl
    rw [Bool.and_eq_true, decide_eq_true_eq]
    simp only [ordL, okO, dimS, Bool.and_true, decide_eq_true_eq, e1, e2, e3]
    omega
theorem oddF_mod (d s k : Int) (hk : 0 ≤ k) : oddityF_v d s k = oddityF_v d s (k % 8) := by
  have h : (k % 8).tmod 8 = k.tmod 8 := by
    rw [Int.tmod_eq_emod_of_nonneg hk, Int.tmod_eq_emod_of_nonneg (by omega)]; omega
  unfold oddityF_v
  rw [h]
set_option maxRecDepth 100000 in
theorem oddF_tab : ∀ d ∈ ([1, 2, 3] : List Int), ∀ s ∈ ([1, -1] : List Int), ∀ t ∈ ([0, 1, 2, 3, 4, 5, 6, 7] : List Int), legalB ⟨0, d, s, true, oddityF_v d s t⟩ = true := by
  decide +kernel
theorem legal_con {p : Prt} {e r : Int} (hp : p.ok) (hr : 1 ≤ r) (h0 : 0 ≤ e) (h1 : e ≤ 60) : legalB (conM p e r true) = true := by
  have hd := dimM_b hp hr
  have hs := signM_b hp
  have hx := hp.2.2.2.2
  unfold legalB
  rw [decide_eq_true_eq]
  cases ho : oddM p r true with
  | false =>
    have h2 : dimM p r % 2 = 0 := by
      unfold oddM at ho
      simp only [cond_true] at ho
      cases hb : (dimM p r % 2 == 1) with
      | true => rw [hb] at ho; cases ho
      | false => have := beq_eq_false_iff_ne.1 hb; omega
    have e1 : conM p e r true = ⟨e, dimM p r, signM p, false, 0⟩ := by unfold conM; rw [ho]; rfl
    rw [e1]
    exact ⟨⟨h0, h1⟩, ⟨hd.1, by show dimM p r ≤ 8; omega⟩, hs, ⟨(by decide : (0 : Int) ≤ 0), (by decide : (0 : Int) ≤ 7)⟩, fun _ => ⟨h2, rfl⟩, fun h => by cases h⟩
  | true =>
    have e1 : conM p e r true = ⟨e, dimM p r, signM p, true, oddityF_v (dimM p r) (signM p) p.x4⟩ := by unfold conM; rw [ho]; rfl
    rw [e1, oddF_mod _ _ _ hx.1]
    have h3 : dimM p r ∈ ([1, 2, 3] : List Int) := by simp; omega
    have h4 : signM p ∈ ([1, -1] : List Int) := by simp; exact hs
    have h5 : p.x4 % 8 ∈ ([0, 1, 2, 3, 4, 5, 6, 7] : List Int) := by simp; omega
    have := oddF_tab _ h3 _ h4 _ h5
    unfold legalB at this
    rw [decide_eq_true_eq] at this
    exact ⟨⟨h0, h1⟩, this.2⟩
theorem legal_listM {most : Int} (hm : most ≤ 8) : ∀ {X : List Prt} {e n : Int}, (∀ p ∈ X, p.ok) → -1 ≤ e → 0 ≤ n → n ≤ most → e + 3 * (most - n) ≤ 60 → (listM most true X e n).all legalB = true
  | [], e, n, _, _, _, _, _ => rfl
  | p :: X, e, n, hX, h1, h2, h3, h4 => by
    simp only [listM]
    split
    · rfl
    · have hp := hX p (by simp)
      have hd := dimM_b hp (r := most - n) (by omega)
      have he := expM_b (p := p) e
      simp only [List.all_cons, Bool.and_eq_true]
      exact ⟨legal_con hp (by omega) (by omega) (by omega), legal_listM hm (fun x hx => hX x (by simp [hx])) (by omega) (by omega) (by omega) (by omega)⟩
theorem legal_listV {most : Int} (h1 : 1 ≤ most) (hm : most ≤ 8) {X : List Prt} (hX : ∀ p ∈ X, p.ok) : (listV most true X).all legalB = true := by
  unfold listV
  cases he : (listF most true X).isEmpty with
  | false => exact legal_listM hm hX (by decide) (by decide) (by omega) (by omega)
  | true => simp only [cond_true, List.all_cons, List.all_nil, Bool.and_true]; exact legal_con zero_ok (by decide) (by decide) (by decide)
theorem val2_listV {most : Int} (h1 : 1 ≤ most) (hm : most ≤ 8) {X : List Prt} (hX : ∀ p ∈ X, p.ok) : val2M 2 (listV most true X) = true := by
  unfold val2M
  rw [ord_listV h1 hm hX, legal_listV h1 hm hX]; rfl
theorem ordL_len : ∀ {L : List Con} {l s : Int}, s ≤ 8 → ordL L l s = true → (L.length : Int) + s ≤ 8
  | [], l, s, h, _ => by simp; omega
  | c :: L, l, s, h, ho => by
    simp only [ordL, okO, Bool.and_eq_true, decide_eq_true_eq] at ho
    have := ordL_len (L := L) (by omega) ho.2
    simp only [List.length_cons]
    omega
theorem orderV_parts {L : List Con} (h : orderV L = true) : ordL L (-1) 0 = true ∧ 0 < L.length ∧ L.length ≤ 8 := by
  unfold orderV at h
  rw [Bool.and_eq_true, decide_eq_true_eq] at h
  refine ⟨h.1, ?_, ?_⟩
  · cases L with
    | nil => simp [dimS] at h
    | cons c l => simp
  · have := ordL_len (by decide) h.1; omega
theorem val2_ok {L : List Con} (h : val2M 2 L = true) : okL L ∧ (∀ c ∈ L, fits c) ∧ 0 < L.length ∧ L.length ≤ 8 := by
  unfold val2M at h
  simp only [Bool.and_eq_true] at h
  obtain ⟨_, h1, h2⟩ := h
  obtain ⟨h3, h4, h5⟩ := orderV_parts h1
  have key : ∀ c ∈ L, legalP c := fun c hc => of_decide_eq_true (List.all_eq_true.1 h2 c hc)
  refine ⟨⟨by omega, fun c hc => ?_⟩, fun c hc => ?_, h4, h5⟩
  · obtain ⟨a, b, d, e, _⟩ := key c hc
    exact ⟨⟨a.1, by omega⟩, ⟨b.1, by omega⟩, d, e⟩
  · obtain ⟨a, b, d, e, _⟩ := key c hc
    unfold fits I64
    omega
end Go.Proofs.YtkkmlbhmcdoibaaGreatDoor.S

namespace Go.Proofs.YtkkmlbhmcdoibaaGreatDoor.S
open Go.QfSy Go.RowKit
def shO (c : Con) (last s : Int) : Bool := decide (last < c.exp ∧ c.exp ≤ 60 ∧ 1 ≤ c.dim ∧ c.dim ≤ 8 - s)
def shL : List Con → Int → Int → Bool
  | [], _, _ => true
  | c :: l, last, s => shO c last s && shL l c.exp (s + c.dim)
def shapeM (p : Int) (L : List Con) : Bool := (p == 2) && (!L.isEmpty && shL L (-1) 0)
def sgB (c : Con) : Bool := decide (c.sign = 1 ∨ c.sign = -1)
theorem ord_sh : ∀ {L : List Con} {l s : Int}, -1 ≤ l → ordL L l s = (shL L l s && L.all sgB)
  | [], _, _, _ => rfl
  | c :: L, l, s, h => by
    rw [Bool.eq_iff_iff]
    simp only [ordL, shL, okO, shO, sgB, List.all_cons, Bool.and_eq_true, decide_eq_true_eq]
    constructor
    · rintro ⟨h1, h2⟩
      rw [ord_sh (by omega), Bool.and_eq_true] at h2
      exact ⟨⟨⟨h1.2.2.1, h1.2.1, h1.2.2.2.2.1, h1.2.2.2.2.2⟩, h2.1⟩, h1.2.2.2.1, h2.2⟩
    · rintro ⟨⟨h1, h2⟩, h3, h4⟩
      refine ⟨⟨by omega, h1.2.1, h1.1, h3, h1.2.2.1, h1.2.2.2⟩, ?_⟩
      rw [ord_sh (by omega), Bool.and_eq_true]
      exact ⟨h2, h4⟩
theorem sh_pos : ∀ {L : List Con} {l s : Int}, shL L l s = true → 0 ≤ dimS L ∧ (L ≠ [] → 0 < dimS L)
  | [], _, _, _ => by simp [dimS]
  | c :: L, l, s, h => by
    simp only [shL, shO, Bool.and_eq_true, decide_eq_true_eq] at h
    have := sh_pos h.2
    simp only [dimS]
    exact ⟨by omega, fun _ => by omega⟩
theorem order_sh (L : List Con) : orderV L = (!L.isEmpty && shL L (-1) 0 && L.all sgB) := by
  unfold orderV
  rw [ord_sh (by decide)]
  cases hs : shL L (-1) 0 with
  | false => simp
  | true =>
    have hp := sh_pos hs
    cases L with
    | nil => simp [dimS]
    | cons c l =>
      have := hp.2 (by simp)
      simp [this]
theorem val2_sh (p : Int) (L : List Con) : val2M p L = (shapeM p L && L.all legalB) := by
  unfold val2M shapeM
  rw [order_sh]
  have hl : L.all legalB = true → L.all sgB = true := by
    intro h
    rw [List.all_eq_true] at h ⊢
    intro c hc
    have := of_decide_eq_true (h c hc)
    exact decide_eq_true this.2.2.1
  cases h1 : L.all legalB with
  | false => simp
  | true => rw [hl h1]; simp
def fusC (c : Con) : Bool := decide (0 ≤ c.oddity ∧ c.oddity ≤ 7) && (c.odd || (decide (c.dim % 2 = 0) && decide (c.oddity = 0)))
def fusI (L : List Con) (i : Nat) : Bool := fusC (at_ L i) && !(oddB L i && (!((partM L i).getD 0 0 == (i : Int)) && !((at_ L i).oddity == 0)))
def dimR (L : List Con) : List Int → Int
  | [] => 0
  | i :: l => (at_ L i.toNat).dim + dimR L l
def parR (L : List Con) (l : List Int) : Bool := decide (((at_ L (l.getD 0 0).toNat).oddity - dimR L l) % 2 = 0)
def zerR (L : List Con) (l : List Int) : Bool := l.tail.all fun i => (at_ L i.toNat).oddity == 0
def fusM (p : Int) (L : List Con) : Bool := (p == 2) && (orderV L && ((List.range L.length).all (fusI L) && (partsM L).all (parR L)))
def fusT (p : Int) (L : List Con) : Bool := shapeM p L && (L.all (fun c => sgB c && fusC c) && (partsM L).all (fun l => zerR L l && parR L l))
theorem tail_ivN {s n : Nat} : (ivN s (n + 1)).tail = ivN (s + 1) n := rfl
theorem fus_rows {L : List Con} : (∀ i, i < L.length → oddB L i = true → (partM L i).getD 0 0 ≠ (i : Int) → (at_ L i).oddity = 0) ↔ (∀ l ∈ partsM L, zerR L l = true) := by
  constructor
  · intro h l hl
    obtain ⟨s, n, e, hs, hr⟩ := part_row hl
    have hin := (parts_rows l hl).2.1
    unfold zerR
    rw [List.all_eq_true]
    intro x hx
    rw [e, tail_ivN, mem_ivN] at hx
    have hx2 : x ∈ l := by rw [e, mem_ivN]; omega
    have hlt := hin x hx2
    obtain ⟨h1, h2⟩ := hr (x.toNat - s) (by omega)
    rw [show s + (x.toNat - s) = x.toNat by omega] at h1 h2
    have h3 := h x.toNat (by omega) h1 (fun e2 => by rw [part_first (by omega) h1, h2 (by omega)] at e2; cases e2)
    rw [h3]; rfl
  · intro h i hi ho hne
    obtain ⟨s, n, t, e, h1, h2, h3, h4⟩ := part_iv hi ho
    have hz := h _ (partM_odd hi ho).1
    unfold zerR at hz
    rw [List.all_eq_true] at hz
    have ht : 0 < t := by
      rcases Nat.eq_zero_or_pos t with h0 | h0
      · subst h0
        rw [Nat.add_zero] at h1
        exact absurd ((part_first hi ho).2 (by rw [h1]; exact h3)) hne
      · exact h0
    have := hz (i : Int) (by rw [e, tail_ivN, mem_ivN]; omega)
    simpa using this
theorem all_at {L : List Con} (q : Con → Bool) : L.all q = true ↔ ∀ i, i < L.length → q (at_ L i) = true := by
  rw [List.all_eq_true]
  constructor
  · intro h i hi
    have : at_ L i = L[i] := by simp [at_, hi]
    rw [this]; exact h _ (List.getElem_mem hi)
  · intro h c hc
    obtain ⟨i, hi, rfl⟩ := List.getElem_of_mem hc
    have : at_ L i = L[i] := by simp [at_, hi]
    rw [← this]; exact h i hi
theorem fus_eq (p : Int) (L : List Con) : fusT p L = fusM p L := by
  rw [Bool.eq_iff_iff]
  unfold fusT fusM shapeM
  rw [order_sh]
  simp only [Bool.and_eq_true, List.all_eq_true (l := partsM L), List.all_eq_true (l := List.range L.length), List.mem_range, all_at]
  have key : (∀ i, i < L.length → fusI L i = true) ↔ (∀ i, i < L.length → fusC (at_ L i) = true) ∧ (∀ l ∈ partsM L, zerR L l = true) := by
    rw [← fus_rows]
    constructor
    · intro h
      refine ⟨fun i hi => ?_, fun i hi ho hne => ?_⟩
      · have := h i hi
        unfold fusI at this
        rw [Bool.and_eq_true] at this
        exact this.1
      · have := h i hi
        unfold fusI at this
        simp only [ho, Bool.and_eq_true, Bool.true_and, Bool.not_eq_true', Bool.and_eq_false_iff, Bool.not_eq_false', beq_iff_eq] at this
        rcases this.2 with h1 | h1
        · exact absurd h1 hne
        · exact h1
    · rintro ⟨h1, h2⟩ i hi
      unfold fusI
      rw [Bool.and_eq_true]
      refine ⟨h1 i hi, ?_⟩
      cases ho : oddB L i with
      | false => rfl
      | true =>
        by_cases hf : (partM L i).getD 0 0 = (i : Int)
        · rw [beq_iff_eq.2 hf]; rfl
        · rw [beq_iff_eq.2 (h2 i hi ho hf)]; simp only [Bool.not_true, Bool.and_false, Bool.not_false]
  constructor
  · rintro ⟨⟨h1, h2, h3⟩, h4, h5⟩
    exact ⟨h1, ⟨⟨h2, h3⟩, fun i hi => (h4 i hi).1⟩, key.2 ⟨fun i hi => (h4 i hi).2, fun l hl => (h5 l hl).1⟩, fun l hl => (h5 l hl).2⟩
  · rintro ⟨h1, ⟨⟨h2, h3⟩, h4⟩, h5, h6⟩
    have := key.1 h5
    exact ⟨⟨h1, h2, h3⟩, fun i hi => ⟨h4 i hi, this.1 i hi⟩, fun l hl => ⟨this.2 l hl, h6 l hl⟩⟩
end Go.Proofs.YtkkmlbhmcdoibaaGreatDoor.S

namespace Go.Proofs.YtkkmlbhmcdoibaaGreatDoor.S
open Go.QfSy Go.RowKit
theorem sh_at : ∀ {L : List Con} {l s : Int}, -1 ≤ l → 0 ≤ s → shL L l s = true → (∀ c ∈ L, 0 ≤ c.exp ∧ c.exp ≤ 60 ∧ 1 ≤ c.dim ∧ c.dim ≤ 8) ∧ (dimS L ≤ 8 - s ∨ L = []) ∧ (L.length : Int) ≤ dimS L
  | [], _, _, _, _, _ => ⟨fun c hc => by simp at hc, .inr rfl, by simp [dimS]⟩
  | c :: L, l, s, h0, hs, h => by
    simp only [shL, shO, Bool.and_eq_true, decide_eq_true_eq] at h
    obtain ⟨h1, h2⟩ := h
    obtain ⟨i1, i2, i3⟩ := sh_at (L := L) (l := c.exp) (s := s + c.dim) (by omega) (by omega) h2
    refine ⟨fun x hx => ?_, .inl ?_, ?_⟩
    · rcases List.mem_cons.1 hx with rfl | hx
      · omega
      · exact i1 x hx
    · simp only [dimS]
      rcases i2 with i2 | i2
      · omega
      · rw [i2]; simp only [dimS]; omega
    · simp only [dimS, List.length_cons]
      omega
structure FusAt (c : Con) : Prop where
  exp : 0 ≤ c.exp ∧ c.exp ≤ 60
  dim : 1 ≤ c.dim ∧ c.dim ≤ 8
  sign : c.sign = 1 ∨ c.sign = -1
  odt : 0 ≤ c.oddity ∧ c.oddity ≤ 7
  even : c.odd = false → c.dim % 2 = 0 ∧ c.oddity = 0
theorem fus_parts {L : List Con} (h : fusM 2 L = true) : shL L (-1) 0 = true ∧ 0 < L.length ∧ L.length ≤ 8 ∧ dimS L ≤ 8 ∧ ∀ k, k < L.length → FusAt (at_ L k) := by
  rw [← fus_eq] at h
  simp only [fusT, shapeM, Bool.and_eq_true] at h
  obtain ⟨⟨_, h1, h2⟩, h3, _⟩ := h
  obtain ⟨i1, i2, i3⟩ := sh_at (by decide) (by decide) h2
  have hne : L ≠ [] := by intro e; rw [e] at h1; cases h1
  have hd : dimS L ≤ 8 := by rcases i2 with i2 | i2; omega; exact absurd i2 hne
  refine ⟨h2, List.length_pos_iff.2 hne, by omega, hd, fun k hk => ?_⟩
  have e : at_ L k = L[k] := by simp [at_, hk]
  have h4 := i1 _ (List.getElem_mem hk)
  have h5 := (all_at _).1 h3 k hk
  rw [← e] at h4
  simp only [Bool.and_eq_true, sgB, fusC, decide_eq_true_eq, Bool.or_eq_true] at h5
  exact ⟨⟨h4.1, h4.2.1⟩, h4.2.2, h5.1, h5.2.1, fun ho => by rcases h5.2.2 with h | h; rw [ho] at h; cases h; exact h⟩
theorem fus_okL {L : List Con} (h : fusM 2 L = true) : okL L := by
  obtain ⟨_, _, h1, _, h2⟩ := fus_parts h
  refine ⟨by omega, fun c hc => ?_⟩
  obtain ⟨k, hk, rfl⟩ := List.getElem_of_mem hc
  have := h2 k hk
  rw [show at_ L k = L[k] by simp [at_, hk]] at this
  exact ⟨⟨this.exp.1, by have := this.exp.2; omega⟩, ⟨this.dim.1, by have := this.dim.2; omega⟩, this.sign, this.odt⟩
end Go.Proofs.YtkkmlbhmcdoibaaGreatDoor.S

namespace Go.Proofs.YtkkmlbhmcdoibaaGreatDoor.S
open Go.QfSy Go.RowKit
theorem sh_drop {L : List Con} {k : Nat} (hk : k < L.length) (l s : Int) : shL (L.drop k) l s = (shO (at_ L k) l s && shL (L.drop (k + 1)) (at_ L k).exp (s + (at_ L k).dim)) := by
  rw [drop_at hk]; rfl
noncomputable def shAnn (L : List Con) : Ann := ⟨⟨[(3, .int .i64 0), (4, .int .i64 (-1)), (17, (roC L).av), (18, .vint .i64 L.length), (19, .int .i64 0)], [], 1001⟩, some (shL L (-1) 0), fun d => match d with
  | true => (.exit 0, ⟨[], [], 1001⟩)
  | false => (.ret, ⟨[(2, .bool false)], [], 1001⟩)⟩
set_option maxRecDepth 100000 in
theorem sh_loop (L : List Con) (hn : L.length ≤ 1000) : AnnOk Tryz.prog EV.ng (Nat.max 1 Tryz.f36.ntmps) (bodyAt Tryz.f36 [0, 1, 0, 1, 1, 1]) (shAnn L) := by
  refine ann_of evOk (callF_ok evOk (noOrc_ok _ _) 8) none_ann (by kernel_rfl) (by kernel_rfl) (fun i : Nat × Int × Int => (fun (k : Nat) (s e : Int) => (⟨[(3, .vint .i64 s), (4, .vint .i64 e), (17, (roC L).av), (18, .vint .i64 L.length), (19, .vint .i64 (k : Int))], [], 1001⟩ : St)) i.1 i.2.1 i.2.2) (fun i : Nat × Int × Int => (fun (k : Nat) (s e : Int) => (L.length - k : Nat)) i.1 i.2.1 i.2.2) (fun (d : Bool) (i : Nat × Int × Int) => (fun (k : Nat) (s e : Int) => (k ≤ L.length ∧ (0 ≤ s ∧ s ≤ 8) ∧ shL (L.drop k) e s = d : Prop)) i.1 i.2.1 i.2.2) ?_ ?_
  · intro d hd
    exact ⟨(0, 0, -1), [(0 : Int) = (0 : Int), (-1 : Int) = (-1 : Int), L.length = L.length ∧ (fun i => (L.getD i Con.zero).rvs) = fun i => (L.getD i Con.zero).rvs, (↑L.length : Int) = (↑L.length : Int), (0 : Int) = (↑(0 : Nat) : Int)], by kernel_rfl, (by refine ⟨?_, ?_, ?_, ?_, (?_ : (0 : Int) = (↑(0 : Nat) : Int))⟩ <;> (first | rfl | assumption | omega | simp_all)), (by exact ⟨Nat.zero_le _, by decide, hd⟩)⟩
  · rintro d hd ⟨k, s, e⟩ hI
    cases d
    · -- d = false
      obtain ⟨hk, hs, hd'⟩ := hI
      have hs : 0 ≤ s ∧ s ≤ 8 := hs
      have hd' : shL (L.drop k) e s = _ := hd'
      have hk : k ≤ L.length := hk
      have ek : IntKind.i64.wrap ((k : Int) + 1) = ((k + 1 : Nat) : Int) := by rw [w64 (by omega) (by omega)]; omega
      have e8 : IntKind.i64.wrap (8 - s) = 8 - s := w64 (by omega) (by omega)
      refine Or.elim (Bool.eq_false_or_eq_true (decide ((↑k : Int) < (↑L.length : Int)))) (fun d1 => Or.elim (Bool.eq_false_or_eq_true (decide ((L.getD k Con.zero).exp ≤ e))) (fun d2 => ⟨[true, true], .inr ⟨[Dec (decide ((L.getD k Con.zero).exp ≤ e)) true, (0 : Int) ≤ (↑k : Int) ∧ (↑k : Int) < (↑L.length : Int), Dec (decide ((↑k : Int) < (↑L.length : Int))) true], by kernel_rfl, ⟨d2, ?_, d1⟩, rfl⟩⟩)
           (fun d2 => Or.elim (Bool.eq_false_or_eq_true (decide ((L.getD k Con.zero).exp > (60 : Int)))) (fun d3 => ⟨[true, false, true], .inr ⟨[Dec (decide ((L.getD k Con.zero).exp > (60 : Int))) true, Dec (decide ((L.getD k Con.zero).exp ≤ e)) false, (0 : Int) ≤ (↑k : Int) ∧ (↑k : Int) < (↑L.length : Int), Dec (decide ((↑k : Int) < (↑L.length : Int))) true], by kernel_rfl, ⟨d3, d2, ?_, d1⟩, rfl⟩⟩)
           (fun d3 => Or.elim (Bool.eq_false_or_eq_true (decide ((L.getD k Con.zero).dim < (1 : Int)))) (fun d4 => ⟨[true, false, false, true], .inr ⟨[Dec (decide ((L.getD k Con.zero).dim < (1 : Int))) true, Dec (decide ((L.getD k Con.zero).exp > (60 : Int))) false, Dec (decide ((L.getD k Con.zero).exp ≤ e)) false, (0 : Int) ≤ (↑k : Int) ∧ (↑k : Int) < (↑L.length : Int), Dec (decide ((↑k : Int) < (↑L.length : Int))) true], by kernel_rfl, ⟨d4, d3, d2, ?_, d1⟩, rfl⟩⟩)
           (fun d4 => Or.elim (Bool.eq_false_or_eq_true (decide ((L.getD k Con.zero).dim > IntKind.i64.wrap ((8 : Int) - s)))) (fun d5 => ⟨[true, false, false, false, true], .inr ⟨[Dec (decide ((L.getD k Con.zero).dim > IntKind.i64.wrap ((8 : Int) - s))) true, Dec (decide ((L.getD k Con.zero).dim < (1 : Int))) false, Dec (decide ((L.getD k Con.zero).exp > (60 : Int))) false, Dec (decide ((L.getD k Con.zero).exp ≤ e)) false, (0 : Int) ≤ (↑k : Int) ∧ (↑k : Int) < (↑L.length : Int), Dec (decide ((↑k : Int) < (↑L.length : Int))) true], by kernel_rfl, ⟨d5, d4, d3, d2, ?_, d1⟩, rfl⟩⟩)
           (fun d5 => ⟨[true, false, false, false, false], .inl ⟨(k + 1, s + (at_ L k).dim, (at_ L k).exp), [IntKind.i64.wrap (s + (L.getD k Con.zero).dim) = s + (at_ L k).dim, (L.getD k Con.zero).exp = (at_ L k).exp, L.length = L.length ∧ (fun i => (L.getD i Con.zero).rvs) = fun i => (L.getD i Con.zero).rvs, (↑L.length : Int) = (↑L.length : Int), IntKind.i64.wrap ((↑k : Int) + (1 : Int)) = (↑(k + (1 : Nat)) : Int), Dec (decide ((L.getD k Con.zero).dim > IntKind.i64.wrap ((8 : Int) - s))) false, Dec (decide ((L.getD k Con.zero).dim < (1 : Int))) false, Dec (decide ((L.getD k Con.zero).exp > (60 : Int))) false, Dec (decide ((L.getD k Con.zero).exp ≤ e)) false, (0 : Int) ≤ (↑k : Int) ∧ (↑k : Int) < (↑L.length : Int), Dec (decide ((↑k : Int) < (↑L.length : Int))) true], by kernel_rfl, ⟨?_, ?_, ?_, ?_, ?_, d5, d4, d3, d2, ?_, d1⟩, MuG.out ?_, InG.out ?_⟩⟩)))))
           (fun d1 => CtG.no ?_)
      all_goals first | (refine MuG.mk ?_; (simp only [decide_eq_true_eq] at *; show L.length - (k + 1) < L.length - k; omega)) | (refine InG.mk ?_; (simp only [e8, Int.toNat_natCast, decide_eq_true_eq, decide_eq_false_iff_not, gt_iff_lt] at *; rw [sh_drop (by omega), show shO (at_ L k) e s = true from decide_eq_true ⟨by simp only [at_]; omega, by simp only [at_]; omega, by simp only [at_]; omega, by simp only [at_]; omega⟩] at hd'; exact ⟨by omega, by simp only [at_]; omega, hd'⟩)) | (refine CtG.mk ?_; (simp only [e8, Int.toNat_natCast, decide_eq_true_eq, decide_eq_false_iff_not, gt_iff_lt] at *; first | (rw [List.drop_eq_nil_of_le (by omega)] at hd'; cases hd'; done) | (rw [sh_drop (by omega), show shO (at_ L k) e s = false from decide_eq_false (by simp only [at_]; omega)] at hd'; cases hd'; done))) | (first | (with_reducible rfl) | exact ⟨rfl, rfl⟩ | ((try simp only [ek, e8, at_, Int.toNat_natCast, decide_eq_true_eq, decide_eq_false_iff_not, gt_iff_lt] at *) <;> first | omega | (exact w64 (by omega) (by omega))))
    · -- d = true
      obtain ⟨hk, hs, hd'⟩ := hI
      have hs : 0 ≤ s ∧ s ≤ 8 := hs
      have hd' : shL (L.drop k) e s = _ := hd'
      have hk : k ≤ L.length := hk
      have ek : IntKind.i64.wrap ((k : Int) + 1) = ((k + 1 : Nat) : Int) := by rw [w64 (by omega) (by omega)]; omega
      have e8 : IntKind.i64.wrap (8 - s) = 8 - s := w64 (by omega) (by omega)
      refine Or.elim (Bool.eq_false_or_eq_true (decide ((↑k : Int) < (↑L.length : Int)))) (fun d1 => Or.elim (Bool.eq_false_or_eq_true (decide ((L.getD k Con.zero).exp ≤ e))) (fun d2 => CtG.no ?_)
           (fun d2 => Or.elim (Bool.eq_false_or_eq_true (decide ((L.getD k Con.zero).exp > (60 : Int)))) (fun d3 => CtG.no ?_)
           (fun d3 => Or.elim (Bool.eq_false_or_eq_true (decide ((L.getD k Con.zero).dim < (1 : Int)))) (fun d4 => CtG.no ?_)
           (fun d4 => Or.elim (Bool.eq_false_or_eq_true (decide ((L.getD k Con.zero).dim > IntKind.i64.wrap ((8 : Int) - s)))) (fun d5 => CtG.no ?_)
           (fun d5 => ⟨[true, false, false, false, false], .inl ⟨(k + 1, s + (at_ L k).dim, (at_ L k).exp), [IntKind.i64.wrap (s + (L.getD k Con.zero).dim) = s + (at_ L k).dim, (L.getD k Con.zero).exp = (at_ L k).exp, L.length = L.length ∧ (fun i => (L.getD i Con.zero).rvs) = fun i => (L.getD i Con.zero).rvs, (↑L.length : Int) = (↑L.length : Int), IntKind.i64.wrap ((↑k : Int) + (1 : Int)) = (↑(k + (1 : Nat)) : Int), Dec (decide ((L.getD k Con.zero).dim > IntKind.i64.wrap ((8 : Int) - s))) false, Dec (decide ((L.getD k Con.zero).dim < (1 : Int))) false, Dec (decide ((L.getD k Con.zero).exp > (60 : Int))) false, Dec (decide ((L.getD k Con.zero).exp ≤ e)) false, (0 : Int) ≤ (↑k : Int) ∧ (↑k : Int) < (↑L.length : Int), Dec (decide ((↑k : Int) < (↑L.length : Int))) true], by kernel_rfl, ⟨?_, ?_, ?_, ?_, ?_, d5, d4, d3, d2, ?_, d1⟩, MuG.out ?_, InG.out ?_⟩⟩)))))
           (fun d1 => ⟨[false], .inr ⟨[Dec (decide ((↑k : Int) < (↑L.length : Int))) false], by kernel_rfl, d1, rfl⟩⟩)
      all_goals first | (refine MuG.mk ?_; (simp only [decide_eq_true_eq] at *; show L.length - (k + 1) < L.length - k; omega)) | (refine InG.mk ?_; (simp only [e8, Int.toNat_natCast, decide_eq_true_eq, decide_eq_false_iff_not, gt_iff_lt] at *; rw [sh_drop (by omega), show shO (at_ L k) e s = true from decide_eq_true ⟨by simp only [at_]; omega, by simp only [at_]; omega, by simp only [at_]; omega, by simp only [at_]; omega⟩] at hd'; exact ⟨by omega, by simp only [at_]; omega, hd'⟩)) | (refine CtG.mk ?_; (simp only [e8, Int.toNat_natCast, decide_eq_true_eq, decide_eq_false_iff_not, gt_iff_lt] at *; first | (rw [List.drop_eq_nil_of_le (by omega)] at hd'; cases hd'; done) | (rw [sh_drop (by omega), show shO (at_ L k) e s = false from decide_eq_false (by simp only [at_]; omega)] at hd'; cases hd'; done))) | (first | (with_reducible rfl) | exact ⟨rfl, rfl⟩ | ((try simp only [ek, e8, at_, Int.toNat_natCast, decide_eq_true_eq, decide_eq_false_iff_not, gt_iff_lt] at *) <;> first | omega | (exact w64 (by omega) (by omega))))
set_option maxRecDepth 100000 in
theorem sh_pure (p : Int) (L : List Con) (hn : L.length ≤ 1000) : PureC Tryz.prog [] 36 [.agg [.int .i64 p, roC L]] (.bool (shapeM p L)) := by
  have rr := fun (tp : List Bool) (ms : List Prop) h hm => pure_run evOk (callF_ok evOk (noOrc_ok _ _) 8) Tryz.func36 (A := [.agg [.int .i64 p, roC L]]) (N := Nat.max 1 Tryz.f36.ntmps) rfl (one_ann (sh_loop L hn)) rfl rfl evNg (tabs := []) (R := .bool (shapeM p L)) (tp := tp) (ms := ms) h hm
  refine Or.elim (Bool.eq_false_or_eq_true (p == (2 : Int))) (fun d1 => Or.elim (Bool.eq_false_or_eq_true ((↑L.length : Int) == (0 : Int))) (fun d2 => rr [false, true] [false = shapeM p L, Dec ((↑L.length : Int) == (0 : Int)) true, Dec (p != (2 : Int)) false] (by kernel_rfl) ⟨?_, d2, (dN d1)⟩)
           (fun d2 => Or.elim (Bool.eq_false_or_eq_true (shL L (-1 : Int) (0 : Int))) (fun d3 => rr [false, false, true] [true = shapeM p L, L.length = L.length ∧ (fun i => (L.getD i Con.zero).rvs) = fun i => (L.getD i Con.zero).rvs, (↑L.length : Int) = (↑L.length : Int), Dec (shL L (-1 : Int) (0 : Int)) true, Dec ((↑L.length : Int) == (0 : Int)) false, Dec (p != (2 : Int)) false] (by kernel_rfl) ⟨?_, ?_, ?_, d3, d2, (dN d1)⟩)
           (fun d3 => rr [false, false, false] [false = shapeM p L, L.length = L.length ∧ (fun i => (L.getD i Con.zero).rvs) = fun i => (L.getD i Con.zero).rvs, (↑L.length : Int) = (↑L.length : Int), Dec (shL L (-1 : Int) (0 : Int)) false, Dec ((↑L.length : Int) == (0 : Int)) false, Dec (p != (2 : Int)) false] (by kernel_rfl) ⟨?_, ?_, ?_, d3, d2, (dN d1)⟩)))
           (fun d1 => rr [true] [false = shapeM p L, Dec (p != (2 : Int)) true] (by kernel_rfl) ⟨?_, (dN d1)⟩)
  all_goals first | (refine GnG.mk ?_; (simp_all)) | (first | (with_reducible rfl) | exact ⟨rfl, rfl⟩ | (unfold shapeM; simp_all; done))
theorem legalT_eq (c : Con) : legalT_v c.exp c.dim c.sign c.odd c.oddity = legalB c := legalR_eq c
noncomputable def entsVS : List OEnt := [
  ⟨6, [], fun A => match A with
    | [.agg [.int .i64 e, .int .i64 d, .int .i64 s, .bool o, .int .i64 t]] => some (.bool (legalB ⟨e, d, s, o, t⟩), [])
    | _ => none⟩,
  ⟨36, [], fun A => match A with
    | [.agg [.int .i64 p, .sl n 5 row]] => some (.bool (shapeM p (consR n row)), [(∀ i, i < n → row i = (Con.ofR (row i)).rvs) ∧ n ≤ 1000])
    | _ => none⟩]
theorem entsVS_ok : ∀ e ∈ entsVS, EntOk Tryz.prog e := by
  intro e he
  simp only [entsVS, List.mem_cons, List.not_mem_nil, or_false] at he
  rcases he with rfl | rfl
  all_goals
    intro A R ms h hm
    simp only at h
    split at h
    all_goals first | (cases h; done) | cases h
  · rw [← legalT_eq]; exact legalT _ _ _ _ _
  · obtain ⟨h1, h2⟩ := all_one hm
    exact PureC.imp (sh_pure _ _ (by rw [consR_len]; exact h2)) (.cons (.agg (.cons .same (.cons (.con h1) .nil))) .nil)
noncomputable def vaAnn (L : List Con) : Ann := ⟨⟨[(9, (roC L).av), (10, .vint .i64 L.length), (11, .int .i64 0)], [], 1001⟩, some (L.all legalB), fun d => match d with
  | true => (.exit 0, ⟨[], [], 1001⟩)
  | false => (.ret, ⟨[(2, .bool false)], [], 1001⟩)⟩
set_option maxRecDepth 100000 in
theorem va_loop (L : List Con) (hn : L.length ≤ 1000) : AnnOk Tryz.prog EV.ng (Nat.max 1 Tryz.f19.ntmps) (bodyAt Tryz.f19 [0, 1, 0, 1, 1]) (vaAnn L) := by
  refine ann_of evOk (callF_ok evOk (orcOf_ok entsVS_ok) 8) none_ann (by kernel_rfl) (by kernel_rfl) (fun i : Nat => (fun (k : Nat) => (⟨[(9, (roC L).av), (10, .vint .i64 L.length), (11, .vint .i64 (k : Int))], [], 1001⟩ : St)) i) (fun i : Nat => (fun (k : Nat) => (L.length - k : Nat)) i) (fun (d : Bool) (i : Nat) => (fun (k : Nat) => (k ≤ L.length ∧ (L.drop k).all legalB = d : Prop)) i) ?_ ?_
  · intro d hd
    exact ⟨(0), [L.length = L.length ∧ (fun i => (L.getD i Con.zero).rvs) = fun i => (L.getD i Con.zero).rvs, (↑L.length : Int) = (↑L.length : Int), (0 : Int) = (↑(0 : Nat) : Int)], by kernel_rfl, (by refine ⟨?_, ?_, (?_ : (0 : Int) = (↑(0 : Nat) : Int))⟩ <;> (first | rfl | assumption | omega | simp_all)), (by exact ⟨Nat.zero_le _, hd⟩)⟩
  · rintro d hd k hI
    cases d
    · -- d = false
      obtain ⟨hk, hs⟩ := hI
      have ek : IntKind.i64.wrap ((k : Int) + 1) = ((k + 1 : Nat) : Int) := by rw [w64 (by omega) (by omega)]; omega
      refine Or.elim (Bool.eq_false_or_eq_true (decide ((↑k : Int) < (↑L.length : Int)))) (fun d1 => Or.elim (Bool.eq_false_or_eq_true (legalB (L.getD k Con.zero))) (fun d2 => ⟨[true, false], .inl ⟨(k + 1), [L.length = L.length ∧ (fun i => (L.getD i Con.zero).rvs) = fun i => (L.getD i Con.zero).rvs, (↑L.length : Int) = (↑L.length : Int), IntKind.i64.wrap ((↑k : Int) + (1 : Int)) = (↑(k + (1 : Nat)) : Int), Dec (!legalB (L.getD k Con.zero)) false, (0 : Int) ≤ (↑k : Int) ∧ (↑k : Int) < (↑L.length : Int), Dec (decide ((↑k : Int) < (↑L.length : Int))) true], by kernel_rfl, ⟨?_, ?_, ?_, (dN d2), ?_, d1⟩, MuG.out ?_, InG.out ?_⟩⟩)
           (fun d2 => ⟨[true, true], .inr ⟨[Dec (!legalB (L.getD k Con.zero)) true, (0 : Int) ≤ (↑k : Int) ∧ (↑k : Int) < (↑L.length : Int), Dec (decide ((↑k : Int) < (↑L.length : Int))) true], by kernel_rfl, ⟨(dN d2), ?_, d1⟩, rfl⟩⟩))
           (fun d1 => CtG.no ?_)
      all_goals first | (refine MuG.mk ?_; (simp only [decide_eq_true_eq] at *; show L.length - (k + 1) < L.length - k; omega)) | (refine InG.mk ?_; (simp only [decide_eq_true_eq] at *; rw [all_drop (by omega)] at hs; rw [show legalB (at_ L k) = true from d2] at hs; exact ⟨by omega, hs⟩)) | (refine CtG.mk ?_; (simp only [decide_eq_true_eq, decide_eq_false_iff_not] at *; first | (rw [List.drop_eq_nil_of_le (by omega)] at hs; cases hs; done) | (rw [all_drop (by omega)] at hs; rw [show legalB (at_ L k) = false from d2] at hs; cases hs; done))) | (first | rfl | exact ⟨rfl, rfl⟩ | ((try simp only [ek, Int.toNat_natCast, decide_eq_true_eq, decide_eq_false_iff_not] at *) <;> omega))
    · -- d = true
      obtain ⟨hk, hs⟩ := hI
      have ek : IntKind.i64.wrap ((k : Int) + 1) = ((k + 1 : Nat) : Int) := by rw [w64 (by omega) (by omega)]; omega
      refine Or.elim (Bool.eq_false_or_eq_true (decide ((↑k : Int) < (↑L.length : Int)))) (fun d1 => Or.elim (Bool.eq_false_or_eq_true (legalB (L.getD k Con.zero))) (fun d2 => ⟨[true, false], .inl ⟨(k + 1), [L.length = L.length ∧ (fun i => (L.getD i Con.zero).rvs) = fun i => (L.getD i Con.zero).rvs, (↑L.length : Int) = (↑L.length : Int), IntKind.i64.wrap ((↑k : Int) + (1 : Int)) = (↑(k + (1 : Nat)) : Int), Dec (!legalB (L.getD k Con.zero)) false, (0 : Int) ≤ (↑k : Int) ∧ (↑k : Int) < (↑L.length : Int), Dec (decide ((↑k : Int) < (↑L.length : Int))) true], by kernel_rfl, ⟨?_, ?_, ?_, (dN d2), ?_, d1⟩, MuG.out ?_, InG.out ?_⟩⟩)
           (fun d2 => CtG.no ?_))
           (fun d1 => ⟨[false], .inr ⟨[Dec (decide ((↑k : Int) < (↑L.length : Int))) false], by kernel_rfl, d1, rfl⟩⟩)
      all_goals first | (refine MuG.mk ?_; (simp only [decide_eq_true_eq] at *; show L.length - (k + 1) < L.length - k; omega)) | (refine InG.mk ?_; (simp only [decide_eq_true_eq] at *; rw [all_drop (by omega)] at hs; rw [show legalB (at_ L k) = true from d2] at hs; exact ⟨by omega, hs⟩)) | (refine CtG.mk ?_; (simp only [decide_eq_true_eq, decide_eq_false_iff_not] at *; first | (rw [List.drop_eq_nil_of_le (by omega)] at hs; cases hs; done) | (rw [all_drop (by omega)] at hs; rw [show legalB (at_ L k) = false from d2] at hs; cases hs; done))) | (first | rfl | exact ⟨rfl, rfl⟩ | ((try simp only [ek, Int.toNat_natCast, decide_eq_true_eq, decide_eq_false_iff_not] at *) <;> omega))
set_option maxRecDepth 100000 in
theorem tvalid_pure (p : Int) (L : List Con) (hn : L.length ≤ 1000) : PureC Tryz.prog [] 19 [.agg [.int .i64 p, roC L]] (.bool (val2M p L)) := by
  have rr := fun (tp : List Bool) (ms : List Prop) h hm => pure_run evOk (callF_ok evOk (orcOf_ok entsVS_ok) 8) Tryz.func19 (A := [.agg [.int .i64 p, roC L]]) (N := Nat.max 1 Tryz.f19.ntmps) rfl (one_ann (va_loop L hn)) rfl rfl evNg (tabs := []) (R := .bool (val2M p L)) (tp := tp) (ms := ms) h hm
  refine Or.elim (Bool.eq_false_or_eq_true (shapeM p (consR L.length fun i => (L.getD i Con.zero).rvs))) (fun d1 => Or.elim (Bool.eq_false_or_eq_true (L.all legalB)) (fun d2 => rr [false, true] [true = val2M p L, L.length = L.length ∧ (fun i => (L.getD i Con.zero).rvs) = fun i => (L.getD i Con.zero).rvs, (↑L.length : Int) = (↑L.length : Int), Dec (L.all legalB) true, Dec (!shapeM p (consR L.length fun i => (L.getD i Con.zero).rvs)) false, (∀ (i : Nat), i < L.length → (fun i => (L.getD i Con.zero).rvs) i = (Con.ofR ((fun i => (L.getD i Con.zero).rvs) i)).rvs) ∧ L.length ≤ (1000 : Nat)] (by kernel_rfl) ⟨?_, ?_, ?_, d2, (dN d1), (?_ : (∀ (i : Nat), i < L.length → (fun i => (L.getD i Con.zero).rvs) i = (Con.ofR ((fun i => (L.getD i Con.zero).rvs) i)).rvs) ∧ L.length ≤ (1000 : Nat))⟩)
           (fun d2 => rr [false, false] [false = val2M p L, L.length = L.length ∧ (fun i => (L.getD i Con.zero).rvs) = fun i => (L.getD i Con.zero).rvs, (↑L.length : Int) = (↑L.length : Int), Dec (L.all legalB) false, Dec (!shapeM p (consR L.length fun i => (L.getD i Con.zero).rvs)) false, (∀ (i : Nat), i < L.length → (fun i => (L.getD i Con.zero).rvs) i = (Con.ofR ((fun i => (L.getD i Con.zero).rvs) i)).rvs) ∧ L.length ≤ (1000 : Nat)] (by kernel_rfl) ⟨?_, ?_, ?_, d2, (dN d1), (?_ : (∀ (i : Nat), i < L.length → (fun i => (L.getD i Con.zero).rvs) i = (Con.ofR ((fun i => (L.getD i Con.zero).rvs) i)).rvs) ∧ L.length ≤ (1000 : Nat))⟩))
           (fun d1 => rr [true] [false = val2M p L, Dec (!shapeM p (consR L.length fun i => (L.getD i Con.zero).rvs)) true, (∀ (i : Nat), i < L.length → (fun i => (L.getD i Con.zero).rvs) i = (Con.ofR ((fun i => (L.getD i Con.zero).rvs) i)).rvs) ∧ L.length ≤ (1000 : Nat)] (by kernel_rfl) ⟨?_, (dN d1), (?_ : (∀ (i : Nat), i < L.length → (fun i => (L.getD i Con.zero).rvs) i = (Con.ofR ((fun i => (L.getD i Con.zero).rvs) i)).rvs) ∧ L.length ≤ (1000 : Nat))⟩)
  all_goals first | (first | (with_reducible rfl) | exact ⟨rfl, rfl⟩ | exact ⟨fun _ _ => rfl, hn⟩ | ((try simp only [consR_ro] at *) <;> first | trivial | (rw [val2_sh]; simp_all; done)))
def fusB (c : Con) : Bool := sgB c && fusC c
noncomputable def loH (p : Int) (L : List Con) : List (Nat × Blk) := [(1000, ⟨.plain [.vint .i64 p, (roC L).av], 30, 0, false, true⟩)]
noncomputable def f1Ann (p : Int) (L : List Con) : Ann := ⟨⟨[(1, .ptr 1000 0), (14, (roC L).av), (15, .vint .i64 L.length), (16, .int .i64 0)], loH p L, 1010⟩, some (L.all fusB), fun d => match d with
  | true => (.exit 0, ⟨[(1, .ptr 1000 0)], loH p L, 1010⟩)
  | false => (.ret, ⟨[(2, .bool false)], [], 1010⟩)⟩
theorem fusB_iff {c : Con} : fusB c = true ↔ (c.sign = 1 ∨ c.sign = -1) ∧ (0 ≤ c.oddity ∧ c.oddity ≤ 7) ∧ (c.odd = false → c.dim.tmod 2 = 0 ∧ c.oddity = 0) := by
  simp only [fusB, sgB, fusC, Bool.and_eq_true, decide_eq_true_eq, Bool.or_eq_true, tmod2]
  cases c.odd <;> simp
theorem fusB_no {c : Con} (h : ¬ ((c.sign = 1 ∨ c.sign = -1) ∧ (0 ≤ c.oddity ∧ c.oddity ≤ 7) ∧ (c.odd = false → c.dim.tmod 2 = 0 ∧ c.oddity = 0))) : fusB c = false := by
  cases hf : fusB c with
  | false => rfl
  | true => exact absurd (fusB_iff.1 hf) h
set_option maxRecDepth 100000 in
theorem f1_loop (p : Int) (L : List Con) (hn : L.length ≤ 1000) : AnnOk Tryz.prog EV.ng (Nat.max 1 Tryz.f29.ntmps) (bodyAt Tryz.f29 [0, 1, 0, 1, 1]) (f1Ann p L) := by
  refine ann_of evOk (callF_ok evOk (noOrc_ok _ _) 8) none_ann (by kernel_rfl) (by kernel_rfl) (fun i : Nat => (fun (k : Nat) => (⟨[(1, .ptr 1000 0), (14, (roC L).av), (15, .vint .i64 L.length), (16, .vint .i64 (k : Int))], loH p L, 1010⟩ : St)) i) (fun i : Nat => (fun (k : Nat) => (L.length - k : Nat)) i) (fun (d : Bool) (i : Nat) => (fun (k : Nat) => (k ≤ L.length ∧ (L.drop k).all fusB = d : Prop)) i) ?_ ?_
  · intro d hd
    exact ⟨(0), [L.length = L.length ∧ (fun i => (L.getD i Con.zero).rvs) = fun i => (L.getD i Con.zero).rvs, (↑L.length : Int) = (↑L.length : Int), (0 : Int) = (↑(0 : Nat) : Int), p = p, L.length = L.length ∧ (fun i => (L.getD i Con.zero).rvs) = fun i => (L.getD i Con.zero).rvs], by kernel_rfl, (by refine ⟨?_, ?_, ?_, ?_, (?_ : L.length = L.length ∧ (fun i => (L.getD i Con.zero).rvs) = fun i => (L.getD i Con.zero).rvs)⟩ <;> (first | rfl | assumption | omega | simp_all)), (by exact ⟨Nat.zero_le _, hd⟩)⟩
  · rintro d hd k hI
    cases d
    · -- d = false
      obtain ⟨hk, hs⟩ := hI
      have ek : IntKind.i64.wrap ((k : Int) + 1) = ((k + 1 : Nat) : Int) := by rw [w64 (by omega) (by omega)]; omega
      refine Or.elim (Bool.eq_false_or_eq_true (decide ((↑k : Int) < (↑L.length : Int)))) (fun d1 => Or.elim (Bool.eq_false_or_eq_true ((L.getD k Con.zero).sign == (1 : Int))) (fun d2 => Or.elim (Bool.eq_false_or_eq_true (decide ((L.getD k Con.zero).oddity < (0 : Int)))) (fun d3 => ⟨[true, false, true], .inr ⟨[Dec (decide ((L.getD k Con.zero).oddity < (0 : Int))) true, Dec ((L.getD k Con.zero).sign != (1 : Int)) false, (0 : Int) ≤ (↑k : Int) ∧ (↑k : Int) < (↑L.length : Int), Dec (decide ((↑k : Int) < (↑L.length : Int))) true], by kernel_rfl, ⟨d3, (dN d2), ?_, d1⟩, rfl⟩⟩)
           (fun d3 => Or.elim (Bool.eq_false_or_eq_true (decide ((L.getD k Con.zero).oddity > (7 : Int)))) (fun d4 => ⟨[true, false, false, true], .inr ⟨[Dec (decide ((L.getD k Con.zero).oddity > (7 : Int))) true, Dec (decide ((L.getD k Con.zero).oddity < (0 : Int))) false, Dec ((L.getD k Con.zero).sign != (1 : Int)) false, (0 : Int) ≤ (↑k : Int) ∧ (↑k : Int) < (↑L.length : Int), Dec (decide ((↑k : Int) < (↑L.length : Int))) true], by kernel_rfl, ⟨d4, d3, (dN d2), ?_, d1⟩, rfl⟩⟩)
           (fun d4 => Or.elim (Bool.eq_false_or_eq_true ((L.getD k Con.zero).odd)) (fun d5 => ⟨[true, false, false, false, false], .inl ⟨(k + 1), [L.length = L.length ∧ (fun i => (L.getD i Con.zero).rvs) = fun i => (L.getD i Con.zero).rvs, (↑L.length : Int) = (↑L.length : Int), IntKind.i64.wrap ((↑k : Int) + (1 : Int)) = (↑(k + (1 : Nat)) : Int), p = p, L.length = L.length ∧ (fun i => (L.getD i Con.zero).rvs) = fun i => (L.getD i Con.zero).rvs, Dec (!(L.getD k Con.zero).odd) false, Dec (decide ((L.getD k Con.zero).oddity > (7 : Int))) false, Dec (decide ((L.getD k Con.zero).oddity < (0 : Int))) false, Dec ((L.getD k Con.zero).sign != (1 : Int)) false, (0 : Int) ≤ (↑k : Int) ∧ (↑k : Int) < (↑L.length : Int), Dec (decide ((↑k : Int) < (↑L.length : Int))) true], by kernel_rfl, ⟨?_, ?_, ?_, ?_, ?_, (dN d5), d4, d3, (dN d2), ?_, d1⟩, MuG.out ?_, InG.out ?_⟩⟩)
           (fun d5 => Or.elim (Bool.eq_false_or_eq_true ((L.getD k Con.zero).dim.tmod (2 : Int) == (0 : Int))) (fun d6 => Or.elim (Bool.eq_false_or_eq_true ((L.getD k Con.zero).oddity == (0 : Int))) (fun d7 => ⟨[true, false, false, false, true, false, false], .inl ⟨(k + 1), [L.length = L.length ∧ (fun i => (L.getD i Con.zero).rvs) = fun i => (L.getD i Con.zero).rvs, (↑L.length : Int) = (↑L.length : Int), IntKind.i64.wrap ((↑k : Int) + (1 : Int)) = (↑(k + (1 : Nat)) : Int), p = p, L.length = L.length ∧ (fun i => (L.getD i Con.zero).rvs) = fun i => (L.getD i Con.zero).rvs, Dec ((L.getD k Con.zero).oddity != (0 : Int)) false, Dec ((L.getD k Con.zero).dim.tmod (2 : Int) != (0 : Int)) false, (2 : Int) ≠ (0 : Int), Dec (!(L.getD k Con.zero).odd) true, Dec (decide ((L.getD k Con.zero).oddity > (7 : Int))) false, Dec (decide ((L.getD k Con.zero).oddity < (0 : Int))) false, Dec ((L.getD k Con.zero).sign != (1 : Int)) false, (0 : Int) ≤ (↑k : Int) ∧ (↑k : Int) < (↑L.length : Int), Dec (decide ((↑k : Int) < (↑L.length : Int))) true], by kernel_rfl, ⟨?_, ?_, ?_, ?_, ?_, (dN d7), (dN d6), ?_, (dN d5), d4, d3, (dN d2), ?_, d1⟩, MuG.out ?_, InG.out ?_⟩⟩)
           (fun d7 => ⟨[true, false, false, false, true, false, true], .inr ⟨[Dec ((L.getD k Con.zero).oddity != (0 : Int)) true, Dec ((L.getD k Con.zero).dim.tmod (2 : Int) != (0 : Int)) false, (2 : Int) ≠ (0 : Int), Dec (!(L.getD k Con.zero).odd) true, Dec (decide ((L.getD k Con.zero).oddity > (7 : Int))) false, Dec (decide ((L.getD k Con.zero).oddity < (0 : Int))) false, Dec ((L.getD k Con.zero).sign != (1 : Int)) false, (0 : Int) ≤ (↑k : Int) ∧ (↑k : Int) < (↑L.length : Int), Dec (decide ((↑k : Int) < (↑L.length : Int))) true], by kernel_rfl, ⟨(dN d7), (dN d6), ?_, (dN d5), d4, d3, (dN d2), ?_, d1⟩, rfl⟩⟩))
           (fun d6 => ⟨[true, false, false, false, true, true], .inr ⟨[Dec ((L.getD k Con.zero).dim.tmod (2 : Int) != (0 : Int)) true, (2 : Int) ≠ (0 : Int), Dec (!(L.getD k Con.zero).odd) true, Dec (decide ((L.getD k Con.zero).oddity > (7 : Int))) false, Dec (decide ((L.getD k Con.zero).oddity < (0 : Int))) false, Dec ((L.getD k Con.zero).sign != (1 : Int)) false, (0 : Int) ≤ (↑k : Int) ∧ (↑k : Int) < (↑L.length : Int), Dec (decide ((↑k : Int) < (↑L.length : Int))) true], by kernel_rfl, ⟨(dN d6), ?_, (dN d5), d4, d3, (dN d2), ?_, d1⟩, rfl⟩⟩)))))
           (fun d2 => Or.elim (Bool.eq_false_or_eq_true ((L.getD k Con.zero).sign == (-1 : Int))) (fun d3 => Or.elim (Bool.eq_false_or_eq_true (decide ((L.getD k Con.zero).oddity < (0 : Int)))) (fun d4 => ⟨[true, true, false, true], .inr ⟨[Dec (decide ((L.getD k Con.zero).oddity < (0 : Int))) true, Dec ((L.getD k Con.zero).sign != (-1 : Int)) false, Dec ((L.getD k Con.zero).sign != (1 : Int)) true, (0 : Int) ≤ (↑k : Int) ∧ (↑k : Int) < (↑L.length : Int), Dec (decide ((↑k : Int) < (↑L.length : Int))) true], by kernel_rfl, ⟨d4, (dN d3), (dN d2), ?_, d1⟩, rfl⟩⟩)
           (fun d4 => Or.elim (Bool.eq_false_or_eq_true (decide ((L.getD k Con.zero).oddity > (7 : Int)))) (fun d5 => ⟨[true, true, false, false, true], .inr ⟨[Dec (decide ((L.getD k Con.zero).oddity > (7 : Int))) true, Dec (decide ((L.getD k Con.zero).oddity < (0 : Int))) false, Dec ((L.getD k Con.zero).sign != (-1 : Int)) false, Dec ((L.getD k Con.zero).sign != (1 : Int)) true, (0 : Int) ≤ (↑k : Int) ∧ (↑k : Int) < (↑L.length : Int), Dec (decide ((↑k : Int) < (↑L.length : Int))) true], by kernel_rfl, ⟨d5, d4, (dN d3), (dN d2), ?_, d1⟩, rfl⟩⟩)
           (fun d5 => Or.elim (Bool.eq_false_or_eq_true ((L.getD k Con.zero).odd)) (fun d6 => ⟨[true, true, false, false, false, false], .inl ⟨(k + 1), [L.length = L.length ∧ (fun i => (L.getD i Con.zero).rvs) = fun i => (L.getD i Con.zero).rvs, (↑L.length : Int) = (↑L.length : Int), IntKind.i64.wrap ((↑k : Int) + (1 : Int)) = (↑(k + (1 : Nat)) : Int), p = p, L.length = L.length ∧ (fun i => (L.getD i Con.zero).rvs) = fun i => (L.getD i Con.zero).rvs, Dec (!(L.getD k Con.zero).odd) false, Dec (decide ((L.getD k Con.zero).oddity > (7 : Int))) false, Dec (decide ((L.getD k Con.zero).oddity < (0 : Int))) false, Dec ((L.getD k Con.zero).sign != (-1 : Int)) false, Dec ((L.getD k Con.zero).sign != (1 : Int)) true, (0 : Int) ≤ (↑k : Int) ∧ (↑k : Int) < (↑L.length : Int), Dec (decide ((↑k : Int) < (↑L.length : Int))) true], by kernel_rfl, ⟨?_, ?_, ?_, ?_, ?_, (dN d6), d5, d4, (dN d3), (dN d2), ?_, d1⟩, MuG.out ?_, InG.out ?_⟩⟩)
           (fun d6 => Or.elim (Bool.eq_false_or_eq_true ((L.getD k Con.zero).dim.tmod (2 : Int) == (0 : Int))) (fun d7 => Or.elim (Bool.eq_false_or_eq_true ((L.getD k Con.zero).oddity == (0 : Int))) (fun d8 => ⟨[true, true, false, false, false, true, false, false], .inl ⟨(k + 1), [L.length = L.length ∧ (fun i => (L.getD i Con.zero).rvs) = fun i => (L.getD i Con.zero).rvs, (↑L.length : Int) = (↑L.length : Int), IntKind.i64.wrap ((↑k : Int) + (1 : Int)) = (↑(k + (1 : Nat)) : Int), p = p, L.length = L.length ∧ (fun i => (L.getD i Con.zero).rvs) = fun i => (L.getD i Con.zero).rvs, Dec ((L.getD k Con.zero).oddity != (0 : Int)) false, Dec ((L.getD k Con.zero).dim.tmod (2 : Int) != (0 : Int)) false, (2 : Int) ≠ (0 : Int), Dec (!(L.getD k Con.zero).odd) true, Dec (decide ((L.getD k Con.zero).oddity > (7 : Int))) false, Dec (decide ((L.getD k Con.zero).oddity < (0 : Int))) false, Dec ((L.getD k Con.zero).sign != (-1 : Int)) false, Dec ((L.getD k Con.zero).sign != (1 : Int)) true, (0 : Int) ≤ (↑k : Int) ∧ (↑k : Int) < (↑L.length : Int), Dec (decide ((↑k : Int) < (↑L.length : Int))) true], by kernel_rfl, ⟨?_, ?_, ?_, ?_, ?_, (dN d8), (dN d7), ?_, (dN d6), d5, d4, (dN d3), (dN d2), ?_, d1⟩, MuG.out ?_, InG.out ?_⟩⟩)
           (fun d8 => ⟨[true, true, false, false, false, true, false, true], .inr ⟨[Dec ((L.getD k Con.zero).oddity != (0 : Int)) true, Dec ((L.getD k Con.zero).dim.tmod (2 : Int) != (0 : Int)) false, (2 : Int) ≠ (0 : Int), Dec (!(L.getD k Con.zero).odd) true, Dec (decide ((L.getD k Con.zero).oddity > (7 : Int))) false, Dec (decide ((L.getD k Con.zero).oddity < (0 : Int))) false, Dec ((L.getD k Con.zero).sign != (-1 : Int)) false, Dec ((L.getD k Con.zero).sign != (1 : Int)) true, (0 : Int) ≤ (↑k : Int) ∧ (↑k : Int) < (↑L.length : Int), Dec (decide ((↑k : Int) < (↑L.length : Int))) true], by kernel_rfl, ⟨(dN d8), (dN d7), ?_, (dN d6), d5, d4, (dN d3), (dN d2), ?_, d1⟩, rfl⟩⟩))
           (fun d7 => ⟨[true, true, false, false, false, true, true], .inr ⟨[Dec ((L.getD k Con.zero).dim.tmod (2 : Int) != (0 : Int)) true, (2 : Int) ≠ (0 : Int), Dec (!(L.getD k Con.zero).odd) true, Dec (decide ((L.getD k Con.zero).oddity > (7 : Int))) false, Dec (decide ((L.getD k Con.zero).oddity < (0 : Int))) false, Dec ((L.getD k Con.zero).sign != (-1 : Int)) false, Dec ((L.getD k Con.zero).sign != (1 : Int)) true, (0 : Int) ≤ (↑k : Int) ∧ (↑k : Int) < (↑L.length : Int), Dec (decide ((↑k : Int) < (↑L.length : Int))) true], by kernel_rfl, ⟨(dN d7), ?_, (dN d6), d5, d4, (dN d3), (dN d2), ?_, d1⟩, rfl⟩⟩)))))
           (fun d3 => ⟨[true, true, true], .inr ⟨[Dec ((L.getD k Con.zero).sign != (-1 : Int)) true, Dec ((L.getD k Con.zero).sign != (1 : Int)) true, (0 : Int) ≤ (↑k : Int) ∧ (↑k : Int) < (↑L.length : Int), Dec (decide ((↑k : Int) < (↑L.length : Int))) true], by kernel_rfl, ⟨(dN d3), (dN d2), ?_, d1⟩, rfl⟩⟩)))
           (fun d1 => CtG.no ?_)
      all_goals first | (refine MuG.mk ?_; (simp only [decide_eq_true_eq] at *; show L.length - (k + 1) < L.length - k; omega)) | (refine InG.mk ?_; (simp only [decide_eq_true_eq, decide_eq_false_iff_not, Int.toNat_natCast, beq_iff_eq, beq_eq_false_iff_ne, ne_eq, gt_iff_lt] at *; rw [all_drop (by omega)] at hs; rw [show fusB (at_ L k) = true from fusB_iff.2 (by simp only [at_]; refine ⟨?_, ?_, ?_⟩ <;> first | omega | (intro ho; simp_all; done) | (simp_all; done))] at hs; exact ⟨by omega, hs⟩)) | (refine CtG.mk ?_; (simp only [decide_eq_true_eq, decide_eq_false_iff_not, Int.toNat_natCast, beq_iff_eq, beq_eq_false_iff_ne, ne_eq, gt_iff_lt] at *; first | (rw [List.drop_eq_nil_of_le (by omega)] at hs; cases hs; done) | (rw [all_drop (by omega)] at hs; rw [show fusB (at_ L k) = false from fusB_no (by simp only [at_]; first | (intro hq; omega) | (rintro ⟨q1, q2, q3⟩; have q4 := q3 (by assumption); first | omega | (simp_all; done)))] at hs; cases hs; done))) | (first | (with_reducible rfl) | exact ⟨rfl, rfl⟩ | decide | ((try simp only [ek, Int.toNat_natCast, decide_eq_true_eq, decide_eq_false_iff_not] at *) <;> omega))
    · -- d = true
      obtain ⟨hk, hs⟩ := hI
      have ek : IntKind.i64.wrap ((k : Int) + 1) = ((k + 1 : Nat) : Int) := by rw [w64 (by omega) (by omega)]; omega
      refine Or.elim (Bool.eq_false_or_eq_true (decide ((↑k : Int) < (↑L.length : Int)))) (fun d1 => Or.elim (Bool.eq_false_or_eq_true ((L.getD k Con.zero).sign == (1 : Int))) (fun d2 => Or.elim (Bool.eq_false_or_eq_true (decide ((L.getD k Con.zero).oddity < (0 : Int)))) (fun d3 => CtG.no ?_)
           (fun d3 => Or.elim (Bool.eq_false_or_eq_true (decide ((L.getD k Con.zero).oddity > (7 : Int)))) (fun d4 => CtG.no ?_)
           (fun d4 => Or.elim (Bool.eq_false_or_eq_true ((L.getD k Con.zero).odd)) (fun d5 => ⟨[true, false, false, false, false], .inl ⟨(k + 1), [L.length = L.length ∧ (fun i => (L.getD i Con.zero).rvs) = fun i => (L.getD i Con.zero).rvs, (↑L.length : Int) = (↑L.length : Int), IntKind.i64.wrap ((↑k : Int) + (1 : Int)) = (↑(k + (1 : Nat)) : Int), p = p, L.length = L.length ∧ (fun i => (L.getD i Con.zero).rvs) = fun i => (L.getD i Con.zero).rvs, Dec (!(L.getD k Con.zero).odd) false, Dec (decide ((L.getD k Con.zero).oddity > (7 : Int))) false, Dec (decide ((L.getD k Con.zero).oddity < (0 : Int))) false, Dec ((L.getD k Con.zero).sign != (1 : Int)) false, (0 : Int) ≤ (↑k : Int) ∧ (↑k : Int) < (↑L.length : Int), Dec (decide ((↑k : Int) < (↑L.length : Int))) true], by kernel_rfl, ⟨?_, ?_, ?_, ?_, ?_, (dN d5), d4, d3, (dN d2), ?_, d1⟩, MuG.out ?_, InG.out ?_⟩⟩)
           (fun d5 => Or.elim (Bool.eq_false_or_eq_true ((L.getD k Con.zero).dim.tmod (2 : Int) == (0 : Int))) (fun d6 => Or.elim (Bool.eq_false_or_eq_true ((L.getD k Con.zero).oddity == (0 : Int))) (fun d7 => ⟨[true, false, false, false, true, false, false], .inl ⟨(k + 1), [L.length = L.length ∧ (fun i => (L.getD i Con.zero).rvs) = fun i => (L.getD i Con.zero).rvs, (↑L.length : Int) = (↑L.length : Int), IntKind.i64.wrap ((↑k : Int) + (1 : Int)) = (↑(k + (1 : Nat)) : Int), p = p, L.length = L.length ∧ (fun i => (L.getD i Con.zero).rvs) = fun i => (L.getD i Con.zero).rvs, Dec ((L.getD k Con.zero).oddity != (0 : Int)) false, Dec ((L.getD k Con.zero).dim.tmod (2 : Int) != (0 : Int)) false, (2 : Int) ≠ (0 : Int), Dec (!(L.getD k Con.zero).odd) true, Dec (decide ((L.getD k Con.zero).oddity > (7 : Int))) false, Dec (decide ((L.getD k Con.zero).oddity < (0 : Int))) false, Dec ((L.getD k Con.zero).sign != (1 : Int)) false, (0 : Int) ≤ (↑k : Int) ∧ (↑k : Int) < (↑L.length : Int), Dec (decide ((↑k : Int) < (↑L.length : Int))) true], by kernel_rfl, ⟨?_, ?_, ?_, ?_, ?_, (dN d7), (dN d6), ?_, (dN d5), d4, d3, (dN d2), ?_, d1⟩, MuG.out ?_, InG.out ?_⟩⟩)
           (fun d7 => CtG.no ?_))
           (fun d6 => CtG.no ?_)))))
           (fun d2 => Or.elim (Bool.eq_false_or_eq_true ((L.getD k Con.zero).sign == (-1 : Int))) (fun d3 => Or.elim (Bool.eq_false_or_eq_true (decide ((L.getD k Con.zero).oddity < (0 : Int)))) (fun d4 => CtG.no ?_)
           (fun d4 => Or.elim (Bool.eq_false_or_eq_true (decide ((L.getD k Con.zero).oddity > (7 : Int)))) (fun d5 => CtG.no ?_)
           (fun d5 => Or.elim (Bool.eq_false_or_eq_true ((L.getD k Con.zero).odd)) (fun d6 => ⟨[true, true, false, false, false, false], .inl ⟨(k + 1), [L.length = L.length ∧ (fun i => (L.getD i Con.zero).rvs) = fun i => (L.getD i Con.zero).rvs, (↑L.length : Int) = (↑L.length : Int), IntKind.i64.wrap ((↑k : Int) + (1 : Int)) = (↑(k + (1 : Nat)) : Int), p = p, L.length = L.length ∧ (fun i => (L.getD i Con.zero).rvs) = fun i => (L.getD i Con.zero).rvs, Dec (!(L.getD k Con.zero).odd) false, Dec (decide ((L.getD k Con.zero).oddity > (7 : Int))) false, Dec (decide ((L.getD k Con.zero).oddity < (0 : Int))) false, Dec ((L.getD k Con.zero).sign != (-1 : Int)) false, Dec ((L.getD k Con.zero).sign != (1 : Int)) true, (0 : Int) ≤ (↑k : Int) ∧ (↑k : Int) < (↑L.length : Int), Dec (decide ((↑k : Int) < (↑L.length : Int))) true], by kernel_rfl, ⟨?_, ?_, ?_, ?_, ?_, (dN d6), d5, d4, (dN d3), (dN d2), ?_, d1⟩, MuG.out ?_, InG.out ?_⟩⟩)
           (fun d6 => Or.elim (Bool.eq_false_or_eq_true ((L.getD k Con.zero).dim.tmod (2 : Int) == (0 : Int))) (fun d7 => Or.elim (Bool.eq_false_or_eq_true ((L.getD k Con.zero).oddity == (0 : Int))) (fun d8 => ⟨[true, true, false, false, false, true, false, false], .inl ⟨(k + 1), [L.length = L.length ∧ (fun i => (L.getD i Con.zero).rvs) = fun i => (L.getD i Con.zero).rvs, (↑L.length : Int) = (↑L.length : Int), IntKind.i64.wrap ((↑k : Int) + (1 : Int)) = (↑(k + (1 : Nat)) : Int), p = p, L.length = L.length ∧ (fun i => (L.getD i Con.zero).rvs) = fun i => (L.getD i Con.zero).rvs, Dec ((L.getD k Con.zero).oddity != (0 : Int)) false, Dec ((L.getD k Con.zero).dim.tmod (2 : Int) != (0 : Int)) false, (2 : Int) ≠ (0 : Int), Dec (!(L.getD k Con.zero).odd) true, Dec (decide ((L.getD k Con.zero).oddity > (7 : Int))) false, Dec (decide ((L.getD k Con.zero).oddity < (0 : Int))) false, Dec ((L.getD k Con.zero).sign != (-1 : Int)) false, Dec ((L.getD k Con.zero).sign != (1 : Int)) true, (0 : Int) ≤ (↑k : Int) ∧ (↑k : Int) < (↑L.length : Int), Dec (decide ((↑k : Int) < (↑L.length : Int))) true], by kernel_rfl, ⟨?_, ?_, ?_, ?_, ?_, (dN d8), (dN d7), ?_, (dN d6), d5, d4, (dN d3), (dN d2), ?_, d1⟩, MuG.out ?_, InG.out ?_⟩⟩)
           (fun d8 => CtG.no ?_))
           (fun d7 => CtG.no ?_)))))
           (fun d3 => CtG.no ?_)))
           (fun d1 => ⟨[false], .inr ⟨[p = p, L.length = L.length ∧ (fun i => (L.getD i Con.zero).rvs) = fun i => (L.getD i Con.zero).rvs, Dec (decide ((↑k : Int) < (↑L.length : Int))) false], by kernel_rfl, ⟨?_, ?_, d1⟩, rfl⟩⟩)
      all_goals first | (refine MuG.mk ?_; (simp only [decide_eq_true_eq] at *; show L.length - (k + 1) < L.length - k; omega)) | (refine InG.mk ?_; (simp only [decide_eq_true_eq, decide_eq_false_iff_not, Int.toNat_natCast, beq_iff_eq, beq_eq_false_iff_ne, ne_eq, gt_iff_lt] at *; rw [all_drop (by omega)] at hs; rw [show fusB (at_ L k) = true from fusB_iff.2 (by simp only [at_]; refine ⟨?_, ?_, ?_⟩ <;> first | omega | (intro ho; simp_all; done) | (simp_all; done))] at hs; exact ⟨by omega, hs⟩)) | (refine CtG.mk ?_; (simp only [decide_eq_true_eq, decide_eq_false_iff_not, Int.toNat_natCast, beq_iff_eq, beq_eq_false_iff_ne, ne_eq, gt_iff_lt] at *; first | (rw [List.drop_eq_nil_of_le (by omega)] at hs; cases hs; done) | (rw [all_drop (by omega)] at hs; rw [show fusB (at_ L k) = false from fusB_no (by simp only [at_]; first | (intro hq; omega) | (rintro ⟨q1, q2, q3⟩; have q4 := q3 (by assumption); first | omega | (simp_all; done)))] at hs; cases hs; done))) | (first | (with_reducible rfl) | exact ⟨rfl, rfl⟩ | decide | ((try simp only [ek, Int.toNat_natCast, decide_eq_true_eq, decide_eq_false_iff_not] at *) <;> omega))
theorem dimR_b {L : List Con} (hL : okL L) : ∀ {l : List Int}, inR L.length l → 0 ≤ dimR L l ∧ dimR L l ≤ 1000 * l.length
  | [], _ => by simp [dimR]
  | i :: l, h => by
    have h1 := h i (by simp)
    have h2 := (hL.at (k := i.toNat) (by omega)).2.1
    have ih := dimR_b hL (l := l) (fun x hx => h x (by simp [hx]))
    simp only [dimR, List.length_cons]
    omega
theorem dimR_app (L : List Con) (a b : List Int) : dimR L (a ++ b) = dimR L a + dimR L b := by
  induction a with
  | nil => simp [dimR]
  | cons c a ih => simp only [List.cons_append, dimR, ih]; omega
theorem dimR_take {L : List Con} {l : List Int} {t : Nat} (ht : t < l.length) : dimR L (l.take (t + 1)) = dimR L (l.take t) + (at_ L (l.getD t 0).toNat).dim := by
  rw [take_int ht, dimR_app]; simp [dimR]
theorem dim_b {L : List Con} {l : List Int} {t : Nat} (hL : okL L) (hl : inR L.length l) (ht : t < l.length) : 0 ≤ (at_ L (l.getD t 0).toNat).dim ∧ (at_ L (l.getD t 0).toNat).dim ≤ 1000 := by
  have h1 := hl.at ht
  have := (hL.at (k := (l.getD t 0).toNat) (by omega)).2.1
  omega
def zerD (L : List Con) (l : List Int) (t : Nat) : Bool := (l.drop (Nat.max t 1)).all fun i => (at_ L i.toNat).oddity == 0
theorem zerD_0 {L : List Con} {l : List Int} : zerD L l 0 = zerR L l := by unfold zerD zerR; rw [show Nat.max 0 1 = 1 from rfl, List.drop_one]
theorem zerD_1 {L : List Con} {l : List Int} {t : Nat} (h : ¬ 0 < t) : zerD L l (t + 1) = zerD L l t := by
  have : t = 0 := by omega
  subst this; rfl
theorem zerD_s {L : List Con} {l : List Int} {t : Nat} (h : 0 < t) (ht : t < l.length) : zerD L l t = ((at_ L (l.getD t 0).toNat).oddity == 0 && zerD L l (t + 1)) := by
  unfold zerD
  rw [show Nat.max t 1 = t by simp only [Nat.max_def]; split <;> omega, show Nat.max (t + 1) 1 = t + 1 by simp only [Nat.max_def]; split <;> omega, drop_int ht]; rfl
theorem zerD_e {L : List Con} {l : List Int} {t : Nat} (ht : l.length ≤ t) : zerD L l t = true := by
  unfold zerD
  rw [List.drop_eq_nil_of_le (by simp only [Nat.max_def]; split <;> omega)]; rfl
noncomputable def f3T (P : List (List Int)) (j : Nat) : List (Nat × AV) := [(1, .ptr 1000 0), (54, (roR .i64 P).av), (55, .vint .i64 P.length), (56, .vint .i64 (j : Int)), (6, (rI .i64 (rowAt P j)).av)]
noncomputable def f3Ann (p : Int) (L : List Con) (P : List (List Int)) (j : Nat) : Ann := ⟨⟨f3T P j ++ [(7, .int .i64 0), (60, (rI .i64 (rowAt P j)).av), (61, .vint .i64 (rowAt P j).length), (62, .int .i64 0)], loH p L, 1010⟩, some (zerR L (rowAt P j)), fun d => match d with
  | true => (.exit 4, ⟨f3T P j ++ [(7, .vint .i64 (dimR L (rowAt P j)))], loH p L, 1010⟩)
  | false => (.ret, ⟨[(2, .bool false)], [], 1010⟩)⟩
set_option maxRecDepth 100000 in
theorem f3_loop (p : Int) (L : List Con) (P : List (List Int)) (j : Nat) (hL : okL L) (hr : inR L.length (rowAt P j)) (hn : (rowAt P j).length ≤ 1000) : AnnOk Tryz.prog EV.ng (Nat.max 1 Tryz.f29.ntmps) (bodyAt Tryz.f29 [0, 1, 0, 1, 1, 0, 0, 1, 1, 0, 0, 1, 0, 1, 1, 1]) (f3Ann p L P j) := by
  refine ann_of evOk (callF_ok evOk (noOrc_ok _ _) 8) none_ann (by kernel_rfl) (by kernel_rfl) (fun i : Nat × Int => (fun (t : Nat) (n : Int) => (⟨f3T P j ++ [(7, .vint .i64 n), (60, (rI .i64 (rowAt P j)).av), (61, .vint .i64 (rowAt P j).length), (62, .vint .i64 (t : Int))], loH p L, 1010⟩ : St)) i.1 i.2) (fun i : Nat × Int => (fun (t : Nat) (n : Int) => ((rowAt P j).length - t : Nat)) i.1 i.2) (fun (d : Bool) (i : Nat × Int) => (fun (t : Nat) (n : Int) => (t ≤ (rowAt P j).length ∧ n = dimR L ((rowAt P j).take t) ∧ zerD L (rowAt P j) t = d : Prop)) i.1 i.2) ?_ ?_
  · intro d hd
    exact ⟨(0, 0), [P.length = P.length ∧ (fun i => [rI IntKind.i64 (P.getD i [])]) = fun i => [rI IntKind.i64 (P.getD i [])], (↑P.length : Int) = (↑P.length : Int), (↑j : Int) = (↑j : Int), (rowAt P j).length = (rowAt P j).length ∧ (fun j_1 => [RV.int IntKind.i64 ((rowAt P j).getD j_1 (0 : Int))]) = fun j_1 => [RV.int IntKind.i64 ((rowAt P j).getD j_1 (0 : Int))], (0 : Int) = (0 : Int), (rowAt P j).length = (rowAt P j).length ∧ (fun j_1 => [RV.int IntKind.i64 ((rowAt P j).getD j_1 (0 : Int))]) = fun j_1 => [RV.int IntKind.i64 ((rowAt P j).getD j_1 (0 : Int))], (↑(rowAt P j).length : Int) = (↑(rowAt P j).length : Int), (0 : Int) = (↑(0 : Nat) : Int), p = p, L.length = L.length ∧ (fun i => (L.getD i Con.zero).rvs) = fun i => (L.getD i Con.zero).rvs], by kernel_rfl, (by refine ⟨?_, ?_, ?_, ?_, ?_, ?_, ?_, ?_, ?_, (?_ : L.length = L.length ∧ (fun i => (L.getD i Con.zero).rvs) = fun i => (L.getD i Con.zero).rvs)⟩ <;> (first | rfl | assumption | omega | simp_all)), (by exact ⟨Nat.zero_le _, rfl, zerD_0.trans hd⟩)⟩
  · rintro d hd ⟨t, n⟩ hI
    cases d
    · -- d = false
      obtain ⟨ht, hs, hz⟩ := hI
      have ht : t ≤ (rowAt P j).length := ht
      have hs : n = dimR L ((rowAt P j).take t) := hs
      have ek : IntKind.i64.wrap ((t : Int) + 1) = ((t + 1 : Nat) : Int) := by rw [w64 (by omega) (by omega)]; omega
      have hb := dimR_b hL (l := (rowAt P j).take t) (fun x hx => hr x (List.mem_of_mem_take hx))
      have hb2 : (((rowAt P j).take t).length : Int) ≤ 1000 := by simp only [List.length_take]; omega
      refine Or.elim (Bool.eq_false_or_eq_true (decide ((↑t : Int) < (↑(rowAt P j).length : Int)))) (fun d1 => Or.elim (Bool.eq_false_or_eq_true (decide ((↑t : Int) > (0 : Int)))) (fun d2 => Or.elim (Bool.eq_false_or_eq_true ((L.getD ((rowAt P j).getD t (0 : Int)).toNat Con.zero).oddity == (0 : Int))) (fun d3 => ⟨[true, true, false], .inl ⟨(t + 1, n + (at_ L ((rowAt P j).getD t 0).toNat).dim), [P.length = P.length ∧ (fun i => [rI IntKind.i64 (P.getD i [])]) = fun i => [rI IntKind.i64 (P.getD i [])], (↑P.length : Int) = (↑P.length : Int), (↑j : Int) = (↑j : Int), (rowAt P j).length = (rowAt P j).length ∧ (fun j_1 => [RV.int IntKind.i64 ((rowAt P j).getD j_1 (0 : Int))]) = fun j_1 => [RV.int IntKind.i64 ((rowAt P j).getD j_1 (0 : Int))], IntKind.i64.wrap (n + (L.getD ((rowAt P j).getD t (0 : Int)).toNat Con.zero).dim) = n + (at_ L ((rowAt P j).getD t (0 : Int)).toNat).dim, (rowAt P j).length = (rowAt P j).length ∧ (fun j_1 => [RV.int IntKind.i64 ((rowAt P j).getD j_1 (0 : Int))]) = fun j_1 => [RV.int IntKind.i64 ((rowAt P j).getD j_1 (0 : Int))], (↑(rowAt P j).length : Int) = (↑(rowAt P j).length : Int), IntKind.i64.wrap ((↑t : Int) + (1 : Int)) = (↑(t + (1 : Nat)) : Int), p = p, L.length = L.length ∧ (fun i => (L.getD i Con.zero).rvs) = fun i => (L.getD i Con.zero).rvs, Dec ((L.getD ((rowAt P j).getD t (0 : Int)).toNat Con.zero).oddity != (0 : Int)) false, (0 : Int) ≤ (rowAt P j).getD t (0 : Int) ∧ (rowAt P j).getD t (0 : Int) < (↑L.length : Int), Dec (decide ((↑t : Int) > (0 : Int))) true, (0 : Int) ≤ (rowAt P j).getD t (0 : Int) ∧ (rowAt P j).getD t (0 : Int) < (↑L.length : Int), (0 : Int) ≤ (↑t : Int) ∧ (↑t : Int) < (↑(rowAt P j).length : Int), Dec (decide ((↑t : Int) < (↑(rowAt P j).length : Int))) true], by kernel_rfl, ⟨?_, ?_, ?_, ?_, ?_, ?_, ?_, ?_, ?_, ?_, (dN d3), ?_, d2, ?_, ?_, d1⟩, MuG.out ?_, InG.out ?_⟩⟩)
           (fun d3 => ⟨[true, true, true], .inr ⟨[Dec ((L.getD ((rowAt P j).getD t (0 : Int)).toNat Con.zero).oddity != (0 : Int)) true, (0 : Int) ≤ (rowAt P j).getD t (0 : Int) ∧ (rowAt P j).getD t (0 : Int) < (↑L.length : Int), Dec (decide ((↑t : Int) > (0 : Int))) true, (0 : Int) ≤ (rowAt P j).getD t (0 : Int) ∧ (rowAt P j).getD t (0 : Int) < (↑L.length : Int), (0 : Int) ≤ (↑t : Int) ∧ (↑t : Int) < (↑(rowAt P j).length : Int), Dec (decide ((↑t : Int) < (↑(rowAt P j).length : Int))) true], by kernel_rfl, ⟨(dN d3), ?_, d2, ?_, ?_, d1⟩, rfl⟩⟩))
           (fun d2 => ⟨[true, false], .inl ⟨(t + 1, n + (at_ L ((rowAt P j).getD t 0).toNat).dim), [P.length = P.length ∧ (fun i => [rI IntKind.i64 (P.getD i [])]) = fun i => [rI IntKind.i64 (P.getD i [])], (↑P.length : Int) = (↑P.length : Int), (↑j : Int) = (↑j : Int), (rowAt P j).length = (rowAt P j).length ∧ (fun j_1 => [RV.int IntKind.i64 ((rowAt P j).getD j_1 (0 : Int))]) = fun j_1 => [RV.int IntKind.i64 ((rowAt P j).getD j_1 (0 : Int))], IntKind.i64.wrap (n + (L.getD ((rowAt P j).getD t (0 : Int)).toNat Con.zero).dim) = n + (at_ L ((rowAt P j).getD t (0 : Int)).toNat).dim, (rowAt P j).length = (rowAt P j).length ∧ (fun j_1 => [RV.int IntKind.i64 ((rowAt P j).getD j_1 (0 : Int))]) = fun j_1 => [RV.int IntKind.i64 ((rowAt P j).getD j_1 (0 : Int))], (↑(rowAt P j).length : Int) = (↑(rowAt P j).length : Int), IntKind.i64.wrap ((↑t : Int) + (1 : Int)) = (↑(t + (1 : Nat)) : Int), p = p, L.length = L.length ∧ (fun i => (L.getD i Con.zero).rvs) = fun i => (L.getD i Con.zero).rvs, Dec (decide ((↑t : Int) > (0 : Int))) false, (0 : Int) ≤ (rowAt P j).getD t (0 : Int) ∧ (rowAt P j).getD t (0 : Int) < (↑L.length : Int), (0 : Int) ≤ (↑t : Int) ∧ (↑t : Int) < (↑(rowAt P j).length : Int), Dec (decide ((↑t : Int) < (↑(rowAt P j).length : Int))) true], by kernel_rfl, ⟨?_, ?_, ?_, ?_, ?_, ?_, ?_, ?_, ?_, ?_, d2, ?_, ?_, d1⟩, MuG.out ?_, InG.out ?_⟩⟩))
           (fun d1 => CtG.no ?_)
      all_goals first | (refine MuG.mk ?_; (simp only [decide_eq_true_eq] at *; show (rowAt P j).length - (t + 1) < (rowAt P j).length - t; omega)) | (refine InG.mk ?_; (simp only [decide_eq_true_eq, decide_eq_false_iff_not, Int.toNat_natCast, gt_iff_lt] at *; refine ⟨by omega, by rw [dimR_take (by omega), hs], ?_⟩; first | (show zerD L (rowAt P j) (t + 1) = _; rw [zerD_1 (by omega)]; exact hz) | (rw [zerD_s (by omega) (by omega), show ((at_ L ((rowAt P j).getD t 0).toNat).oddity == 0) = true from d3] at hz; exact hz))) | (refine CtG.mk ?_; (simp only [decide_eq_true_eq, decide_eq_false_iff_not, Int.toNat_natCast, gt_iff_lt] at *; first | (rw [zerD_e (by omega)] at hz; cases hz; done) | (rw [zerD_s (by omega) (by omega), show ((at_ L ((rowAt P j).getD t 0).toNat).oddity == 0) = false from d3] at hz; cases hz; done))) | (first | (with_reducible rfl) | exact ⟨rfl, rfl⟩ | ((try simp only [ek, Int.toNat_natCast, decide_eq_true_eq, decide_eq_false_iff_not, gt_iff_lt] at *) <;> first | omega | (have h1 := hr.at (t := t) (by omega); omega) | (have h2 := dim_b (t := t) hL hr (by omega); simp only [at_] at h2 ⊢; exact w64 (by omega) (by omega)) | (rw [hs, List.take_of_length_le (by omega)]; done)))
    · -- d = true
      obtain ⟨ht, hs, hz⟩ := hI
      have ht : t ≤ (rowAt P j).length := ht
      have hs : n = dimR L ((rowAt P j).take t) := hs
      have ek : IntKind.i64.wrap ((t : Int) + 1) = ((t + 1 : Nat) : Int) := by rw [w64 (by omega) (by omega)]; omega
      have hb := dimR_b hL (l := (rowAt P j).take t) (fun x hx => hr x (List.mem_of_mem_take hx))
      have hb2 : (((rowAt P j).take t).length : Int) ≤ 1000 := by simp only [List.length_take]; omega
      refine Or.elim (Bool.eq_false_or_eq_true (decide ((↑t : Int) < (↑(rowAt P j).length : Int)))) (fun d1 => Or.elim (Bool.eq_false_or_eq_true (decide ((↑t : Int) > (0 : Int)))) (fun d2 => Or.elim (Bool.eq_false_or_eq_true ((L.getD ((rowAt P j).getD t (0 : Int)).toNat Con.zero).oddity == (0 : Int))) (fun d3 => ⟨[true, true, false], .inl ⟨(t + 1, n + (at_ L ((rowAt P j).getD t 0).toNat).dim), [P.length = P.length ∧ (fun i => [rI IntKind.i64 (P.getD i [])]) = fun i => [rI IntKind.i64 (P.getD i [])], (↑P.length : Int) = (↑P.length : Int), (↑j : Int) = (↑j : Int), (rowAt P j).length = (rowAt P j).length ∧ (fun j_1 => [RV.int IntKind.i64 ((rowAt P j).getD j_1 (0 : Int))]) = fun j_1 => [RV.int IntKind.i64 ((rowAt P j).getD j_1 (0 : Int))], IntKind.i64.wrap (n + (L.getD ((rowAt P j).getD t (0 : Int)).toNat Con.zero).dim) = n + (at_ L ((rowAt P j).getD t (0 : Int)).toNat).dim, (rowAt P j).length = (rowAt P j).length ∧ (fun j_1 => [RV.int IntKind.i64 ((rowAt P j).getD j_1 (0 : Int))]) = fun j_1 => [RV.int IntKind.i64 ((rowAt P j).getD j_1 (0 : Int))], (↑(rowAt P j).length : Int) = (↑(rowAt P j).length : Int), IntKind.i64.wrap ((↑t : Int) + (1 : Int)) = (↑(t + (1 : Nat)) : Int), p = p, L.length = L.length ∧ (fun i => (L.getD i Con.zero).rvs) = fun i => (L.getD i Con.zero).rvs, Dec ((L.getD ((rowAt P j).getD t (0 : Int)).toNat Con.zero).oddity != (0 : Int)) false, (0 : Int) ≤ (rowAt P j).getD t (0 : Int) ∧ (rowAt P j).getD t (0 : Int) < (↑L.length : Int), Dec (decide ((↑t : Int) > (0 : Int))) true, (0 : Int) ≤ (rowAt P j).getD t (0 : Int) ∧ (rowAt P j).getD t (0 : Int) < (↑L.length : Int), (0 : Int) ≤ (↑t : Int) ∧ (↑t : Int) < (↑(rowAt P j).length : Int), Dec (decide ((↑t : Int) < (↑(rowAt P j).length : Int))) true], by kernel_rfl, ⟨?_, ?_, ?_, ?_, ?_, ?_, ?_, ?_, ?_, ?_, (dN d3), ?_, d2, ?_, ?_, d1⟩, MuG.out ?_, InG.out ?_⟩⟩)
           (fun d3 => CtG.no ?_))
           (fun d2 => ⟨[true, false], .inl ⟨(t + 1, n + (at_ L ((rowAt P j).getD t 0).toNat).dim), [P.length = P.length ∧ (fun i => [rI IntKind.i64 (P.getD i [])]) = fun i => [rI IntKind.i64 (P.getD i [])], (↑P.length : Int) = (↑P.length : Int), (↑j : Int) = (↑j : Int), (rowAt P j).length = (rowAt P j).length ∧ (fun j_1 => [RV.int IntKind.i64 ((rowAt P j).getD j_1 (0 : Int))]) = fun j_1 => [RV.int IntKind.i64 ((rowAt P j).getD j_1 (0 : Int))], IntKind.i64.wrap (n + (L.getD ((rowAt P j).getD t (0 : Int)).toNat Con.zero).dim) = n + (at_ L ((rowAt P j).getD t (0 : Int)).toNat).dim, (rowAt P j).length = (rowAt P j).length ∧ (fun j_1 => [RV.int IntKind.i64 ((rowAt P j).getD j_1 (0 : Int))]) = fun j_1 => [RV.int IntKind.i64 ((rowAt P j).getD j_1 (0 : Int))], (↑(rowAt P j).length : Int) = (↑(rowAt P j).length : Int), IntKind.i64.wrap ((↑t : Int) + (1 : Int)) = (↑(t + (1 : Nat)) : Int), p = p, L.length = L.length ∧ (fun i => (L.getD i Con.zero).rvs) = fun i => (L.getD i Con.zero).rvs, Dec (decide ((↑t : Int) > (0 : Int))) false, (0 : Int) ≤ (rowAt P j).getD t (0 : Int) ∧ (rowAt P j).getD t (0 : Int) < (↑L.length : Int), (0 : Int) ≤ (↑t : Int) ∧ (↑t : Int) < (↑(rowAt P j).length : Int), Dec (decide ((↑t : Int) < (↑(rowAt P j).length : Int))) true], by kernel_rfl, ⟨?_, ?_, ?_, ?_, ?_, ?_, ?_, ?_, ?_, ?_, d2, ?_, ?_, d1⟩, MuG.out ?_, InG.out ?_⟩⟩))
           (fun d1 => ⟨[false], .inr ⟨[P.length = P.length ∧ (fun i => [rI IntKind.i64 (P.getD i [])]) = fun i => [rI IntKind.i64 (P.getD i [])], (↑P.length : Int) = (↑P.length : Int), (↑j : Int) = (↑j : Int), (rowAt P j).length = (rowAt P j).length ∧ (fun j_1 => [RV.int IntKind.i64 ((rowAt P j).getD j_1 (0 : Int))]) = fun j_1 => [RV.int IntKind.i64 ((rowAt P j).getD j_1 (0 : Int))], n = dimR L (rowAt P j), p = p, L.length = L.length ∧ (fun i => (L.getD i Con.zero).rvs) = fun i => (L.getD i Con.zero).rvs, Dec (decide ((↑t : Int) < (↑(rowAt P j).length : Int))) false], by kernel_rfl, ⟨?_, ?_, ?_, ?_, ?_, ?_, ?_, d1⟩, rfl⟩⟩)
      all_goals first | (refine MuG.mk ?_; (simp only [decide_eq_true_eq] at *; show (rowAt P j).length - (t + 1) < (rowAt P j).length - t; omega)) | (refine InG.mk ?_; (simp only [decide_eq_true_eq, decide_eq_false_iff_not, Int.toNat_natCast, gt_iff_lt] at *; refine ⟨by omega, by rw [dimR_take (by omega), hs], ?_⟩; first | (show zerD L (rowAt P j) (t + 1) = _; rw [zerD_1 (by omega)]; exact hz) | (rw [zerD_s (by omega) (by omega), show ((at_ L ((rowAt P j).getD t 0).toNat).oddity == 0) = true from d3] at hz; exact hz))) | (refine CtG.mk ?_; (simp only [decide_eq_true_eq, decide_eq_false_iff_not, Int.toNat_natCast, gt_iff_lt] at *; first | (rw [zerD_e (by omega)] at hz; cases hz; done) | (rw [zerD_s (by omega) (by omega), show ((at_ L ((rowAt P j).getD t 0).toNat).oddity == 0) = false from d3] at hz; cases hz; done))) | (first | (with_reducible rfl) | exact ⟨rfl, rfl⟩ | ((try simp only [ek, Int.toNat_natCast, decide_eq_true_eq, decide_eq_false_iff_not, gt_iff_lt] at *) <;> first | omega | (have h1 := hr.at (t := t) (by omega); omega) | (have h2 := dim_b (t := t) hL hr (by omega); simp only [at_] at h2 ⊢; exact w64 (by omega) (by omega)) | (rw [hs, List.take_of_length_le (by omega)]; done)))
def fusR (L : List Con) (l : List Int) : Bool := zerR L l && parR L l
theorem allP_drop {P : List (List Int)} {j : Nat} (hj : j < P.length) (q : List Int → Bool) : (P.drop j).all q = (q (rowAt P j) && (P.drop (j + 1)).all q) := by
  rw [drop_row hj]; rfl
theorem par_w {L : List Con} (hL : okL L) {l : List Int} (hne : l ≠ []) (hl : inR L.length l) (hn : l.length ≤ 1000) : ((IntKind.i64.wrap ((at_ L (l.getD 0 0).toNat).oddity - dimR L l)).tmod 2 == 0) = parR L l := by
  have hb := dimR_b hL hl
  have ho := odd_b (t := 0) hL hl (List.length_pos_iff.2 hne)
  rw [w64 (by omega) (by omega)]
  unfold parR
  rw [Bool.eq_iff_iff, beq_iff_eq, decide_eq_true_eq]
  exact tmod2 _
noncomputable def f2Ann (p : Int) (L : List Con) (P : List (List Int)) : Ann := ⟨⟨[(1, .ptr 1000 0), (54, (roR .i64 P).av), (55, .vint .i64 P.length), (56, .int .i64 0)], loH p L, 1010⟩, some (P.all (fusR L)), fun d => match d with
  | true => (.exit 2, ⟨[], [], 1010⟩)
  | false => (.ret, ⟨[(2, .bool false)], [], 1010⟩)⟩
set_option maxRecDepth 100000 in
theorem f2_loop (p : Int) (L : List Con) (P : List (List Int)) (hL : okL L) (hP : ∀ l ∈ P, l ≠ [] ∧ inR L.length l ∧ l.length ≤ L.length) (hm : P.length ≤ 1000) : AnnOk Tryz.prog EV.ng (Nat.max 1 Tryz.f29.ntmps) (bodyAt Tryz.f29 [0, 1, 0, 1, 1, 1]) (f2Ann p L P) := by
  refine ann_ofI evOk (callF_ok evOk (noOrc_ok _ _) 8) (by kernel_rfl) (by kernel_rfl) (fun i : Nat => (fun (j : Nat) => (⟨[(1, .ptr 1000 0), (54, (roR .i64 P).av), (55, .vint .i64 P.length), (56, .vint .i64 (j : Int))], loH p L, 1010⟩ : St)) i) (fun i : Nat => (fun (j : Nat) => (P.length - j : Nat)) i) (fun (d : Bool) (i : Nat) => (fun (j : Nat) => (j ≤ P.length ∧ (P.drop j).all (fusR L) = d : Prop)) i) (fun i : Nat => (fun (j : Nat) => ([([0, 1, 0, 1, 1, 0, 0, 1, 1, 0, 0, 1, 0, 1, 1, 1], f3Ann p L P j)] : List (List Nat × Ann))) i) ?_ ?_ ?_
  · rintro d hd j hI
    exact one_ann (f3_loop p L P j hL (by rcases Nat.lt_or_ge j P.length with h | h; exact (hP _ (rowAt_mem h)).2.1; intro x hx; simp [rowAt, h] at hx) (by have := hL.1; rcases Nat.lt_or_ge j P.length with h | h; have := (hP _ (rowAt_mem h)).2.2; omega; simp [rowAt, h]))
  · intro d hd
    exact ⟨(0), [P.length = P.length ∧ (fun i => [rI IntKind.i64 (P.getD i [])]) = fun i => [rI IntKind.i64 (P.getD i [])], (↑P.length : Int) = (↑P.length : Int), (0 : Int) = (↑(0 : Nat) : Int), p = p, L.length = L.length ∧ (fun i => (L.getD i Con.zero).rvs) = fun i => (L.getD i Con.zero).rvs], by kernel_rfl, (by refine ⟨?_, ?_, ?_, ?_, (?_ : L.length = L.length ∧ (fun i => (L.getD i Con.zero).rvs) = fun i => (L.getD i Con.zero).rvs)⟩ <;> (first | rfl | assumption | omega | simp_all)), (by exact ⟨Nat.zero_le _, hd⟩)⟩
  · rintro d hd j hI
    cases d
    · -- d = false
      obtain ⟨ht, hs⟩ := hI
      have ht : j ≤ P.length := ht
      have hl1 := hL.1
      have ek : IntKind.i64.wrap ((j : Int) + 1) = ((j + 1 : Nat) : Int) := by rw [w64 (by omega) (by omega)]; omega
      refine Or.elim (Bool.eq_false_or_eq_true (decide ((↑j : Int) < (↑P.length : Int)))) (fun d1 => Or.elim (Bool.eq_false_or_eq_true (zerR L (rowAt P j))) (fun d2 => Or.elim (Bool.eq_false_or_eq_true ((IntKind.i64.wrap ((L.getD ((rowAt P j).getD (Int.toNat (0 : Int)) (0 : Int)).toNat Con.zero).oddity - dimR L (rowAt P j))).tmod (2 : Int) == (0 : Int))) (fun d3 => ⟨[true, true, false], .inl ⟨(j + 1), [P.length = P.length ∧ (fun i => [rI IntKind.i64 (P.getD i [])]) = fun i => [rI IntKind.i64 (P.getD i [])], (↑P.length : Int) = (↑P.length : Int), IntKind.i64.wrap ((↑j : Int) + (1 : Int)) = (↑(j + (1 : Nat)) : Int), p = p, L.length = L.length ∧ (fun i => (L.getD i Con.zero).rvs) = fun i => (L.getD i Con.zero).rvs, Dec ((IntKind.i64.wrap ((L.getD ((rowAt P j).getD (Int.toNat (0 : Int)) (0 : Int)).toNat Con.zero).oddity - dimR L (rowAt P j))).tmod (2 : Int) != (0 : Int)) false, (2 : Int) ≠ (0 : Int), (0 : Int) ≤ (rowAt P j).getD (Int.toNat (0 : Int)) (0 : Int) ∧ (rowAt P j).getD (Int.toNat (0 : Int)) (0 : Int) < (↑L.length : Int), (0 : Int) ≤ (0 : Int) ∧ (0 : Int) < (↑(rowAt P j).length : Int), P.length = P.length ∧ (fun i => [rI IntKind.i64 (P.getD i [])]) = fun i => [rI IntKind.i64 (P.getD i [])], (↑P.length : Int) = (↑P.length : Int), (↑j : Int) = (↑j : Int), (P.getD j []).length = (rowAt P j).length ∧ (fun j_1 => [RV.int IntKind.i64 ((P.getD j []).getD j_1 (0 : Int))]) = fun j_1 => [RV.int IntKind.i64 ((rowAt P j).getD j_1 (0 : Int))], (P.getD j []).length = (rowAt P j).length ∧ (fun j_1 => [RV.int IntKind.i64 ((P.getD j []).getD j_1 (0 : Int))]) = fun j_1 => [RV.int IntKind.i64 ((rowAt P j).getD j_1 (0 : Int))], (↑(P.getD j []).length : Int) = (↑(rowAt P j).length : Int), p = p, L.length = L.length ∧ (fun i => (L.getD i Con.zero).rvs) = fun i => (L.getD i Con.zero).rvs, Dec (zerR L (rowAt P j)) true, (0 : Int) ≤ (↑j : Int) ∧ (↑j : Int) < (↑P.length : Int), Dec (decide ((↑j : Int) < (↑P.length : Int))) true], by kernel_rfl, ⟨?_, ?_, ?_, ?_, ?_, (dN d3), ?_, ?_, ?_, ?_, ?_, ?_, ?_, ?_, ?_, ?_, ?_, d2, ?_, d1⟩, MuG.out ?_, InG.out ?_⟩⟩)
           (fun d3 => ⟨[true, true, true], .inr ⟨[Dec ((IntKind.i64.wrap ((L.getD ((rowAt P j).getD (Int.toNat (0 : Int)) (0 : Int)).toNat Con.zero).oddity - dimR L (rowAt P j))).tmod (2 : Int) != (0 : Int)) true, (2 : Int) ≠ (0 : Int), (0 : Int) ≤ (rowAt P j).getD (Int.toNat (0 : Int)) (0 : Int) ∧ (rowAt P j).getD (Int.toNat (0 : Int)) (0 : Int) < (↑L.length : Int), (0 : Int) ≤ (0 : Int) ∧ (0 : Int) < (↑(rowAt P j).length : Int), P.length = P.length ∧ (fun i => [rI IntKind.i64 (P.getD i [])]) = fun i => [rI IntKind.i64 (P.getD i [])], (↑P.length : Int) = (↑P.length : Int), (↑j : Int) = (↑j : Int), (P.getD j []).length = (rowAt P j).length ∧ (fun j_1 => [RV.int IntKind.i64 ((P.getD j []).getD j_1 (0 : Int))]) = fun j_1 => [RV.int IntKind.i64 ((rowAt P j).getD j_1 (0 : Int))], (P.getD j []).length = (rowAt P j).length ∧ (fun j_1 => [RV.int IntKind.i64 ((P.getD j []).getD j_1 (0 : Int))]) = fun j_1 => [RV.int IntKind.i64 ((rowAt P j).getD j_1 (0 : Int))], (↑(P.getD j []).length : Int) = (↑(rowAt P j).length : Int), p = p, L.length = L.length ∧ (fun i => (L.getD i Con.zero).rvs) = fun i => (L.getD i Con.zero).rvs, Dec (zerR L (rowAt P j)) true, (0 : Int) ≤ (↑j : Int) ∧ (↑j : Int) < (↑P.length : Int), Dec (decide ((↑j : Int) < (↑P.length : Int))) true], by kernel_rfl, ⟨(dN d3), ?_, ?_, ?_, ?_, ?_, ?_, ?_, ?_, ?_, ?_, ?_, d2, ?_, d1⟩, rfl⟩⟩))
           (fun d2 => ⟨[true, false], .inr ⟨[P.length = P.length ∧ (fun i => [rI IntKind.i64 (P.getD i [])]) = fun i => [rI IntKind.i64 (P.getD i [])], (↑P.length : Int) = (↑P.length : Int), (↑j : Int) = (↑j : Int), (P.getD j []).length = (rowAt P j).length ∧ (fun j_1 => [RV.int IntKind.i64 ((P.getD j []).getD j_1 (0 : Int))]) = fun j_1 => [RV.int IntKind.i64 ((rowAt P j).getD j_1 (0 : Int))], (P.getD j []).length = (rowAt P j).length ∧ (fun j_1 => [RV.int IntKind.i64 ((P.getD j []).getD j_1 (0 : Int))]) = fun j_1 => [RV.int IntKind.i64 ((rowAt P j).getD j_1 (0 : Int))], (↑(P.getD j []).length : Int) = (↑(rowAt P j).length : Int), p = p, L.length = L.length ∧ (fun i => (L.getD i Con.zero).rvs) = fun i => (L.getD i Con.zero).rvs, Dec (zerR L (rowAt P j)) false, (0 : Int) ≤ (↑j : Int) ∧ (↑j : Int) < (↑P.length : Int), Dec (decide ((↑j : Int) < (↑P.length : Int))) true], by kernel_rfl, ⟨?_, ?_, ?_, ?_, ?_, ?_, ?_, ?_, d2, ?_, d1⟩, rfl⟩⟩))
           (fun d1 => CtG.no ?_)
      all_goals first | (refine MuG.mk ?_; (simp only [decide_eq_true_eq] at *; show P.length - (j + 1) < P.length - j; omega)) | (refine InG.mk ?_; (simp only [decide_eq_true_eq, Int.toNat_natCast, Int.toNat_zero] at *; have h0 := hP _ (rowAt_mem (P := P) (t := j) (by omega)); rw [allP_drop (by omega), fusR, d2, ← par_w hL h0.1 h0.2.1 (by omega)] at hs; refine ⟨by omega, ?_⟩; simp only [at_] at hs; first | (rw [d3] at hs; exact hs) | (simp only [Bool.not_eq_eq_eq_not, bne] at d3 hs; rw [d3] at hs; exact hs))) | (refine CtG.mk ?_; (simp only [decide_eq_true_eq, decide_eq_false_iff_not, Int.toNat_natCast, Int.toNat_zero] at *; first | (rw [List.drop_eq_nil_of_le (by omega)] at hs; cases hs; done) | (rw [allP_drop (by omega), fusR, d2] at hs; cases hs; done) | (have h0 := hP _ (rowAt_mem (P := P) (t := j) (by omega)); rw [allP_drop (by omega), fusR, d2, ← par_w hL h0.1 h0.2.1 (by omega)] at hs; simp only [at_] at hs; rw [d3] at hs; cases hs; done))) | (first | (with_reducible rfl) | exact ⟨rfl, rfl⟩ | decide | ((try simp only [ek, Int.toNat_natCast, Int.toNat_zero, decide_eq_true_eq, decide_eq_false_iff_not] at *) <;> first | omega | (have h0 := hP _ (rowAt_mem (P := P) (t := j) (by omega)); have h1 : 0 < (rowAt P j).length := List.length_pos_iff.2 h0.1; first | omega | (have h2 := h0.2.1.at (t := 0) h1; omega))))
    · -- d = true
      obtain ⟨ht, hs⟩ := hI
      have ht : j ≤ P.length := ht
      have hl1 := hL.1
      have ek : IntKind.i64.wrap ((j : Int) + 1) = ((j + 1 : Nat) : Int) := by rw [w64 (by omega) (by omega)]; omega
      refine Or.elim (Bool.eq_false_or_eq_true (decide ((↑j : Int) < (↑P.length : Int)))) (fun d1 => Or.elim (Bool.eq_false_or_eq_true (zerR L (rowAt P j))) (fun d2 => Or.elim (Bool.eq_false_or_eq_true ((IntKind.i64.wrap ((L.getD ((rowAt P j).getD (Int.toNat (0 : Int)) (0 : Int)).toNat Con.zero).oddity - dimR L (rowAt P j))).tmod (2 : Int) == (0 : Int))) (fun d3 => ⟨[true, true, false], .inl ⟨(j + 1), [P.length = P.length ∧ (fun i => [rI IntKind.i64 (P.getD i [])]) = fun i => [rI IntKind.i64 (P.getD i [])], (↑P.length : Int) = (↑P.length : Int), IntKind.i64.wrap ((↑j : Int) + (1 : Int)) = (↑(j + (1 : Nat)) : Int), p = p, L.length = L.length ∧ (fun i => (L.getD i Con.zero).rvs) = fun i => (L.getD i Con.zero).rvs, Dec ((IntKind.i64.wrap ((L.getD ((rowAt P j).getD (Int.toNat (0 : Int)) (0 : Int)).toNat Con.zero).oddity - dimR L (rowAt P j))).tmod (2 : Int) != (0 : Int)) false, (2 : Int) ≠ (0 : Int), (0 : Int) ≤ (rowAt P j).getD (Int.toNat (0 : Int)) (0 : Int) ∧ (rowAt P j).getD (Int.toNat (0 : Int)) (0 : Int) < (↑L.length : Int), (0 : Int) ≤ (0 : Int) ∧ (0 : Int) < (↑(rowAt P j).length : Int), P.length = P.length ∧ (fun i => [rI IntKind.i64 (P.getD i [])]) = fun i => [rI IntKind.i64 (P.getD i [])], (↑P.length : Int) = (↑P.length : Int), (↑j : Int) = (↑j : Int), (P.getD j []).length = (rowAt P j).length ∧ (fun j_1 => [RV.int IntKind.i64 ((P.getD j []).getD j_1 (0 : Int))]) = fun j_1 => [RV.int IntKind.i64 ((rowAt P j).getD j_1 (0 : Int))], (P.getD j []).length = (rowAt P j).length ∧ (fun j_1 => [RV.int IntKind.i64 ((P.getD j []).getD j_1 (0 : Int))]) = fun j_1 => [RV.int IntKind.i64 ((rowAt P j).getD j_1 (0 : Int))], (↑(P.getD j []).length : Int) = (↑(rowAt P j).length : Int), p = p, L.length = L.length ∧ (fun i => (L.getD i Con.zero).rvs) = fun i => (L.getD i Con.zero).rvs, Dec (zerR L (rowAt P j)) true, (0 : Int) ≤ (↑j : Int) ∧ (↑j : Int) < (↑P.length : Int), Dec (decide ((↑j : Int) < (↑P.length : Int))) true], by kernel_rfl, ⟨?_, ?_, ?_, ?_, ?_, (dN d3), ?_, ?_, ?_, ?_, ?_, ?_, ?_, ?_, ?_, ?_, ?_, d2, ?_, d1⟩, MuG.out ?_, InG.out ?_⟩⟩)
           (fun d3 => CtG.no ?_))
           (fun d2 => CtG.no ?_))
           (fun d1 => ⟨[false], .inr ⟨[Dec (decide ((↑j : Int) < (↑P.length : Int))) false], by kernel_rfl, d1, rfl⟩⟩)
      all_goals first | (refine MuG.mk ?_; (simp only [decide_eq_true_eq] at *; show P.length - (j + 1) < P.length - j; omega)) | (refine InG.mk ?_; (simp only [decide_eq_true_eq, Int.toNat_natCast, Int.toNat_zero] at *; have h0 := hP _ (rowAt_mem (P := P) (t := j) (by omega)); rw [allP_drop (by omega), fusR, d2, ← par_w hL h0.1 h0.2.1 (by omega)] at hs; refine ⟨by omega, ?_⟩; simp only [at_] at hs; first | (rw [d3] at hs; exact hs) | (simp only [Bool.not_eq_eq_eq_not, bne] at d3 hs; rw [d3] at hs; exact hs))) | (refine CtG.mk ?_; (simp only [decide_eq_true_eq, decide_eq_false_iff_not, Int.toNat_natCast, Int.toNat_zero] at *; first | (rw [List.drop_eq_nil_of_le (by omega)] at hs; cases hs; done) | (rw [allP_drop (by omega), fusR, d2] at hs; cases hs; done) | (have h0 := hP _ (rowAt_mem (P := P) (t := j) (by omega)); rw [allP_drop (by omega), fusR, d2, ← par_w hL h0.1 h0.2.1 (by omega)] at hs; simp only [at_] at hs; rw [d3] at hs; cases hs; done))) | (first | (with_reducible rfl) | exact ⟨rfl, rfl⟩ | decide | ((try simp only [ek, Int.toNat_natCast, Int.toNat_zero, decide_eq_true_eq, decide_eq_false_iff_not] at *) <;> first | omega | (have h0 := hP _ (rowAt_mem (P := P) (t := j) (by omega)); have h1 : 0 < (rowAt P j).length := List.length_pos_iff.2 h0.1; first | omega | (have h2 := h0.2.1.at (t := 0) h1; omega))))
theorem okL_sh {p : Int} {L : List Con} (h1 : shapeM p L = true) (h2 : L.all fusB = true) : okL L := by
  simp only [shapeM, Bool.and_eq_true] at h1
  obtain ⟨i1, i2, i3⟩ := sh_at (by decide) (by decide) h1.2.2
  have hne : L ≠ [] := by intro e; rw [e] at h1; cases h1.2.1
  have hd : dimS L ≤ 8 := by rcases i2 with i2 | i2; omega; exact absurd i2 hne
  refine ⟨by omega, fun c hc => ?_⟩
  have h4 := i1 c hc
  have h5 := fusB_iff.1 (List.all_eq_true.1 h2 c hc)
  exact ⟨⟨h4.1, by omega⟩, ⟨h4.2.2.1, by omega⟩, h5.1, h5.2.1⟩
noncomputable def entsVF : List OEnt := entsVC ++ entsVS
theorem entsVF_ok : ∀ e ∈ entsVF, EntOk Tryz.prog e := by
  intro e he
  rcases List.mem_append.1 he with he | he
  · exact entsVC_ok e he
  · exact entsVS_ok e he
theorem fusT_eq (p : Int) (L : List Con) : fusT p L = (shapeM p L && (L.all fusB && (partsM L).all (fusR L))) := rfl
set_option maxRecDepth 100000 in
theorem fused_1 (p : Int) (L : List Con) (hn : L.length ≤ 1000) (h1 : shapeM p L = false) : PureC Tryz.prog [] 29 [.agg [.int .i64 p, roC L]] (.bool (fusT p L)) := by
  have k1 : shapeM p (consR L.length fun i => (L.getD i Con.zero).rvs) = false := (by rw [consR_ro]; exact h1)
  have rr := fun (tp : List Bool) (ms : List Prop) h hm => pure_run evOk (callF_ok evOk (orcOf_ok entsVF_ok) 8) Tryz.func29 (A := [.agg [.int .i64 p, roC L]]) rfl none_ann rfl rfl evNg (tabs := []) (R := .bool (fusT p L)) (tp := tp) (ms := ms) h hm
  refine rr [true] [false = fusT p L, Dec (!shapeM p (consR L.length fun i => (L.getD i Con.zero).rvs)) true, (∀ (i : Nat), i < L.length → (fun i => (L.getD i Con.zero).rvs) i = (Con.ofR ((fun i => (L.getD i Con.zero).rvs) i)).rvs) ∧ L.length ≤ (1000 : Nat)] (by kernel_rfl) ⟨?_, (dN k1), (?_ : (∀ (i : Nat), i < L.length → (fun i => (L.getD i Con.zero).rvs) i = (Con.ofR ((fun i => (L.getD i Con.zero).rvs) i)).rvs) ∧ L.length ≤ (1000 : Nat))⟩
  all_goals first | (first | (with_reducible rfl) | exact ⟨rfl, rfl⟩ | exact ⟨fun _ _ => rfl, hn⟩ | (rw [fusT_eq, h1]; rfl))
set_option maxRecDepth 100000 in
theorem fused_2 (p : Int) (L : List Con) (hn : L.length ≤ 1000) (h1 : shapeM p L = true) (h2 : L.all fusB = false) : PureC Tryz.prog [] 29 [.agg [.int .i64 p, roC L]] (.bool (fusT p L)) := by
  have k1 : shapeM p (consR L.length fun i => (L.getD i Con.zero).rvs) = true := (by rw [consR_ro]; exact h1)
  have rr := fun (tp : List Bool) (ms : List Prop) h hm => pure_run evOk (callF_ok evOk (orcOf_ok entsVF_ok) 8) Tryz.func29 (A := [.agg [.int .i64 p, roC L]]) (N := Nat.max 1 Tryz.f29.ntmps) rfl (one_ann (f1_loop p L hn)) rfl rfl evNg (tabs := []) (R := .bool (fusT p L)) (tp := tp) (ms := ms) h hm
  refine rr [false, false] [false = fusT p L, L.length = L.length ∧ (fun i => (L.getD i Con.zero).rvs) = fun i => (L.getD i Con.zero).rvs, (↑L.length : Int) = (↑L.length : Int), p = p, L.length = L.length ∧ (fun i => (L.getD i Con.zero).rvs) = fun i => (L.getD i Con.zero).rvs, Dec (L.all fusB) false, Dec (!shapeM p (consR L.length fun i => (L.getD i Con.zero).rvs)) false, (∀ (i : Nat), i < L.length → (fun i => (L.getD i Con.zero).rvs) i = (Con.ofR ((fun i => (L.getD i Con.zero).rvs) i)).rvs) ∧ L.length ≤ (1000 : Nat)] (by kernel_rfl) ⟨?_, ?_, ?_, ?_, ?_, h2, (dN k1), (?_ : (∀ (i : Nat), i < L.length → (fun i => (L.getD i Con.zero).rvs) i = (Con.ofR ((fun i => (L.getD i Con.zero).rvs) i)).rvs) ∧ L.length ≤ (1000 : Nat))⟩
  all_goals first | (first | (with_reducible rfl) | exact ⟨rfl, rfl⟩ | exact ⟨fun _ _ => rfl, hn⟩ | (rw [fusT_eq, h1, h2]; rfl))
set_option maxRecDepth 100000 in
theorem fused_3 (p : Int) (L : List Con) (hn : L.length ≤ 1000) (hL : okL L) (h1 : shapeM p L = true) (h2 : L.all fusB = true) : PureC Tryz.prog [] 29 [.agg [.int .i64 p, roC L]] (.bool (fusT p L)) := by
  have k1 : shapeM p (consR L.length fun i => (L.getD i Con.zero).rvs) = true := (by rw [consR_ro]; exact h1)
  have rr := fun (tp : List Bool) (ms : List Prop) h hm => pure_run evOk (callF_ok evOk (orcOf_ok entsVF_ok) 8) Tryz.func29 (A := [.agg [.int .i64 p, roC L]]) (N := Nat.max 1 Tryz.f29.ntmps) rfl (cons_ann (f1_loop p L hn) (one_ann (f2_loop p L (partsM L) hL parts_rows (Nat.le_trans parts_len hn)))) rfl rfl evNg (tabs := []) (R := .bool (fusT p L)) (tp := tp) (ms := ms) h hm
  refine Or.elim (Bool.eq_false_or_eq_true ((partsM L).all (fusR L))) (fun d1 => rr [false, true, true] [true = fusT p L, (partsM (consR L.length fun i => (L.getD i Con.zero).rvs)).length = (partsM L).length ∧ (fun i => [rI IntKind.i64 ((partsM (consR L.length fun i => (L.getD i Con.zero).rvs)).getD i [])]) = fun i => [rI IntKind.i64 ((partsM L).getD i [])], (↑(partsM (consR L.length fun i => (L.getD i Con.zero).rvs)).length : Int) = (↑(partsM L).length : Int), p = p, L.length = L.length ∧ (fun i => (L.getD i Con.zero).rvs) = fun i => (L.getD i Con.zero).rvs, Dec ((partsM L).all (fusR L)) true, (∀ (i : Nat), i < L.length → (fun i => (L.getD i Con.zero).rvs) i = (Con.ofR ((fun i => (L.getD i Con.zero).rvs) i)).rvs) ∧ okE (consR L.length fun i => (L.getD i Con.zero).rvs), L.length = L.length ∧ (fun i => (L.getD i Con.zero).rvs) = fun i => (L.getD i Con.zero).rvs, (↑L.length : Int) = (↑L.length : Int), p = p, L.length = L.length ∧ (fun i => (L.getD i Con.zero).rvs) = fun i => (L.getD i Con.zero).rvs, Dec (L.all fusB) true, Dec (!shapeM p (consR L.length fun i => (L.getD i Con.zero).rvs)) false, (∀ (i : Nat), i < L.length → (fun i => (L.getD i Con.zero).rvs) i = (Con.ofR ((fun i => (L.getD i Con.zero).rvs) i)).rvs) ∧ L.length ≤ (1000 : Nat)] (by kernel_rfl) ⟨?_, ?_, ?_, ?_, ?_, d1, ?_, ?_, ?_, ?_, ?_, h2, (dN k1), (?_ : (∀ (i : Nat), i < L.length → (fun i => (L.getD i Con.zero).rvs) i = (Con.ofR ((fun i => (L.getD i Con.zero).rvs) i)).rvs) ∧ L.length ≤ (1000 : Nat))⟩)
           (fun d1 => rr [false, true, false] [false = fusT p L, (partsM (consR L.length fun i => (L.getD i Con.zero).rvs)).length = (partsM L).length ∧ (fun i => [rI IntKind.i64 ((partsM (consR L.length fun i => (L.getD i Con.zero).rvs)).getD i [])]) = fun i => [rI IntKind.i64 ((partsM L).getD i [])], (↑(partsM (consR L.length fun i => (L.getD i Con.zero).rvs)).length : Int) = (↑(partsM L).length : Int), p = p, L.length = L.length ∧ (fun i => (L.getD i Con.zero).rvs) = fun i => (L.getD i Con.zero).rvs, Dec ((partsM L).all (fusR L)) false, (∀ (i : Nat), i < L.length → (fun i => (L.getD i Con.zero).rvs) i = (Con.ofR ((fun i => (L.getD i Con.zero).rvs) i)).rvs) ∧ okE (consR L.length fun i => (L.getD i Con.zero).rvs), L.length = L.length ∧ (fun i => (L.getD i Con.zero).rvs) = fun i => (L.getD i Con.zero).rvs, (↑L.length : Int) = (↑L.length : Int), p = p, L.length = L.length ∧ (fun i => (L.getD i Con.zero).rvs) = fun i => (L.getD i Con.zero).rvs, Dec (L.all fusB) true, Dec (!shapeM p (consR L.length fun i => (L.getD i Con.zero).rvs)) false, (∀ (i : Nat), i < L.length → (fun i => (L.getD i Con.zero).rvs) i = (Con.ofR ((fun i => (L.getD i Con.zero).rvs) i)).rvs) ∧ L.length ≤ (1000 : Nat)] (by kernel_rfl) ⟨?_, ?_, ?_, ?_, ?_, d1, ?_, ?_, ?_, ?_, ?_, h2, (dN k1), (?_ : (∀ (i : Nat), i < L.length → (fun i => (L.getD i Con.zero).rvs) i = (Con.ofR ((fun i => (L.getD i Con.zero).rvs) i)).rvs) ∧ L.length ≤ (1000 : Nat))⟩)
  all_goals first | (first | (with_reducible rfl) | exact ⟨rfl, rfl⟩ | exact ⟨fun _ _ => rfl, hn⟩ | exact ⟨fun _ _ => rfl, by rw [consR_ro]; exact hL.e⟩ | (rw [consR_ro]; first | done | rfl | exact ⟨rfl, rfl⟩) | (rw [fusT_eq, h1, h2, d1]; rfl))
theorem tfused_pure (p : Int) (L : List Con) (hn : L.length ≤ 1000) : PureC Tryz.prog [] 29 [.agg [.int .i64 p, roC L]] (.bool (fusM p L)) := by
  rw [← fus_eq]
  cases h1 : shapeM p L with
  | false => exact fused_1 p L hn h1
  | true =>
    cases h2 : L.all fusB with
    | false => exact fused_2 p L hn h1 h2
    | true => exact fused_3 p L hn (okL_sh h1 h2) h1 h2
end Go.Proofs.YtkkmlbhmcdoibaaGreatDoor.S

namespace Go.Proofs.YtkkmlbhmcdoibaaGreatDoor.S
open Go.QfSy Go.RowKit
theorem at_setO {L : List Con} {i t : Int} {k : Nat} (h : k ≠ i.toNat) : at_ (setO L i t) k = at_ L k := by
  unfold setO
  rw [at_set, if_neg]
  intro e; exact h e.1.symm
theorem at_zeroP {k : Nat} : ∀ {l : List Int} {L : List Con}, (∀ x ∈ l, k ≠ x.toNat) → at_ (zeroP L l) k = at_ L k
  | [], _, _ => rfl
  | i :: l, L, h => by
    simp only [zeroP]
    rw [at_zeroP (fun x hx => h x (by simp [hx])), at_setO (h i (by simp))]
theorem at_fuseP {L0 L : List Con} {l : List Int} {k : Nat} (hne : l ≠ []) (h : ∀ x ∈ l, k ≠ x.toNat) : at_ (fuseP L0 L l) k = at_ L k := by
  unfold fuseP
  rw [at_setO, at_zeroP h]
  refine h _ ?_
  cases l with
  | nil => exact absurd rfl hne
  | cons a l => simp
def sumT (L : List Con) : List Int → Int
  | [] => 0
  | i :: l => (at_ L i.toNat).oddity + sumT (setO L i 0) l
theorem sumO_set {t : Int} {i : Int} (hi : 0 ≤ i) : ∀ {l : List Int} {L : List Con}, (∀ x ∈ l, 0 ≤ x ∧ x ≠ i) → sumO (setO L i t) l = sumO L l
  | [], _, _ => rfl
  | x :: l, L, h => by
    have h1 := h x (by simp)
    simp only [sumO]
    rw [sumO_set hi (fun y hy => h y (by simp [hy])), at_setO (by omega)]
theorem sumT_eq : ∀ {l : List Int} {L : List Con}, l.Nodup → (∀ x ∈ l, 0 ≤ x) → sumT L l = sumO L l
  | [], _, _, _ => rfl
  | i :: l, L, hn, h => by
    have hn' := List.nodup_cons.1 hn
    simp only [sumT, sumO]
    rw [sumT_eq hn'.2 (fun x hx => h x (by simp [hx])), sumO_set (h i (by simp)) (fun x hx => ⟨h x (by simp [hx]), fun e => hn'.1 (e ▸ hx)⟩)]
def fuseT (L : List Con) : List (List Int) → List Con
  | [] => L
  | l :: P => fuseT (setO (zeroP L l) (l.getD 0 0) (sumT L l % 8)) P
theorem sumO_agree {L M : List Con} : ∀ {l : List Int}, (∀ x ∈ l, at_ M x.toNat = at_ L x.toNat) → sumO M l = sumO L l
  | [], _ => rfl
  | x :: l, h => by simp only [sumO]; rw [h x (by simp), sumO_agree (fun y hy => h y (by simp [hy]))]
theorem fuseT_eq {L0 : List Con} : ∀ {P : List (List Int)} {L : List Con}, P.flatten.Nodup → (∀ l ∈ P, l ≠ []) → (∀ x ∈ P.flatten, 0 ≤ x ∧ at_ L x.toNat = at_ L0 x.toNat) → fuseT L P = fuseG L0 L P
  | [], _, _, _, _ => rfl
  | l :: P, L, hn, hne, h => by
    simp only [List.flatten_cons] at hn h
    have hd := List.nodup_append.1 hn
    have e : setO (zeroP L l) (l.getD 0 0) (sumT L l % 8) = fuseP L0 L l := by
      unfold fuseP totM
      rw [sumT_eq hd.1 (fun x hx => (h x (by simp [hx])).1), sumO_agree (fun x hx => (h x (by simp [hx])).2)]
    simp only [fuseT, fuseG]
    rw [e]
    refine fuseT_eq hd.2.1 (fun m hm => hne m (by simp [hm])) (fun x hx => ?_)
    have h1 := h x (by simp [hx])
    refine ⟨h1.1, ?_⟩
    rw [at_fuseP (hne l (by simp)) (fun y hy e2 => ?_), h1.2]
    have h2 := h y (by simp [hy])
    have : x = y := by omega
    exact hd.2.2 y hy x hx this.symm
theorem fuseT_parts {L : List Con} : fuseT L (partsM L) = fuseM L := by
  refine fuseT_eq (parts_nodup L) (fun l hl => (parts_rows l hl).1) (fun x hx => ⟨?_, rfl⟩)
  obtain ⟨l, h1, h2⟩ := List.mem_flatten.1 hx
  exact ((parts_rows l h1).2.1 x h2).1
theorem set_comm {L : List Con} {i k : Nat} {a b : Con} (h : i ≠ k) : (L.set i a).set k b = (L.set k b).set i a := List.set_comm a b h
theorem flip_comm {L : List Con} {i k : Nat} (h : i ≠ k) : flipS (flipS L i) k = flipS (flipS L k) i := by
  unfold flipS
  rw [at_set, if_neg (by intro e; exact h e.1), at_set, if_neg (by intro e; exact h e.1.symm), set_comm h]
theorem add4_comm {L : List Con} {i k : Int} (h : i.toNat ≠ k.toNat) : add4 (add4 L i) k = add4 (add4 L k) i := by
  have e1 : at_ (add4 L i) k.toNat = at_ L k.toNat := by unfold add4; exact at_setO (fun e => h e.symm)
  have e2 : at_ (add4 L k) i.toNat = at_ L i.toNat := by unfold add4; exact at_setO h
  have f1 : add4 (add4 L i) k = (add4 L i).set k.toNat { at_ L k.toNat with oddity := ((at_ L k.toNat).oddity + 4) % 8 } := by
    show (add4 L i).set k.toNat { at_ (add4 L i) k.toNat with oddity := ((at_ (add4 L i) k.toNat).oddity + 4) % 8 } = _
    rw [e1]
  have f2 : add4 (add4 L k) i = (add4 L k).set i.toNat { at_ L i.toNat with oddity := ((at_ L i.toNat).oddity + 4) % 8 } := by
    show (add4 L k).set i.toNat { at_ (add4 L k) i.toNat with oddity := ((at_ (add4 L k) i.toNat).oddity + 4) % 8 } = _
    rw [e2]
  rw [f1, f2]
  exact set_comm h
def walkG (x y : Int) : List Con → List (List Int) → List Con
  | L, [] => L
  | L, l :: P => walkG x y (bif hasI x l || hasI y l then add4 L (l.getD 0 0) else L) P
theorem walkG_none {x y : Int} : ∀ {P : List (List Int)} {L : List Con}, x ∉ P.flatten → y ∉ P.flatten → walkG x y L P = L
  | [], _, _, _ => rfl
  | l :: P, L, hx, hy => by
    simp only [List.flatten_cons, List.mem_append, not_or] at hx hy
    have h1 : hasI x l = false := by cases h : hasI x l with | false => rfl | true => exact absurd (hasI_iff.1 h) hx.1
    have h2 : hasI y l = false := by cases h : hasI y l with | false => rfl | true => exact absurd (hasI_iff.1 h) hy.1
    simp only [walkG, h1, h2, Bool.or_false, cond_false]
    exact walkG_none hx.2 hy.2
end Go.Proofs.YtkkmlbhmcdoibaaGreatDoor.S

namespace Go.Proofs.YtkkmlbhmcdoibaaGreatDoor.S
open Go.QfSy Go.RowKit
theorem flip_raw {L : List Con} (hL : okL L) {k : Nat} (hk : k < L.length) : updS L k (IntKind.i64.wrap (0 - (L.getD k Con.zero).sign)) = flipS L k := by
  have h := (hL.at hk).2.2.1
  have e : IntKind.i64.wrap (0 - (L.getD k Con.zero).sign) = -(L.getD k Con.zero).sign := by
    simp only [at_] at h
    rw [w64 (by omega) (by omega)]; omega
  rw [e]; rfl
theorem add4_raw {L : List Con} (hL : okL L) {i : Int} (hi : 0 ≤ i ∧ i < (L.length : Int)) : updT L i.toNat ((IntKind.i64.wrap ((L.getD i.toNat Con.zero).oddity + 4)).tmod 8) = add4 L i := by
  have h := (hL.at (k := i.toNat) (by omega)).2.2.2
  have e : (IntKind.i64.wrap ((L.getD i.toNat Con.zero).oddity + 4)).tmod 8 = ((L.getD i.toNat Con.zero).oddity + 4) % 8 := by
    simp only [at_] at h
    rw [w64 (by omega) (by omega)]; exact Int.tmod_eq_emod_of_nonneg (by omega)
  rw [e]; rfl
theorem part0 {L : List Con} (h : 0 < L.length) (a : Int) : 0 ≤ (partM L a).getD 0 0 ∧ (partM L a).getD 0 0 < (L.length : Int) := by
  rcases Nat.eq_zero_or_pos (partM L a).length with h0 | h0
  · rw [List.length_eq_zero_iff.1 h0]; simp; omega
  · exact (partM_ok (L := L) (i := a)).1.at h0
theorem st1 {L : List Con} {k : Nat} (h1 : 0 < (partM L ((k : Int) - 1)).length) (h2 : 0 < (partM L k).length) (h3 : ¬ (partM L ((k : Int) - 1)).getD 0 0 = (partM L k).getD 0 0) : stepM L k = add4 (add4 (flipS (flipS L k) (k - 1)) ((partM L ((k : Int) - 1)).getD 0 0)) ((partM L k).getD 0 0) := by
  unfold stepM
  have h4 : ((partM L ((k : Int) - 1)).getD 0 0 == (partM L k).getD 0 0) = false := by rw [beq_eq_false_iff_ne]; exact h3
  simp only [h1, h2, h4, decide_true, Bool.not_false, Bool.or_true, Bool.and_true, cond_true]
theorem st2 {L : List Con} {k : Nat} (h1 : 0 < (partM L ((k : Int) - 1)).length) (h3 : (partM L ((k : Int) - 1)).getD 0 0 = (partM L k).getD 0 0) : stepM L k = add4 (flipS (flipS L k) (k - 1)) ((partM L ((k : Int) - 1)).getD 0 0) := by
  unfold stepM
  have h4 : ((partM L ((k : Int) - 1)).getD 0 0 == (partM L k).getD 0 0) = true := by rw [beq_iff_eq]; exact h3
  have h5 : ((partM L ((k : Int) - 1)).length == 0) = false := by rw [beq_eq_false_iff_ne]; omega
  simp only [h1, h4, h5, decide_true, Bool.not_true, Bool.or_false, Bool.and_false, cond_true, cond_false]
theorem st3 {L : List Con} {k : Nat} (h1 : 0 < (partM L ((k : Int) - 1)).length) (h2 : ¬ 0 < (partM L k).length) : stepM L k = add4 (flipS (flipS L k) (k - 1)) ((partM L ((k : Int) - 1)).getD 0 0) := by
  unfold stepM
  simp only [h1, h2, decide_true, decide_false, Bool.false_and, cond_true, cond_false]
theorem st4 {L : List Con} {k : Nat} (h1 : ¬ 0 < (partM L ((k : Int) - 1)).length) (h2 : 0 < (partM L k).length) : stepM L k = add4 (flipS (flipS L k) (k - 1)) ((partM L k).getD 0 0) := by
  unfold stepM
  have h5 : ((partM L ((k : Int) - 1)).length == 0) = true := by rw [beq_iff_eq]; omega
  simp only [h1, h2, h5, decide_true, decide_false, Bool.true_or, Bool.and_true, cond_true, cond_false]
theorem st5 {L : List Con} {k : Nat} (h1 : ¬ 0 < (partM L ((k : Int) - 1)).length) (h2 : ¬ 0 < (partM L k).length) : stepM L k = flipS (flipS L k) (k - 1) := by
  unfold stepM
  simp only [h1, h2, decide_false, Bool.false_and, cond_false]
end Go.Proofs.YtkkmlbhmcdoibaaGreatDoor.S

namespace Go.Proofs.YtkkmlbhmcdoibaaGreatDoor.S
open Go.QfSy Go.RowKit
theorem hasI_no {x : Int} {l : List Int} (h : x ∉ l) : hasI x l = false := by
  cases h1 : hasI x l with
  | false => rfl
  | true => exact absurd (hasI_iff.1 h1) h
theorem walk_one {x y : Int} : ∀ {P : List (List Int)} {L : List Con}, P.flatten.Nodup → x ∈ P.flatten → y ∉ P.flatten → walkG x y L P = add4 L ((findR x P).getD 0 0) ∧ walkG y x L P = add4 L ((findR x P).getD 0 0)
  | [], _, _, h, _ => by simp at h
  | l :: P, L, hn, hx, hy => by
    simp only [List.flatten_cons] at hn hx hy
    have hd := List.nodup_append.1 hn
    simp only [List.mem_append, not_or] at hy
    have h2 := hasI_no hy.1
    by_cases hl : x ∈ l
    · have h1 := hasI_iff.2 hl
      have h3 : x ∉ P.flatten := fun h => hd.2.2 x hl x h rfl
      simp only [walkG, findR, h1, h2, Bool.or_false, Bool.true_or, Bool.false_or, cond_true]
      exact ⟨walkG_none h3 hy.2, walkG_none hy.2 h3⟩
    · have h1 := hasI_no hl
      have h3 : x ∈ P.flatten := by
        rcases List.mem_append.1 hx with h | h
        · exact absurd h hl
        · exact h
      simp only [walkG, findR, h1, h2, Bool.or_false, cond_false]
      exact walk_one hd.2.1 h3 hy.2
theorem walk_same {x y : Int} : ∀ {P : List (List Int)} {L : List Con}, P.flatten.Nodup → x ∈ P.flatten → y ∈ P.flatten → findR x P = findR y P → walkG x y L P = add4 L ((findR x P).getD 0 0)
  | [], _, _, h, _, _ => by simp at h
  | l :: P, L, hn, hx, hy, he => by
    have hsx := findR_spec hx
    have hsy := findR_spec hy
    simp only [List.flatten_cons] at hn hx hy
    have hd := List.nodup_append.1 hn
    by_cases hl : x ∈ l
    · have e : findR x (l :: P) = l := by simp only [findR, hasI_iff.2 hl, cond_true]
      have hyl : y ∈ l := by rw [← he, e] at hsy; exact hsy.2
      rw [e]
      simp only [walkG, hasI_iff.2 hl, Bool.true_or, cond_true]
      exact walkG_none (fun h => hd.2.2 x hl x h rfl) (fun h => hd.2.2 y hyl y h rfl)
    · have hyl : y ∉ l := by
        intro h
        have e : findR y (l :: P) = l := by simp only [findR, hasI_iff.2 h, cond_true]
        rw [he, e] at hsx
        exact hl hsx.2
      have h1 := hasI_no hl
      have h2 := hasI_no hyl
      simp only [findR, h1, h2, cond_false] at he
      simp only [walkG, findR, h1, h2, Bool.or_false, cond_false]
      refine walk_same hd.2.1 ?_ ?_ he
      · rcases List.mem_append.1 hx with h | h
        · exact absurd h hl
        · exact h
      · rcases List.mem_append.1 hy with h | h
        · exact absurd h hyl
        · exact h
theorem walk_two {x y : Int} : ∀ {P : List (List Int)} {L : List Con}, P.flatten.Nodup → x ∈ P.flatten → y ∈ P.flatten → ((findR x P).getD 0 0).toNat ≠ ((findR y P).getD 0 0).toNat → walkG x y L P = add4 (add4 L ((findR x P).getD 0 0)) ((findR y P).getD 0 0)
  | [], _, _, h, _, _ => by simp at h
  | l :: P, L, hn, hx, hy, he => by
    simp only [List.flatten_cons] at hn hx hy
    have hd := List.nodup_append.1 hn
    by_cases hl : x ∈ l
    · have hyl : y ∉ l := by
        intro h
        apply he
        simp only [findR, hasI_iff.2 hl, hasI_iff.2 h, cond_true]
      have h1 := hasI_iff.2 hl
      have h2 := hasI_no hyl
      simp only [walkG, findR, h1, h2, Bool.true_or, cond_true, cond_false]
      refine (walk_one hd.2.1 ?_ (fun h => hd.2.2 x hl x h rfl)).2
      rcases List.mem_append.1 hy with h | h
      · exact absurd h hyl
      · exact h
    · have h1 := hasI_no hl
      have h3 : x ∈ P.flatten := by
        rcases List.mem_append.1 hx with h | h
        · exact absurd h hl
        · exact h
      by_cases hyl : y ∈ l
      · have h2 := hasI_iff.2 hyl
        simp only [findR, h1, h2, cond_true, cond_false] at he
        simp only [walkG, findR, h1, h2, Bool.false_or, cond_true, cond_false]
        rw [(walk_one hd.2.1 h3 (fun h => hd.2.2 y hyl y h rfl)).1]
        exact add4_comm (fun e => he e.symm)
      · have h2 := hasI_no hyl
        simp only [findR, h1, h2, cond_false] at he
        simp only [walkG, findR, h1, h2, Bool.or_false, cond_false]
        refine walk_two hd.2.1 h3 ?_ he
        rcases List.mem_append.1 hy with h | h
        · exact absurd h hyl
        · exact h
def walkM (L : List Con) (i : Nat) : List Con := walkG ((i : Int) - 1) i (flipS (flipS L (i - 1)) i) (partsM L)
theorem pos_of_mem {x : Int} {l : List Int} (h : x ∈ l) : 0 < l.length := by cases l with | nil => simp at h | cons a l => simp
theorem walkM_eq {L : List Con} {i : Nat} (h1 : 1 ≤ i) (h2 : i < L.length) : walkM L i = stepM L i := by
  have e0 : ((i - 1 : Nat) : Int) = (i : Int) - 1 := by omega
  have hf : flipS (flipS L (i - 1)) i = flipS (flipS L i) (i - 1) := flip_comm (by omega)
  have hmi := mem_parts (L := L) (i := i)
  have hmp := mem_parts (L := L) (i := i - 1)
  rw [e0] at hmp
  unfold walkM
  rw [hf]
  cases hp : oddB L (i - 1) with
  | false =>
    have np : ((i : Int) - 1) ∉ (partsM L).flatten := fun h => by rw [(hmp.1 h).2] at hp; cases hp
    have ep : partM L ((i : Int) - 1) = [] := by have := partM_even (L := L) (i := i - 1) (fun h => by rw [h.2] at hp; cases hp); rwa [e0] at this
    cases hq : oddB L i with
    | false =>
      have nq : (i : Int) ∉ (partsM L).flatten := fun h => by rw [(hmi.1 h).2] at hq; cases hq
      have eq : partM L (i : Int) = [] := partM_even (fun h => by rw [h.2] at hq; cases hq)
      rw [walkG_none np nq, st5 (by rw [ep]; simp) (by rw [eq]; simp)]
    | true =>
      have mq : (i : Int) ∈ (partsM L).flatten := hmi.2 ⟨h2, hq⟩
      rw [(walk_one (parts_nodup L) mq np).2, st4 (by rw [ep]; simp) (pos_of_mem (partM_odd h2 hq).2)]
      rfl
  | true =>
    have mp : ((i : Int) - 1) ∈ (partsM L).flatten := hmp.2 ⟨by omega, hp⟩
    have pp : 0 < (partM L ((i : Int) - 1)).length := by have := (partM_odd (L := L) (i := i - 1) (by omega) hp).2; rw [e0] at this; exact pos_of_mem this
    cases hq : oddB L i with
    | false =>
      have nq : (i : Int) ∉ (partsM L).flatten := fun h => by rw [(hmi.1 h).2] at hq; cases hq
      have eq : partM L (i : Int) = [] := partM_even (fun h => by rw [h.2] at hq; cases hq)
      rw [(walk_one (parts_nodup L) mp nq).1, st3 pp (by rw [eq]; simp)]
      rfl
    | true =>
      have mq : (i : Int) ∈ (partsM L).flatten := hmi.2 ⟨h2, hq⟩
      have pq : 0 < (partM L (i : Int)).length := pos_of_mem (partM_odd h2 hq).2
      cases hj : joinB L i with
      | true =>
        have e := join_part h2 hq hj
        rw [walk_same (parts_nodup L) mp mq e, st2 pp (by rw [e])]
        rfl
      | false =>
        have hne := apart_part h2 hq hj (by omega) hp
        have b1 := (part0 (L := L) (by omega) ((i : Int) - 1)).1
        have b2 := (part0 (L := L) (by omega) (i : Int)).1
        have hn2 : ((findR ((i : Int) - 1) (partsM L)).getD 0 0).toNat ≠ ((findR (i : Int) (partsM L)).getD 0 0).toNat := by
          intro e
          apply hne
          show (findR ((i : Int) - 1) (partsM L)).getD 0 0 = (findR (i : Int) (partsM L)).getD 0 0
          have b1 : 0 ≤ (findR ((i : Int) - 1) (partsM L)).getD 0 0 := b1
          have b2 : 0 ≤ (findR (i : Int) (partsM L)).getD 0 0 := b2
          omega
        rw [walk_two (parts_nodup L) mp mq hn2, st1 pp pq hne]
        rfl
end Go.Proofs.YtkkmlbhmcdoibaaGreatDoor.S

namespace Go.Proofs.YtkkmlbhmcdoibaaGreatDoor.S
open Go.QfSy Go.RowKit
noncomputable def entsVW : List OEnt := entsVC ++ [
  ⟨19, [], fun A => match A with
    | [.agg [.int .i64 p, .sl n 5 row]] => some (.bool (val2M p (consR n row)), [(∀ i, i < n → row i = (Con.ofR (row i)).rvs) ∧ n ≤ 1000])
    | _ => none⟩]
theorem entsVW_ok : ∀ e ∈ entsVW, EntOk Tryz.prog e := by
  intro e he
  rcases List.mem_append.1 he with he | he
  · exact entsVC_ok e he
  · rw [List.mem_singleton.1 he]
    intro A R ms h hm
    simp only at h
    split at h
    · cases h
      obtain ⟨h1, h3⟩ := all_one hm
      exact PureC.imp (tvalid_pure _ _ (by rw [consR_len]; exact h3)) (.cons (.agg (.cons .same (.cons (.con h1) .nil))) .nil)
    · cases h
theorem sumT_append : ∀ {a b : List Int} {L : List Con}, sumT L (a ++ b) = sumT L a + sumT (zeroP L a) b
  | [], _, _ => by simp [sumT, zeroP]
  | i :: a, b, L => by simp only [List.cons_append, sumT, zeroP]; rw [sumT_append]; omega
theorem sumT_take {L : List Con} {l : List Int} {t : Nat} (ht : t < l.length) : sumT L (l.take (t + 1)) = sumT L (l.take t) + (at_ (zeroP L (l.take t)) (l.getD t 0).toNat).oddity := by
  rw [take_int ht, sumT_append]; simp [sumT]
theorem sumT_b : ∀ {l : List Int} {L : List Con}, okL L → inR L.length l → 0 ≤ sumT L l ∧ sumT L l ≤ 7 * l.length
  | [], _, _, _ => by simp [sumT]
  | i :: l, L, hL, h => by
    have h1 := h i (by simp)
    have h2 := (hL.at (k := i.toNat) (by omega)).2.2.2
    have ih := sumT_b (setO_ok hL h1 (by decide : (0 : Int) ≤ 0 ∧ (0 : Int) ≤ 7)) (l := l) (by rw [setO_len]; exact fun x hx => h x (by simp [hx]))
    simp only [sumT, List.length_cons]
    omega
def fuT (M : List Con) (l : List Int) : List Con := setO (zeroP M l) (l.getD 0 0) (sumT M l % 8)
theorem fuT_len {M : List Con} {l : List Int} : (fuT M l).length = M.length := by unfold fuT; rw [setO_len, zeroP_len]
theorem fuT_ok {M : List Con} (h : okL M) {l : List Int} (hl : inR M.length l) (hne : l ≠ []) : okL (fuT M l) := by
  unfold fuT
  refine setO_ok (zeroP_ok h hl) ?_ (by omega)
  rw [zeroP_len]
  exact hl.at (List.length_pos_iff.2 hne)
theorem fuseT_drop {M : List Con} {P : List (List Int)} {j : Nat} (hj : j < P.length) : fuseT M (P.drop j) = fuseT (fuT M (rowAt P j)) (P.drop (j + 1)) := by
  rw [drop_row hj]; rfl
noncomputable def tfH (n : Nat) (M : List Con) : List (Nat × Blk) := [(1001, ⟨.plain [.int .i64 0, .nils], 30, 0, false, true⟩), (1003, ⟨.con M, 25, 5, true, true⟩)]
noncomputable def tfT (n : Nat) (P : List (List Int)) (j : Nat) : List (Nat × AV) := [(2, .ptr 1001 0), (4, .lo 1003 n), (18, (roR .i64 P).av), (19, .vint .i64 P.length), (20, .vint .i64 (j : Int)), (6, (rI .i64 (rowAt P j)).av)]
noncomputable def tfIn (n : Nat) (M : List Con) (P : List (List Int)) (j : Nat) : Ann := ⟨⟨tfT n P j ++ [(7, .int .i64 0), (24, (rI .i64 (rowAt P j)).av), (25, .vint .i64 (rowAt P j).length), (26, .int .i64 0)], tfH n M, 1030⟩, none, fun _ =>
  (.exit 2, ⟨tfT n P j ++ [(7, .vint .i64 (sumT M (rowAt P j)))], tfH n (zeroP M (rowAt P j)), 1030⟩)⟩
theorem odd_z {M : List Con} {l : List Int} {t : Nat} (hL : okL M) (hl : inR M.length l) (ht : t < l.length) : 0 ≤ (at_ (zeroP M (l.take t)) (l.getD t 0).toNat).oddity ∧ (at_ (zeroP M (l.take t)) (l.getD t 0).toNat).oddity ≤ 7 := by
  have h1 := hl.at ht
  have h2 := zeroP_ok hL (l := l.take t) (fun x hx => hl x (List.mem_of_mem_take hx))
  exact (h2.at (k := (l.getD t 0).toNat) (by rw [zeroP_len]; omega)).2.2.2
set_option maxRecDepth 100000 in
theorem tf_in (n : Nat) (M : List Con) (P : List (List Int)) (j : Nat) (hM : okL M) (hn : M.length = n) (hr : inR n (rowAt P j)) (hr2 : (rowAt P j).length ≤ 1000) : AnnOk Tryz.prog EV.ng (Nat.max 1 Tryz.f26.ntmps) (bodyAt Tryz.f26 [0, 1, 0, 1, 1, 0, 0, 1, 1, 0, 0, 1, 0, 1, 1, 1]) (tfIn n M P j) := by
  refine ann_of evOk (callF_ok evOk (noOrc_ok _ _) 8) none_ann (by kernel_rfl) (by kernel_rfl) (fun i : Nat × Int => (fun (t : Nat) (s : Int) => (⟨tfT n P j ++ [(7, .vint .i64 s), (24, (rI .i64 (rowAt P j)).av), (25, .vint .i64 (rowAt P j).length), (26, .vint .i64 (t : Int))], tfH n (zeroP M ((rowAt P j).take t)), 1030⟩ : St)) i.1 i.2) (fun i : Nat × Int => (fun (t : Nat) (s : Int) => ((rowAt P j).length - t : Nat)) i.1 i.2) (fun (d : Bool) (i : Nat × Int) => (fun (t : Nat) (s : Int) => (t ≤ (rowAt P j).length ∧ s = sumT M ((rowAt P j).take t) : Prop)) i.1 i.2) ?_ ?_
  · intro d hd
    exact ⟨(0, 0), [n = n, P.length = P.length ∧ (fun i => [rI IntKind.i64 (P.getD i [])]) = fun i => [rI IntKind.i64 (P.getD i [])], (↑P.length : Int) = (↑P.length : Int), (↑j : Int) = (↑j : Int), (rowAt P j).length = (rowAt P j).length ∧ (fun j_1 => [RV.int IntKind.i64 ((rowAt P j).getD j_1 (0 : Int))]) = fun j_1 => [RV.int IntKind.i64 ((rowAt P j).getD j_1 (0 : Int))], (0 : Int) = (0 : Int), (rowAt P j).length = (rowAt P j).length ∧ (fun j_1 => [RV.int IntKind.i64 ((rowAt P j).getD j_1 (0 : Int))]) = fun j_1 => [RV.int IntKind.i64 ((rowAt P j).getD j_1 (0 : Int))], (↑(rowAt P j).length : Int) = (↑(rowAt P j).length : Int), (0 : Int) = (↑(0 : Nat) : Int), M = zeroP M (List.take (0 : Nat) (rowAt P j))], by kernel_rfl, (by refine ⟨?_, ?_, ?_, ?_, ?_, ?_, ?_, ?_, ?_, (?_ : M = zeroP M (List.take (0 : Nat) (rowAt P j)))⟩ <;> (first | rfl | assumption | omega | simp_all)), (by exact ⟨Nat.zero_le _, rfl⟩)⟩
  · rintro d hd ⟨t, s⟩ hI
    cases d
    · -- d = false
      exact Bool.noConfusion (show false = true from hd)
    · -- d = true
      obtain ⟨ht, hs⟩ := hI
      have ht : t ≤ (rowAt P j).length := ht
      have hs : s = sumT M ((rowAt P j).take t) := hs
      have ek : IntKind.i64.wrap ((t : Int) + 1) = ((t + 1 : Nat) : Int) := by rw [w64 (by omega) (by omega)]; omega
      have hz : (zeroP M ((rowAt P j).take t)).length = n := by rw [zeroP_len, hn]
      have hl1 := hM.1
      have hr' : inR M.length (rowAt P j) := by rw [hn]; exact hr
      have hb := sumT_b hM (l := (rowAt P j).take t) (fun x hx => hr' x (List.mem_of_mem_take hx))
      have hb2 : (((rowAt P j).take t).length : Int) ≤ 1000 := by simp only [List.length_take]; omega
      refine Or.elim (Bool.eq_false_or_eq_true (decide ((↑t : Int) < (↑(rowAt P j).length : Int)))) (fun d1 => ⟨[true], .inl ⟨(t + 1, s + (at_ (zeroP M ((rowAt P j).take t)) ((rowAt P j).getD t 0).toNat).oddity), [n = n, P.length = P.length ∧ (fun i => [rI IntKind.i64 (P.getD i [])]) = fun i => [rI IntKind.i64 (P.getD i [])], (↑P.length : Int) = (↑P.length : Int), (↑j : Int) = (↑j : Int), (rowAt P j).length = (rowAt P j).length ∧ (fun j_1 => [RV.int IntKind.i64 ((rowAt P j).getD j_1 (0 : Int))]) = fun j_1 => [RV.int IntKind.i64 ((rowAt P j).getD j_1 (0 : Int))], IntKind.i64.wrap (s + ((zeroP M (List.take t (rowAt P j))).getD ((rowAt P j).getD t (0 : Int)).toNat Con.zero).oddity) = s + (at_ (zeroP M (List.take t (rowAt P j))) ((rowAt P j).getD t (0 : Int)).toNat).oddity, (rowAt P j).length = (rowAt P j).length ∧ (fun j_1 => [RV.int IntKind.i64 ((rowAt P j).getD j_1 (0 : Int))]) = fun j_1 => [RV.int IntKind.i64 ((rowAt P j).getD j_1 (0 : Int))], (↑(rowAt P j).length : Int) = (↑(rowAt P j).length : Int), IntKind.i64.wrap ((↑t : Int) + (1 : Int)) = (↑(t + (1 : Nat)) : Int), updT (zeroP M (List.take t (rowAt P j))) ((rowAt P j).getD t (0 : Int)).toNat (0 : Int) = zeroP M (List.take (t + (1 : Nat)) (rowAt P j)), ((rowAt P j).getD t (0 : Int)).toNat < (zeroP M (List.take t (rowAt P j))).length, (0 : Int) ≤ (rowAt P j).getD t (0 : Int) ∧ (rowAt P j).getD t (0 : Int) < (↑n : Int), ((rowAt P j).getD t (0 : Int)).toNat < (zeroP M (List.take t (rowAt P j))).length, (0 : Int) ≤ (rowAt P j).getD t (0 : Int) ∧ (rowAt P j).getD t (0 : Int) < (↑n : Int), (0 : Int) ≤ (↑t : Int) ∧ (↑t : Int) < (↑(rowAt P j).length : Int), Dec (decide ((↑t : Int) < (↑(rowAt P j).length : Int))) true], by kernel_rfl, ⟨?_, ?_, ?_, ?_, ?_, ?_, ?_, ?_, ?_, ?_, ?_, ?_, ?_, ?_, ?_, d1⟩, MuG.out ?_, InG.out ?_⟩⟩)
           (fun d1 => ⟨[false], .inr ⟨[n = n, P.length = P.length ∧ (fun i => [rI IntKind.i64 (P.getD i [])]) = fun i => [rI IntKind.i64 (P.getD i [])], (↑P.length : Int) = (↑P.length : Int), (↑j : Int) = (↑j : Int), (rowAt P j).length = (rowAt P j).length ∧ (fun j_1 => [RV.int IntKind.i64 ((rowAt P j).getD j_1 (0 : Int))]) = fun j_1 => [RV.int IntKind.i64 ((rowAt P j).getD j_1 (0 : Int))], s = sumT M (rowAt P j), zeroP M (List.take t (rowAt P j)) = zeroP M (rowAt P j), Dec (decide ((↑t : Int) < (↑(rowAt P j).length : Int))) false], by kernel_rfl, ⟨?_, ?_, ?_, ?_, ?_, ?_, ?_, d1⟩, rfl⟩⟩)
      all_goals first | (refine MuG.mk ?_; (simp only [decide_eq_true_eq] at *; show (rowAt P j).length - (t + 1) < (rowAt P j).length - t; omega)) | (refine InG.mk ?_; (simp only [decide_eq_true_eq] at *; exact ⟨by omega, by rw [sumT_take (by omega), hs]⟩)) | (refine CtG.mk ?_; (simp_all)) | (first | (with_reducible rfl) | exact ⟨rfl, rfl⟩ | ((try simp only [ek, Int.toNat_natCast, decide_eq_true_eq, decide_eq_false_iff_not] at *) <;> first | omega | (have h0 := hr.at (t := t) (by omega); omega) | (have h2 := odd_z (t := t) hM hr' (by omega); simp only [at_] at h2 ⊢; exact w64 (by omega) (by omega)) | (rw [zeroP_take (by omega)]; rfl) | (rw [hs, List.take_of_length_le (by omega)]; done) | (rw [List.take_of_length_le (by omega)]; done)))
noncomputable def tfOut (L : List Con) (P : List (List Int)) : Ann := ⟨⟨[(2, .ptr 1001 0), (4, .lo 1003 L.length), (18, (roR .i64 P).av), (19, .vint .i64 P.length), (20, .int .i64 0)], tfH L.length L, 1030⟩, none, fun _ =>
  (.exit 0, ⟨[(2, .ptr 1001 0), (4, .lo 1003 L.length)], tfH L.length (fuseT L P), 1030⟩)⟩
set_option maxRecDepth 100000 in
theorem tf_out (L : List Con) (P : List (List Int)) (hL : okL L) (hP : ∀ l ∈ P, l ≠ [] ∧ inR L.length l ∧ l.length ≤ L.length) (hm : P.length ≤ 1000) : AnnOk Tryz.prog EV.ng (Nat.max 1 Tryz.f26.ntmps) (bodyAt Tryz.f26 [0, 1, 0, 1, 1, 1]) (tfOut L P) := by
  refine ann_ofI evOk (callF_ok evOk (noOrc_ok _ _) 8) (by kernel_rfl) (by kernel_rfl) (fun i : Nat × List Con => (fun (j : Nat) (M : List Con) => (⟨[(2, .ptr 1001 0), (4, .lo 1003 L.length), (18, (roR .i64 P).av), (19, .vint .i64 P.length), (20, .vint .i64 (j : Int))], tfH L.length M, 1030⟩ : St)) i.1 i.2) (fun i : Nat × List Con => (fun (j : Nat) (M : List Con) => (P.length - j : Nat)) i.1 i.2) (fun (d : Bool) (i : Nat × List Con) => (fun (j : Nat) (M : List Con) => (j ≤ P.length ∧ okL M ∧ M.length = L.length ∧ fuseT M (P.drop j) = fuseT L P : Prop)) i.1 i.2) (fun i : Nat × List Con => (fun (j : Nat) (M : List Con) => ([([0, 1, 0, 1, 1, 0, 0, 1, 1, 0, 0, 1, 0, 1, 1, 1], tfIn L.length M P j)] : List (List Nat × Ann))) i.1 i.2) ?_ ?_ ?_
  · rintro d hd ⟨j, M⟩ hI
    exact one_ann (tf_in L.length M P j hI.2.1 hI.2.2.1 (by rcases Nat.lt_or_ge j P.length with h | h; exact (hP _ (rowAt_mem h)).2.1; intro x hx; simp [rowAt, h] at hx) (by have := hL.1; rcases Nat.lt_or_ge j P.length with h | h; have := (hP _ (rowAt_mem h)).2.2; omega; simp [rowAt, h]))
  · intro d hd
    exact ⟨(0, L), [L.length = L.length, P.length = P.length ∧ (fun i => [rI IntKind.i64 (P.getD i [])]) = fun i => [rI IntKind.i64 (P.getD i [])], (↑P.length : Int) = (↑P.length : Int), (0 : Int) = (↑(0 : Nat) : Int), L = L], by kernel_rfl, (by refine ⟨?_, ?_, ?_, ?_, (?_ : L = L)⟩ <;> (first | rfl | assumption | omega | simp_all)), (by exact ⟨Nat.zero_le _, hL, rfl, rfl⟩)⟩
  · rintro d hd ⟨j, M⟩ hI
    cases d
    · -- d = false
      exact Bool.noConfusion (show false = true from hd)
    · -- d = true
      obtain ⟨ht, hM, hn, hf⟩ := hI
      have ht : j ≤ P.length := ht
      have hM : okL M := hM
      have hn : M.length = L.length := hn
      have hf : fuseT M (P.drop j) = fuseT L P := hf
      have hl1 := hL.1
      have ek : IntKind.i64.wrap ((j : Int) + 1) = ((j + 1 : Nat) : Int) := by rw [w64 (by omega) (by omega)]; omega
      have hz : (zeroP M (rowAt P j)).length = L.length := by rw [zeroP_len, hn]
      refine Or.elim (Bool.eq_false_or_eq_true (decide ((↑j : Int) < (↑P.length : Int)))) (fun d1 => ⟨[true], .inl ⟨(j + 1, fuT M (rowAt P j)), [L.length = L.length, P.length = P.length ∧ (fun i => [rI IntKind.i64 (P.getD i [])]) = fun i => [rI IntKind.i64 (P.getD i [])], (↑P.length : Int) = (↑P.length : Int), IntKind.i64.wrap ((↑j : Int) + (1 : Int)) = (↑(j + (1 : Nat)) : Int), updT (zeroP M (rowAt P j)) ((rowAt P j).getD (Int.toNat (0 : Int)) (0 : Int)).toNat ((sumT M (rowAt P j)).tmod (8 : Int)) = fuT M (rowAt P j), ((rowAt P j).getD (Int.toNat (0 : Int)) (0 : Int)).toNat < (zeroP M (rowAt P j)).length, (0 : Int) ≤ (rowAt P j).getD (Int.toNat (0 : Int)) (0 : Int) ∧ (rowAt P j).getD (Int.toNat (0 : Int)) (0 : Int) < (↑L.length : Int), (8 : Int) ≠ (0 : Int), (0 : Int) ≤ (0 : Int) ∧ (0 : Int) < (↑(rowAt P j).length : Int), L.length = L.length, P.length = P.length ∧ (fun i => [rI IntKind.i64 (P.getD i [])]) = fun i => [rI IntKind.i64 (P.getD i [])], (↑P.length : Int) = (↑P.length : Int), (↑j : Int) = (↑j : Int), (P.getD j []).length = (rowAt P j).length ∧ (fun j_1 => [RV.int IntKind.i64 ((P.getD j []).getD j_1 (0 : Int))]) = fun j_1 => [RV.int IntKind.i64 ((rowAt P j).getD j_1 (0 : Int))], (P.getD j []).length = (rowAt P j).length ∧ (fun j_1 => [RV.int IntKind.i64 ((P.getD j []).getD j_1 (0 : Int))]) = fun j_1 => [RV.int IntKind.i64 ((rowAt P j).getD j_1 (0 : Int))], (↑(P.getD j []).length : Int) = (↑(rowAt P j).length : Int), M = M, (0 : Int) ≤ (↑j : Int) ∧ (↑j : Int) < (↑P.length : Int), Dec (decide ((↑j : Int) < (↑P.length : Int))) true], by kernel_rfl, ⟨?_, ?_, ?_, ?_, ?_, ?_, ?_, ?_, ?_, ?_, ?_, ?_, ?_, ?_, ?_, ?_, ?_, ?_, d1⟩, MuG.out ?_, InG.out ?_⟩⟩)
           (fun d1 => ⟨[false], .inr ⟨[L.length = L.length, M = fuseT L P, Dec (decide ((↑j : Int) < (↑P.length : Int))) false], by kernel_rfl, ⟨?_, ?_, d1⟩, rfl⟩⟩)
      all_goals first | (refine MuG.mk ?_; (simp only [decide_eq_true_eq] at *; show P.length - (j + 1) < P.length - j; omega)) | (refine InG.mk ?_; (simp only [decide_eq_true_eq] at *; have h0 := hP _ (rowAt_mem (P := P) (t := j) (by omega)); exact ⟨by omega, fuT_ok hM (by rw [hn]; exact h0.2.1) h0.1, by rw [fuT_len, hn], by rw [← fuseT_drop (by omega)]; exact hf⟩)) | (refine CtG.mk ?_; (simp_all)) | (first | (with_reducible rfl) | exact ⟨rfl, rfl⟩ | decide | ((try simp only [ek, Int.toNat_natCast, Int.toNat_zero, decide_eq_true_eq, decide_eq_false_iff_not] at *) <;> first | omega | (have h0 := hP _ (rowAt_mem (P := P) (t := j) (by omega)); have h1 : 0 < (rowAt P j).length := List.length_pos_iff.2 h0.1; first | omega | (have h2 := h0.2.1.at (t := 0) h1; omega) | (have h3 := (sumT_b hM (l := rowAt P j) (by rw [hn]; exact h0.2.1)).1; unfold fuT; rw [← Int.tmod_eq_emod_of_nonneg h3]; rfl)) | (rw [List.drop_eq_nil_of_le (by omega)] at hf; exact hf)))
set_option maxRecDepth 100000 in
theorem tfuse_yes (L : List Con) (hL : okL L) (hv : val2M 2 L = true) (hne : 0 < L.length) : PureC Tryz.prog [] 26 [.agg [.int .i64 2, roC L]] (.tup [.agg [.int .i64 2, roC (fuseM L)], .bool true]) := by
  have hl := hL.1; have k1 : val2M 2 (consR L.length fun i => (L.getD i Con.zero).rvs) = true := (by rw [consR_ro]; exact hv); have k2 : L.length.beq 0 = false := (by cases h : L.length.beq 0 with | false => rfl | true => have := Nat.eq_of_beq_eq_true h; omega)
  have rr := fun (tp : List Bool) (ms : List Prop) h hm => pure_run evOk (callF_ok evOk (orcOf_ok entsVW_ok) 8) Tryz.func26 (A := [.agg [.int .i64 2, roC L]]) (N := Nat.max 1 Tryz.f26.ntmps) rfl (one_ann (tf_out L (partsM L) hL parts_rows (Nat.le_trans parts_len hL.1))) rfl rfl evNg (tabs := []) (R := .tup [.agg [.int .i64 2, roC (fuseM L)], .bool true]) (tp := tp) (ms := ms) h hm
  refine rr [false, false] [(2 : Int) = (2 : Int), L.length = (fuseM L).length ∧ L.length = (fuseT L (partsM L)).length ∧ ∀ (i : Nat), i < L.length → (fun i => ((fuseM L).getD i Con.zero).rvs) i = ((fuseT L (partsM L)).getD i Con.zero).rvs, true = true, L.length = L.length, (partsM (consR L.length fun i => (L.getD i Con.zero).rvs)).length = (partsM L).length ∧ (fun i => [rI IntKind.i64 ((partsM (consR L.length fun i => (L.getD i Con.zero).rvs)).getD i [])]) = fun i => [rI IntKind.i64 ((partsM L).getD i [])], (↑(partsM (consR L.length fun i => (L.getD i Con.zero).rvs)).length : Int) = (↑(partsM L).length : Int), (consR L.length fun i => (L.getD i Con.zero).rvs) = L, (∀ (i : Nat), i < L.length → (fun i => (L.getD i Con.zero).rvs) i = (Con.ofR ((fun i => (L.getD i Con.zero).rvs) i)).rvs) ∧ okE (consR L.length fun i => (L.getD i Con.zero).rvs), (0 : Nat) < L.length ∧ L.length ≤ (1000000 : Nat), ∀ (i : Nat), i < L.length → (fun i => (L.getD i Con.zero).rvs) i = (Con.ofR ((fun i => (L.getD i Con.zero).rvs) i)).rvs, Dec (L.length.beq (0 : Nat)) false, (0 : Nat) < L.length, Dec (!val2M (2 : Int) (consR L.length fun i => (L.getD i Con.zero).rvs)) false, (∀ (i : Nat), i < L.length → (fun i => (L.getD i Con.zero).rvs) i = (Con.ofR ((fun i => (L.getD i Con.zero).rvs) i)).rvs) ∧ L.length ≤ (1000 : Nat)] (by kernel_rfl) ⟨?_, ?_, ?_, ?_, ?_, ?_, ?_, ?_, ?_, ?_, k2, ?_, (dN k1), (?_ : (∀ (i : Nat), i < L.length → (fun i => (L.getD i Con.zero).rvs) i = (Con.ofR ((fun i => (L.getD i Con.zero).rvs) i)).rvs) ∧ L.length ≤ (1000 : Nat))⟩
  all_goals first | (first | (with_reducible rfl) | exact ⟨rfl, rfl⟩ | (rw [← fuseT_parts]; exact ⟨by rw [fuseT_parts, fuseM_len], by rw [fuseT_parts, fuseM_len], fun _ _ => rfl⟩) | exact consR_ro L | (rw [consR_ro]; first | done | rfl | exact ⟨rfl, rfl⟩) | exact ⟨hne, by omega⟩ | exact hne | exact fun _ _ => rfl | exact ⟨fun _ _ => rfl, by rw [consR_ro]; exact hL.e⟩ | exact ⟨fun _ _ => rfl, hl⟩)
theorem walkG_drop {x y : Int} {M : List Con} {P : List (List Int)} {j : Nat} (hj : j < P.length) : walkG x y M (P.drop j) = walkG x y (bif hasI x (rowAt P j) || hasI y (rowAt P j) then add4 M ((rowAt P j).getD 0 0) else M) (P.drop (j + 1)) := by
  rw [drop_row hj]; rfl
def wkT (x y : Int) (M : List Con) (l : List Int) : List Con := bif hasI x l || hasI y l then add4 M (l.getD 0 0) else M
theorem wkT_len {x y : Int} {M : List Con} {l : List Int} : (wkT x y M l).length = M.length := by unfold wkT; cases (hasI x l || hasI y l) <;> simp only [cond_true, cond_false, add4_len]
theorem wkT_ok {x y : Int} {M : List Con} (h : okL M) {l : List Int} (hl : inR M.length l) (hne : l ≠ []) : okL (wkT x y M l) := by
  unfold wkT
  cases (hasI x l || hasI y l)
  · exact h
  · exact add4_ok h (hl.at (List.length_pos_iff.2 hne))
theorem wkT_1 {x y : Int} {M : List Con} {l : List Int} (h : hasI x l = true) : wkT x y M l = add4 M (l.getD 0 0) := by unfold wkT; rw [h]; rfl
theorem wkT_2 {x y : Int} {M : List Con} {l : List Int} (h : hasI y l = true) : wkT x y M l = add4 M (l.getD 0 0) := by unfold wkT; rw [h, Bool.or_true]; rfl
theorem wkT_3 {x y : Int} {M : List Con} {l : List Int} (h : hasI x l = false) (h2 : hasI y l = false) : wkT x y M l = M := by unfold wkT; rw [h, h2]; rfl
noncomputable def twAnn (k : Nat) (L M0 : List Con) (P : List (List Int)) : Ann := ⟨⟨[(1, .vint .i64 (k : Int)), (4, .ptr 1001 0), (5, .lo 1003 L.length), (35, (roR .i64 P).av), (36, .vint .i64 P.length), (37, .int .i64 0)], tfH L.length M0, 1030⟩, none, fun _ =>
  (.exit 0, ⟨[(4, .ptr 1001 0), (5, .lo 1003 L.length)], tfH L.length (walkG ((k : Int) - 1) k M0 P), 1030⟩)⟩
set_option maxRecDepth 100000 in
theorem tw_loop (k : Nat) (L M0 : List Con) (P : List (List Int)) (hL : okL M0) (hn0 : M0.length = L.length) (h1 : 1 ≤ k) (h2 : k < L.length) (hP : ∀ l ∈ P, l ≠ [] ∧ inR L.length l ∧ l.length ≤ L.length) (hm : P.length ≤ 1000) : AnnOk Tryz.prog EV.ng (Nat.max 2 Tryz.f28.ntmps) (bodyAt Tryz.f28 [0, 1, 0, 1, 1, 1, 1]) (twAnn k L M0 P) := by
  refine ann_of evOk (callF_ok evOk (orcOf_ok entsVC_ok) 8) none_ann (by kernel_rfl) (by kernel_rfl) (fun i : Nat × List Con => (fun (j : Nat) (M : List Con) => (⟨[(1, .vint .i64 (k : Int)), (4, .ptr 1001 0), (5, .lo 1003 L.length), (35, (roR .i64 P).av), (36, .vint .i64 P.length), (37, .vint .i64 (j : Int))], tfH L.length M, 1030⟩ : St)) i.1 i.2) (fun i : Nat × List Con => (fun (j : Nat) (M : List Con) => (P.length - j : Nat)) i.1 i.2) (fun (d : Bool) (i : Nat × List Con) => (fun (j : Nat) (M : List Con) => (j ≤ P.length ∧ okL M ∧ M.length = L.length ∧ walkG ((k : Int) - 1) k M (P.drop j) = walkG ((k : Int) - 1) k M0 P : Prop)) i.1 i.2) ?_ ?_
  · intro d hd
    exact ⟨(0, M0), [(↑k : Int) = (↑k : Int), L.length = L.length, P.length = P.length ∧ (fun i => [rI IntKind.i64 (P.getD i [])]) = fun i => [rI IntKind.i64 (P.getD i [])], (↑P.length : Int) = (↑P.length : Int), (0 : Int) = (↑(0 : Nat) : Int), M0 = M0], by kernel_rfl, (by refine ⟨?_, ?_, ?_, ?_, ?_, (?_ : M0 = M0)⟩ <;> (first | rfl | assumption | omega | simp_all)), (by exact ⟨Nat.zero_le _, hL, hn0, rfl⟩)⟩
  · rintro d hd ⟨j, M⟩ hI
    cases d
    · -- d = false
      exact Bool.noConfusion (show false = true from hd)
    · -- d = true
      obtain ⟨ht, hM, hn, hf⟩ := hI
      have ht : j ≤ P.length := ht
      have hM : okL M := hM
      have hn : M.length = L.length := hn
      have hf : walkG ((k : Int) - 1) k M (P.drop j) = walkG ((k : Int) - 1) k M0 P := hf
      have hl1 := hL.1
      have ek : IntKind.i64.wrap ((j : Int) + 1) = ((j + 1 : Nat) : Int) := by rw [w64 (by omega) (by omega)]; omega
      have em : IntKind.i64.wrap ((k : Int) - 1) = (k : Int) - 1 := w64 (by omega) (by omega)
      refine Or.elim (Bool.eq_false_or_eq_true (decide ((↑j : Int) < (↑P.length : Int)))) (fun d1 => Or.elim (Bool.eq_false_or_eq_true (hasI (IntKind.i64.wrap ((↑k : Int) - (1 : Int))) (intsR (P.getD j []).length fun j_1 => [RV.int IntKind.i64 ((P.getD j []).getD j_1 (0 : Int))]))) (fun d2 => ⟨[true, true], .inl ⟨(j + 1, wkT ((k : Int) - 1) k M (rowAt P j)), [(↑k : Int) = (↑k : Int), L.length = L.length, P.length = P.length ∧ (fun i => [rI IntKind.i64 (P.getD i [])]) = fun i => [rI IntKind.i64 (P.getD i [])], (↑P.length : Int) = (↑P.length : Int), IntKind.i64.wrap ((↑j : Int) + (1 : Int)) = (↑(j + (1 : Nat)) : Int), updT M ((P.getD j []).getD (Int.toNat (0 : Int)) (0 : Int)).toNat ((IntKind.i64.wrap ((M.getD ((P.getD j []).getD (Int.toNat (0 : Int)) (0 : Int)).toNat Con.zero).oddity + (4 : Int))).tmod (8 : Int)) = wkT ((↑k : Int) - (1 : Int)) (↑k : Int) M (rowAt P j), ((P.getD j []).getD (Int.toNat (0 : Int)) (0 : Int)).toNat < M.length, (0 : Int) ≤ (P.getD j []).getD (Int.toNat (0 : Int)) (0 : Int) ∧ (P.getD j []).getD (Int.toNat (0 : Int)) (0 : Int) < (↑L.length : Int), (8 : Int) ≠ (0 : Int), ((P.getD j []).getD (Int.toNat (0 : Int)) (0 : Int)).toNat < M.length, (0 : Int) ≤ (P.getD j []).getD (Int.toNat (0 : Int)) (0 : Int) ∧ (P.getD j []).getD (Int.toNat (0 : Int)) (0 : Int) < (↑L.length : Int), (0 : Int) ≤ (0 : Int) ∧ (0 : Int) < (↑(P.getD j []).length : Int), Dec (hasI (IntKind.i64.wrap ((↑k : Int) - (1 : Int))) (intsR (P.getD j []).length fun j_1 => [RV.int IntKind.i64 ((P.getD j []).getD j_1 (0 : Int))])) true, (∀ (i : Nat), i < (P.getD j []).length → (fun j_1 => [RV.int IntKind.i64 ((P.getD j []).getD j_1 (0 : Int))]) i = [RV.int IntKind.i64 (intR ((fun j_1 => [RV.int IntKind.i64 ((P.getD j []).getD j_1 (0 : Int))]) i))]) ∧ (P.getD j []).length ≤ (1000 : Nat), (0 : Int) ≤ (↑j : Int) ∧ (↑j : Int) < (↑P.length : Int), Dec (decide ((↑j : Int) < (↑P.length : Int))) true], by kernel_rfl, ⟨?_, ?_, ?_, ?_, ?_, ?_, ?_, ?_, ?_, ?_, ?_, ?_, d2, ?_, ?_, d1⟩, MuG.out ?_, InG.out ?_⟩⟩)
           (fun d2 => Or.elim (Bool.eq_false_or_eq_true (hasI (↑k : Int) (intsR (P.getD j []).length fun j_1 => [RV.int IntKind.i64 ((P.getD j []).getD j_1 (0 : Int))]))) (fun d3 => ⟨[true, false, true], .inl ⟨(j + 1, wkT ((k : Int) - 1) k M (rowAt P j)), [(↑k : Int) = (↑k : Int), L.length = L.length, P.length = P.length ∧ (fun i => [rI IntKind.i64 (P.getD i [])]) = fun i => [rI IntKind.i64 (P.getD i [])], (↑P.length : Int) = (↑P.length : Int), IntKind.i64.wrap ((↑j : Int) + (1 : Int)) = (↑(j + (1 : Nat)) : Int), updT M ((P.getD j []).getD (Int.toNat (0 : Int)) (0 : Int)).toNat ((IntKind.i64.wrap ((M.getD ((P.getD j []).getD (Int.toNat (0 : Int)) (0 : Int)).toNat Con.zero).oddity + (4 : Int))).tmod (8 : Int)) = wkT ((↑k : Int) - (1 : Int)) (↑k : Int) M (rowAt P j), ((P.getD j []).getD (Int.toNat (0 : Int)) (0 : Int)).toNat < M.length, (0 : Int) ≤ (P.getD j []).getD (Int.toNat (0 : Int)) (0 : Int) ∧ (P.getD j []).getD (Int.toNat (0 : Int)) (0 : Int) < (↑L.length : Int), (8 : Int) ≠ (0 : Int), ((P.getD j []).getD (Int.toNat (0 : Int)) (0 : Int)).toNat < M.length, (0 : Int) ≤ (P.getD j []).getD (Int.toNat (0 : Int)) (0 : Int) ∧ (P.getD j []).getD (Int.toNat (0 : Int)) (0 : Int) < (↑L.length : Int), (0 : Int) ≤ (0 : Int) ∧ (0 : Int) < (↑(P.getD j []).length : Int), Dec (hasI (↑k : Int) (intsR (P.getD j []).length fun j_1 => [RV.int IntKind.i64 ((P.getD j []).getD j_1 (0 : Int))])) true, (∀ (i : Nat), i < (P.getD j []).length → (fun j_1 => [RV.int IntKind.i64 ((P.getD j []).getD j_1 (0 : Int))]) i = [RV.int IntKind.i64 (intR ((fun j_1 => [RV.int IntKind.i64 ((P.getD j []).getD j_1 (0 : Int))]) i))]) ∧ (P.getD j []).length ≤ (1000 : Nat), Dec (hasI (IntKind.i64.wrap ((↑k : Int) - (1 : Int))) (intsR (P.getD j []).length fun j_1 => [RV.int IntKind.i64 ((P.getD j []).getD j_1 (0 : Int))])) false, (∀ (i : Nat), i < (P.getD j []).length → (fun j_1 => [RV.int IntKind.i64 ((P.getD j []).getD j_1 (0 : Int))]) i = [RV.int IntKind.i64 (intR ((fun j_1 => [RV.int IntKind.i64 ((P.getD j []).getD j_1 (0 : Int))]) i))]) ∧ (P.getD j []).length ≤ (1000 : Nat), (0 : Int) ≤ (↑j : Int) ∧ (↑j : Int) < (↑P.length : Int), Dec (decide ((↑j : Int) < (↑P.length : Int))) true], by kernel_rfl, ⟨?_, ?_, ?_, ?_, ?_, ?_, ?_, ?_, ?_, ?_, ?_, ?_, d3, ?_, d2, ?_, ?_, d1⟩, MuG.out ?_, InG.out ?_⟩⟩)
           (fun d3 => ⟨[true, false, false], .inl ⟨(j + 1, wkT ((k : Int) - 1) k M (rowAt P j)), [(↑k : Int) = (↑k : Int), L.length = L.length, P.length = P.length ∧ (fun i => [rI IntKind.i64 (P.getD i [])]) = fun i => [rI IntKind.i64 (P.getD i [])], (↑P.length : Int) = (↑P.length : Int), IntKind.i64.wrap ((↑j : Int) + (1 : Int)) = (↑(j + (1 : Nat)) : Int), M = wkT ((↑k : Int) - (1 : Int)) (↑k : Int) M (rowAt P j), Dec (hasI (↑k : Int) (intsR (P.getD j []).length fun j_1 => [RV.int IntKind.i64 ((P.getD j []).getD j_1 (0 : Int))])) false, (∀ (i : Nat), i < (P.getD j []).length → (fun j_1 => [RV.int IntKind.i64 ((P.getD j []).getD j_1 (0 : Int))]) i = [RV.int IntKind.i64 (intR ((fun j_1 => [RV.int IntKind.i64 ((P.getD j []).getD j_1 (0 : Int))]) i))]) ∧ (P.getD j []).length ≤ (1000 : Nat), Dec (hasI (IntKind.i64.wrap ((↑k : Int) - (1 : Int))) (intsR (P.getD j []).length fun j_1 => [RV.int IntKind.i64 ((P.getD j []).getD j_1 (0 : Int))])) false, (∀ (i : Nat), i < (P.getD j []).length → (fun j_1 => [RV.int IntKind.i64 ((P.getD j []).getD j_1 (0 : Int))]) i = [RV.int IntKind.i64 (intR ((fun j_1 => [RV.int IntKind.i64 ((P.getD j []).getD j_1 (0 : Int))]) i))]) ∧ (P.getD j []).length ≤ (1000 : Nat), (0 : Int) ≤ (↑j : Int) ∧ (↑j : Int) < (↑P.length : Int), Dec (decide ((↑j : Int) < (↑P.length : Int))) true], by kernel_rfl, ⟨?_, ?_, ?_, ?_, ?_, ?_, d3, ?_, d2, ?_, ?_, d1⟩, MuG.out ?_, InG.out ?_⟩⟩)))
           (fun d1 => ⟨[false], .inr ⟨[L.length = L.length, M = walkG ((↑k : Int) - (1 : Int)) (↑k : Int) M0 P, Dec (decide ((↑j : Int) < (↑P.length : Int))) false], by kernel_rfl, ⟨?_, ?_, d1⟩, rfl⟩⟩)
      all_goals first | (refine MuG.mk ?_; (simp only [decide_eq_true_eq] at *; show P.length - (j + 1) < P.length - j; omega)) | (refine InG.mk ?_; (simp only [decide_eq_true_eq] at *; have h0 := hP _ (rowAt_mem (P := P) (t := j) (by omega)); exact ⟨by omega, wkT_ok hM (by rw [hn]; exact h0.2.1) h0.1, by rw [wkT_len, hn], by rw [walkG_drop (by omega)] at hf; exact hf⟩)) | (refine CtG.mk ?_; (simp_all)) | (first | (with_reducible rfl) | exact ⟨rfl, rfl⟩ | decide | ((try simp only [ek, em, intsR_ro, Int.toNat_natCast, Int.toNat_zero, decide_eq_true_eq, decide_eq_false_iff_not] at *) <;> first | omega | (rw [wkT_3 (by assumption) (by assumption)]; done) | (rw [List.drop_eq_nil_of_le (by omega)] at hf; exact hf) | (have h0 := hP _ (rowAt_mem (P := P) (t := j) (by omega)); have h3 : 0 < (rowAt P j).length := List.length_pos_iff.2 h0.1; have h5 : 0 ≤ (P.getD j []).getD 0 0 ∧ (P.getD j []).getD 0 0 < (L.length : Int) := h0.2.1.at (t := 0) h3; have h6 : (P.getD j []).length ≤ L.length := h0.2.2; have h7 : 0 < (P.getD j []).length := h3; first | omega | exact ⟨fun _ _ => rfl, by omega⟩ | (have h4 := add4_raw hM (i := (rowAt P j).getD 0 0) (by rw [hn]; exact h5); first | (rw [wkT_1 (by assumption)]; exact h4) | (rw [wkT_2 (by assumption)]; exact h4)))))
set_option maxRecDepth 100000 in
theorem twalk_pure (L : List Con) (k : Nat) (hL : okL L) (h1 : 1 ≤ k) (h2 : k < L.length) : PureC Tryz.prog [] 28 [.agg [.int .i64 2, roC L], .int .i64 (k : Int)] (.agg [.int .i64 2, roC (stepM L k)]) := by
  have hl := hL.1; have k2 : L.length.beq 0 = false := (by cases h : L.length.beq 0 with | false => rfl | true => have := Nat.eq_of_beq_eq_true h; omega); have em : IntKind.i64.wrap ((k : Int) - 1) = (k : Int) - 1 := w64 (by omega) (by omega); have et : ((k : Int) - 1).toNat = k - 1 := (by omega); have e1 := flip_raw hL (k := k - 1) (by omega); have e2 := flip_raw (flipS_ok hL (i := k - 1) (by omega)) (k := k) (by rw [flipS_len]; omega); have l1 : (flipS L (k - 1)).length = L.length := flipS_len; have hw : walkG ((k : Int) - 1) (k : Int) (flipS (flipS L (k - 1)) k) (partsM L) = stepM L k := walkM_eq h1 h2
  have rr := fun (tp : List Bool) (ms : List Prop) h hm => pure_run evOk (callF_ok evOk (orcOf_ok entsVC_ok) 8) Tryz.func28 (A := [.agg [.int .i64 2, roC L], .int .i64 (k : Int)]) (N := Nat.max 1 Tryz.f28.ntmps) rfl (one_ann (tw_loop k L (flipS (flipS L (k - 1)) k) (partsM L) (flipS_ok (flipS_ok hL (by omega)) (by rw [flipS_len]; omega)) (by rw [flipS_len, flipS_len]) h1 h2 parts_rows (Nat.le_trans parts_len hL.1))) rfl rfl evNg (tabs := []) (R := .agg [.int .i64 2, roC (stepM L k)]) (tp := tp) (ms := ms) h hm
  refine rr [false] [(2 : Int) = (2 : Int), L.length = (stepM L k).length ∧ L.length = (walkG ((↑k : Int) - (1 : Int)) (↑k : Int) (flipS (flipS L (k - (1 : Nat))) k) (partsM L)).length ∧ ∀ (i : Nat), i < L.length → (fun i => ((stepM L k).getD i Con.zero).rvs) i = ((walkG ((↑k : Int) - (1 : Int)) (↑k : Int) (flipS (flipS L (k - (1 : Nat))) k) (partsM L)).getD i Con.zero).rvs, (↑k : Int) = (↑k : Int), L.length = L.length, (partsM (consR L.length fun i => (L.getD i Con.zero).rvs)).length = (partsM L).length ∧ (fun i => [rI IntKind.i64 ((partsM (consR L.length fun i => (L.getD i Con.zero).rvs)).getD i [])]) = fun i => [rI IntKind.i64 ((partsM L).getD i [])], (↑(partsM (consR L.length fun i => (L.getD i Con.zero).rvs)).length : Int) = (↑(partsM L).length : Int), updS (updS (consR L.length fun i => (L.getD i Con.zero).rvs) (IntKind.i64.wrap ((↑k : Int) - (1 : Int))).toNat (IntKind.i64.wrap ((0 : Int) - ((consR L.length fun i => (L.getD i Con.zero).rvs).getD (IntKind.i64.wrap ((↑k : Int) - (1 : Int))).toNat Con.zero).sign))) k (IntKind.i64.wrap ((0 : Int) - ((updS (consR L.length fun i => (L.getD i Con.zero).rvs) (IntKind.i64.wrap ((↑k : Int) - (1 : Int))).toNat (IntKind.i64.wrap ((0 : Int) - ((consR L.length fun i => (L.getD i Con.zero).rvs).getD (IntKind.i64.wrap ((↑k : Int) - (1 : Int))).toNat Con.zero).sign))).getD k Con.zero).sign)) = flipS (flipS L (k - (1 : Nat))) k, (∀ (i : Nat), i < L.length → (fun i => (L.getD i Con.zero).rvs) i = (Con.ofR ((fun i => (L.getD i Con.zero).rvs) i)).rvs) ∧ okE (consR L.length fun i => (L.getD i Con.zero).rvs), k < (updS (consR L.length fun i => (L.getD i Con.zero).rvs) (IntKind.i64.wrap ((↑k : Int) - (1 : Int))).toNat (IntKind.i64.wrap ((0 : Int) - ((consR L.length fun i => (L.getD i Con.zero).rvs).getD (IntKind.i64.wrap ((↑k : Int) - (1 : Int))).toNat Con.zero).sign))).length, (0 : Int) ≤ (↑k : Int) ∧ (↑k : Int) < (↑L.length : Int), k < (updS (consR L.length fun i => (L.getD i Con.zero).rvs) (IntKind.i64.wrap ((↑k : Int) - (1 : Int))).toNat (IntKind.i64.wrap ((0 : Int) - ((consR L.length fun i => (L.getD i Con.zero).rvs).getD (IntKind.i64.wrap ((↑k : Int) - (1 : Int))).toNat Con.zero).sign))).length, (0 : Int) ≤ (↑k : Int) ∧ (↑k : Int) < (↑L.length : Int), (IntKind.i64.wrap ((↑k : Int) - (1 : Int))).toNat < (consR L.length fun i => (L.getD i Con.zero).rvs).length, (0 : Int) ≤ IntKind.i64.wrap ((↑k : Int) - (1 : Int)) ∧ IntKind.i64.wrap ((↑k : Int) - (1 : Int)) < (↑L.length : Int), (IntKind.i64.wrap ((↑k : Int) - (1 : Int))).toNat < (consR L.length fun i => (L.getD i Con.zero).rvs).length, (0 : Int) ≤ IntKind.i64.wrap ((↑k : Int) - (1 : Int)) ∧ IntKind.i64.wrap ((↑k : Int) - (1 : Int)) < (↑L.length : Int), (0 : Nat) < L.length ∧ L.length ≤ (1000000 : Nat), ∀ (i : Nat), i < L.length → (fun i => (L.getD i Con.zero).rvs) i = (Con.ofR ((fun i => (L.getD i Con.zero).rvs) i)).rvs, Dec (L.length.beq (0 : Nat)) false, (0 : Nat) < L.length] (by kernel_rfl) ⟨?_, ?_, ?_, ?_, ?_, ?_, ?_, ?_, ?_, ?_, ?_, ?_, ?_, ?_, ?_, ?_, ?_, ?_, k2, (?_ : (0 : Nat) < L.length)⟩
  all_goals first | (first | (with_reducible rfl) | exact ⟨rfl, rfl⟩ | exact fun _ _ => rfl | exact ⟨by omega, by omega⟩ | ((try simp only [consR_ro, em, et, Int.toNat_natCast, e1, e2, hw]) <;> first | done | omega | exact ⟨stepM_len.symm, stepM_len.symm, fun _ _ => rfl⟩ | exact ⟨stepM_len.symm, stepM_len.symm, fun _ _ => trivial⟩ | exact ⟨rfl, rfl⟩ | exact ⟨by trivial, by trivial⟩ | exact ⟨fun _ _ => rfl, hL.e⟩ | (rw [consR_ro]; exact ⟨rfl, rfl⟩)))
end Go.Proofs.YtkkmlbhmcdoibaaGreatDoor.S

namespace Go.Proofs.YtkkmlbhmcdoibaaGreatDoor.S
open Go.QfSy Go.RowKit
theorem val2_p {p : Int} {L : List Con} (h : val2M p L = true) : p = 2 := by
  unfold val2M at h
  simp only [Bool.and_eq_true, beq_iff_eq] at h
  exact h.1
end Go.Proofs.YtkkmlbhmcdoibaaGreatDoor.S

namespace Go.Proofs.YtkkmlbhmcdoibaaGreatDoor.S
open Go.QfSy Go.RowKit
def bP (v : Bool) : Int := bif v then 2 else 0
def bL (v : Bool) (M : List Con) : List Con := bif v then M else []
end Go.Proofs.YtkkmlbhmcdoibaaGreatDoor.S

namespace Go.Proofs.YtkkmlbhmcdoibaaGreatDoor.S
open Go.QfSy Go.RowKit
theorem canG_end {M : List Con} {k : Nat} (h : ¬ 1 ≤ k) : canG M k = M := by
  have : k = 0 := by omega
  subst this; rfl
theorem canG_no {M : List Con} {k : Nat} (h : 1 ≤ k) (hs : ((at_ M k).sign == -1 && linkM M k) = false) : canG M (k - 1) = canG M k := by
  obtain ⟨j, rfl⟩ : ∃ j, k = j + 1 := ⟨k - 1, by omega⟩
  show canG M j = canG (canS M (j + 1)) j
  rw [canS, hs]; rfl
theorem canG_yes {M : List Con} {k : Nat} (h : 1 ≤ k) (hs : ((at_ M k).sign == -1 && linkM M k) = true) : canG (stepM M k) (k - 1) = canG M k := by
  obtain ⟨j, rfl⟩ : ∃ j, k = j + 1 := ⟨k - 1, by omega⟩
  show canG (stepM M (j + 1)) j = canG (canS M (j + 1)) j
  rw [canS, hs]; rfl
end Go.Proofs.YtkkmlbhmcdoibaaGreatDoor.S

namespace Go.Proofs.YtkkmlbhmcdoibaaGreatDoor.S
open Go.QfSy Go.RowKit
end Go.Proofs.YtkkmlbhmcdoibaaGreatDoor.S

namespace Go.Proofs.YtkkmlbhmcdoibaaGreatDoor.S
open Go.QfSy Go.RowKit
end Go.Proofs.YtkkmlbhmcdoibaaGreatDoor.S

namespace Go.Proofs.YtkkmlbhmcdoibaaGreatDoor.S
open Go.QfSy Go.RowKit
noncomputable def entsVK : List OEnt := [
  ⟨28, [], fun A => match A with
    | [.agg [.int .i64 p, .sl n 5 row], .int .i64 a] => some (.agg [.int .i64 2, roC (stepM (consR n row) a.toNat)], [(∀ i, i < n → row i = (Con.ofR (row i)).rvs) ∧ p = 2 ∧ okL (consR n row) ∧ 1 ≤ a ∧ a < (n : Int)])
    | _ => none⟩,
  ⟨27, [], fun A => match A with
    | [.agg [.int .i64 p, .sl n 5 row], .int .i64 a] => some (.bool (linkM (consR n row) a.toNat), [(∀ i, i < n → row i = (Con.ofR (row i)).rvs) ∧ okL (consR n row) ∧ 1 ≤ a ∧ a < (n : Int)])
    | _ => none⟩,
  ⟨26, [], fun A => match A with
    | [.agg [.int .i64 p, .sl n 5 row]] => some (.tup [.agg [.int .i64 2, roC (fuseM (consR n row))], .bool true], [(∀ i, i < n → row i = (Con.ofR (row i)).rvs) ∧ p = 2 ∧ okL (consR n row) ∧ val2M 2 (consR n row) = true ∧ 0 < n])
    | _ => none⟩]
theorem entsVK_ok : ∀ e ∈ entsVK, EntOk Tryz.prog e := by
  intro e he
  simp only [entsVK, List.mem_cons, List.not_mem_nil, or_false] at he
  rcases he with rfl | rfl | rfl
  all_goals
    intro A R ms h hm
    simp only at h
    split at h
    all_goals first | (cases h; done) | cases h
  · obtain ⟨h1, h2, h3, h4, h5⟩ := all_one hm
    rename_i a
    subst h2
    have e : ((a.toNat : Nat) : Int) = a := by omega
    have := twalk_pure _ a.toNat h3 (by omega) (by rw [consR_len]; omega)
    rw [e] at this
    exact PureC.imp this (.cons (.agg (.cons .same (.cons (.con h1) .nil))) (.cons .same .nil))
  · obtain ⟨h1, h3, h4, h5⟩ := all_one hm
    rename_i p _ _ a
    have e : ((a.toNat : Nat) : Int) = a := by omega
    have := tlinked_pure p _ a.toNat h3 (by omega) (by rw [consR_len]; omega)
    rw [e] at this
    exact PureC.imp this (.cons (.agg (.cons .same (.cons (.con h1) .nil))) (.cons .same .nil))
  · obtain ⟨h1, h2, h4, h5, h6⟩ := all_one hm
    subst h2
    exact PureC.imp (tfuse_yes _ h4 h5 (by rw [consR_len]; exact h6)) (.cons (.agg (.cons .same (.cons (.con h1) .nil))) .nil)
noncomputable def tcnH (M : List Con) : List (Nat × Blk) := [(1001, ⟨.plain [.int .i64 0, .nils], 30, 0, false, true⟩), (1002, ⟨.plain [.vint .i64 2, (roC M).av], 30, 0, false, true⟩)]
noncomputable def tcnAnn (L : List Con) : Ann := ⟨⟨[(2, .ptr 1001 0), (4, .ptr 1002 0), (6, .vint .i64 (IntKind.i64.wrap (((fuseM L).length : Int) - 1)))], tcnH (fuseM L), 1020⟩, none, fun _ =>
  (.exit 0, ⟨[(2, .ptr 1001 0), (4, .ptr 1002 0)], tcnH (canM L), 1020⟩)⟩
set_option maxRecDepth 100000 in
theorem tcn_loop (L : List Con) (hL : okL (fuseM L)) (hne : 0 < (fuseM L).length) : AnnOk Tryz.prog EV.ng (Nat.max 1 Tryz.f14.ntmps) (bodyAt Tryz.f14 [0, 1, 0, 1, 1, 1]) (tcnAnn L) := by
  refine ann_of evOk (callF_ok evOk (orcOf_ok entsVK_ok) 8) none_ann (by kernel_rfl) (by kernel_rfl) (fun i : Nat × List Con => (fun (k : Nat) (M : List Con) => (⟨[(2, .ptr 1001 0), (4, .ptr 1002 0), (6, .vint .i64 (k : Int))], tcnH M, 1020⟩ : St)) i.1 i.2) (fun i : Nat × List Con => (fun (k : Nat) (M : List Con) => (k : Nat)) i.1 i.2) (fun (d : Bool) (i : Nat × List Con) => (fun (k : Nat) (M : List Con) => (okL M ∧ k < M.length ∧ canG M k = canM L : Prop)) i.1 i.2) ?_ ?_
  · intro d hd
    exact ⟨((fuseM L).length - 1, fuseM L), [IntKind.i64.wrap ((↑(fuseM L).length : Int) - (1 : Int)) = (↑((fuseM L).length - (1 : Nat)) : Int), (2 : Int) = (2 : Int), (fuseM L).length = (fuseM L).length ∧ (fun i => ((fuseM L).getD i Con.zero).rvs) = fun i => ((fuseM L).getD i Con.zero).rvs], by kernel_rfl, (by refine ⟨?_, ?_, (?_ : (fuseM L).length = (fuseM L).length ∧ (fun i => ((fuseM L).getD i Con.zero).rvs) = fun i => ((fuseM L).getD i Con.zero).rvs)⟩ <;> (first | rfl | exact ⟨rfl, rfl⟩ | (have := hL.1; rw [w64 (by omega) (by omega)]; omega))), (by exact ⟨hL, Nat.sub_lt hne (by decide), rfl⟩)⟩
  · rintro d hd ⟨k, M⟩ hI
    cases d
    · -- d = false
      exact Bool.noConfusion (show false = true from hd)
    · -- d = true
      obtain ⟨hM, hk, hc⟩ := hI
      have hl := hM.1
      have ek : IntKind.i64.wrap ((k : Int) - 1) = (k : Int) - 1 := w64 (by omega) (by omega)
      refine Or.elim (Bool.eq_false_or_eq_true (decide ((↑k : Int) > (0 : Int)))) (fun d1 => Or.elim (Bool.eq_false_or_eq_true ((M.getD k Con.zero).sign == (-1 : Int))) (fun d2 => Or.elim (Bool.eq_false_or_eq_true (linkM (consR M.length fun i => (M.getD i Con.zero).rvs) k)) (fun d3 => ⟨[true, true, true], .inl ⟨(k - 1, canS M k), [IntKind.i64.wrap ((↑k : Int) - (1 : Int)) = (↑(k - (1 : Nat)) : Int), (2 : Int) = (2 : Int), (stepM (consR M.length fun i => (M.getD i Con.zero).rvs) k).length = (canS M k).length ∧ (fun i => ((stepM (consR M.length fun i => (M.getD i Con.zero).rvs) k).getD i Con.zero).rvs) = fun i => ((canS M k).getD i Con.zero).rvs, (∀ (i : Nat), i < M.length → (fun i => (M.getD i Con.zero).rvs) i = (Con.ofR ((fun i => (M.getD i Con.zero).rvs) i)).rvs) ∧ (2 : Int) = (2 : Int) ∧ okL (consR M.length fun i => (M.getD i Con.zero).rvs) ∧ (1 : Int) ≤ (↑k : Int) ∧ (↑k : Int) < (↑M.length : Int), Dec (linkM (consR M.length fun i => (M.getD i Con.zero).rvs) k) true, (∀ (i : Nat), i < M.length → (fun i => (M.getD i Con.zero).rvs) i = (Con.ofR ((fun i => (M.getD i Con.zero).rvs) i)).rvs) ∧ okL (consR M.length fun i => (M.getD i Con.zero).rvs) ∧ (1 : Int) ≤ (↑k : Int) ∧ (↑k : Int) < (↑M.length : Int), Dec ((M.getD k Con.zero).sign == (-1 : Int)) true, (0 : Int) ≤ (↑k : Int) ∧ (↑k : Int) < (↑M.length : Int), Dec (decide ((↑k : Int) > (0 : Int))) true], by kernel_rfl, ⟨?_, ?_, ?_, ?_, d3, ?_, d2, ?_, d1⟩, MuG.out ?_, InG.out ?_⟩⟩)
           (fun d3 => ⟨[true, true, false], .inl ⟨(k - 1, canS M k), [IntKind.i64.wrap ((↑k : Int) - (1 : Int)) = (↑(k - (1 : Nat)) : Int), (2 : Int) = (2 : Int), M.length = (canS M k).length ∧ (fun i => (M.getD i Con.zero).rvs) = fun i => ((canS M k).getD i Con.zero).rvs, Dec (linkM (consR M.length fun i => (M.getD i Con.zero).rvs) k) false, (∀ (i : Nat), i < M.length → (fun i => (M.getD i Con.zero).rvs) i = (Con.ofR ((fun i => (M.getD i Con.zero).rvs) i)).rvs) ∧ okL (consR M.length fun i => (M.getD i Con.zero).rvs) ∧ (1 : Int) ≤ (↑k : Int) ∧ (↑k : Int) < (↑M.length : Int), Dec ((M.getD k Con.zero).sign == (-1 : Int)) true, (0 : Int) ≤ (↑k : Int) ∧ (↑k : Int) < (↑M.length : Int), Dec (decide ((↑k : Int) > (0 : Int))) true], by kernel_rfl, ⟨?_, ?_, ?_, d3, ?_, d2, ?_, d1⟩, MuG.out ?_, InG.out ?_⟩⟩))
           (fun d2 => ⟨[true, false], .inl ⟨(k - 1, canS M k), [IntKind.i64.wrap ((↑k : Int) - (1 : Int)) = (↑(k - (1 : Nat)) : Int), (2 : Int) = (2 : Int), M.length = (canS M k).length ∧ (fun i => (M.getD i Con.zero).rvs) = fun i => ((canS M k).getD i Con.zero).rvs, Dec ((M.getD k Con.zero).sign == (-1 : Int)) false, (0 : Int) ≤ (↑k : Int) ∧ (↑k : Int) < (↑M.length : Int), Dec (decide ((↑k : Int) > (0 : Int))) true], by kernel_rfl, ⟨?_, ?_, ?_, d2, ?_, d1⟩, MuG.out ?_, InG.out ?_⟩⟩))
           (fun d1 => ⟨[false], .inr ⟨[(2 : Int) = (2 : Int), M.length = (canM L).length ∧ (fun i => (M.getD i Con.zero).rvs) = fun i => ((canM L).getD i Con.zero).rvs, Dec (decide ((↑k : Int) > (0 : Int))) false], by kernel_rfl, ⟨?_, ?_, d1⟩, rfl⟩⟩)
      all_goals first | (refine MuG.mk ?_; (simp only [decide_eq_true_eq, ge_iff_le, gt_iff_lt] at *; show k - 1 < k; omega)) | (refine InG.mk ?_; (simp only [decide_eq_true_eq, ge_iff_le, gt_iff_lt] at *; refine ⟨canS_ok hM hk, by rw [canS_len]; omega, ?_⟩; rw [← hc]; unfold canS; cases hs : ((at_ M k).sign == -1 && linkM M k) with | true => exact canG_yes (by omega) hs | false => exact canG_no (by omega) hs)) | (refine CtG.mk ?_; (simp_all)) | (first | (with_reducible rfl) | exact ⟨rfl, rfl⟩ | ((try simp only [ek, consR_ro, Int.toNat_natCast, decide_eq_true_eq, decide_eq_false_iff_not, ge_iff_le, gt_iff_lt] at *) <;> first | omega | rfl | exact ⟨fun _ _ => rfl, hM, by omega, by omega⟩ | exact ⟨fun _ _ => rfl, by trivial, hM, by omega, by omega⟩ | (rw [canS, show ((at_ M k).sign == -1 && linkM M k) = true from by simp_all [at_]]; exact ⟨rfl, rfl⟩) | (rw [canS, show ((at_ M k).sign == -1 && linkM M k) = false from by simp_all [at_]]; exact ⟨rfl, rfl⟩) | (rw [← hc, canG_end (by omega)]; exact ⟨rfl, rfl⟩)))
set_option maxRecDepth 100000 in
theorem tcan_yes (L : List Con) (hL : okL L) (hv : val2M 2 L = true) (hne : 0 < L.length) : PureC Tryz.prog [] 14 [.agg [.int .i64 2, roC L]] (.tup [.agg [.int .i64 2, roC (canM L)], .bool true]) := by
  have rr := fun (tp : List Bool) (ms : List Prop) h hm => pure_run evOk (callF_ok evOk (orcOf_ok entsVK_ok) 8) Tryz.func14 (A := [.agg [.int .i64 2, roC L]]) (N := Nat.max 1 Tryz.f14.ntmps) rfl (one_ann (tcn_loop L (fuseM_ok hL) (by rw [fuseM_len]; exact hne))) rfl rfl evNg (tabs := []) (R := .tup [.agg [.int .i64 2, roC (canM L)], .bool true]) (tp := tp) (ms := ms) h hm
  refine rr [false] [(2 : Int) = (2 : Int), (canM L).length = (canM L).length ∧ (fun i => ((canM L).getD i Con.zero).rvs) = fun i => ((canM L).getD i Con.zero).rvs, true = true, IntKind.i64.wrap ((↑(fuseM (consR L.length fun i => (L.getD i Con.zero).rvs)).length : Int) - (1 : Int)) = IntKind.i64.wrap ((↑(fuseM L).length : Int) - (1 : Int)), (2 : Int) = (2 : Int), (fuseM (consR L.length fun i => (L.getD i Con.zero).rvs)).length = (fuseM L).length ∧ (fun i => ((fuseM (consR L.length fun i => (L.getD i Con.zero).rvs)).getD i Con.zero).rvs) = fun i => ((fuseM L).getD i Con.zero).rvs, Dec (!true) false, (∀ (i : Nat), i < L.length → (fun i => (L.getD i Con.zero).rvs) i = (Con.ofR ((fun i => (L.getD i Con.zero).rvs) i)).rvs) ∧ (2 : Int) = (2 : Int) ∧ okL (consR L.length fun i => (L.getD i Con.zero).rvs) ∧ val2M (2 : Int) (consR L.length fun i => (L.getD i Con.zero).rvs) = true ∧ (0 : Nat) < L.length] (by kernel_rfl) ⟨?_, ?_, ?_, ?_, ?_, ?_, (dN rfl), (?_ : (∀ (i : Nat), i < L.length → (fun i => (L.getD i Con.zero).rvs) i = (Con.ofR ((fun i => (L.getD i Con.zero).rvs) i)).rvs) ∧ (2 : Int) = (2 : Int) ∧ okL (consR L.length fun i => (L.getD i Con.zero).rvs) ∧ val2M (2 : Int) (consR L.length fun i => (L.getD i Con.zero).rvs) = true ∧ (0 : Nat) < L.length)⟩
  all_goals first | (first | (with_reducible rfl) | exact ⟨rfl, rfl⟩ | exact ⟨fun _ _ => rfl, rfl, by rw [consR_ro]; exact hL, by rw [consR_ro]; exact hv, hne⟩ | (rw [consR_ro]; first | done | rfl | exact ⟨rfl, rfl⟩))
end Go.Proofs.YtkkmlbhmcdoibaaGreatDoor.S

