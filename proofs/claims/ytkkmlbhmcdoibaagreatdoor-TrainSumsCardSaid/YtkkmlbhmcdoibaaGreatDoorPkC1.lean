/- A part of the proof of TiedTrainSums: AP, AD, SS, TF, TG, TH, TI, RB, RC, TJ, RD, TK, RA, RE, TL, UA, UB, UC, UD, UE, UF, UG, SM, GR, SI, SO, SJ, SU, SV, RW. -/
import Derived.Test.YtkkmlbhmcdoibaaGreatDoorPkBB1
import Derived.Test.YtkkmlbhmcdoibaaGreatDoorPkBB2
import Derived.Test.YtkkmlbhmcdoibaaGreatDoorPkBM3
import Derived.Lib.AppendZerosOnto
import Derived.Lib.Walk
import Derived.WalkKit
set_option linter.unusedSimpArgs false
set_option linter.unusedVariables false
namespace Go.Proofs.YtkkmlbhmcdoibaaGreatDoor.S
open Go.QfSy Go.RowKit
def addOk (c : Con) : Prop := (0 ≤ c.dim ∧ c.dim ≤ 1000) ∧ (c.sign = 1 ∨ c.sign = -1) ∧ (0 ≤ c.oddity ∧ c.oddity ≤ 7)
def joinM (a b : Con) : Con := ⟨a.exp, a.dim + b.dim, a.sign * b.sign, a.odd || b.odd, (a.oddity + b.oddity) % 8⟩
def addM : List Con → List Con → List Con
  | [], B => B
  | a :: A, [] => a :: A
  | a :: A, b :: B => if a.exp < b.exp then a :: addM A (b :: B) else if b.exp < a.exp then b :: addM (a :: A) B else joinM a b :: addM A B
termination_by A B => A.length + B.length
theorem addM_nil (A : List Con) : addM A [] = A := by cases A <;> rw [addM]
theorem addM_len : ∀ (A B : List Con), (addM A B).length ≤ A.length + B.length
  | [], B => by rw [addM]; simp
  | a :: A, [] => by rw [addM]; simp
  | a :: A, b :: B => by
    rw [addM]
    split
    · have := addM_len A (b :: B); simp at this ⊢; omega
    · split
      · have := addM_len (a :: A) B; simp at this ⊢; omega
      · have := addM_len A B; simp at this ⊢; omega
termination_by A B => A.length + B.length
end Go.Proofs.YtkkmlbhmcdoibaaGreatDoor.S

namespace Go.Proofs.YtkkmlbhmcdoibaaGreatDoor.S
open Go.QfSy Go.RowKit
theorem okA {A : List Con} (h : ∀ c ∈ A, addOk c) {k : Nat} (hk : k < A.length) : addOk (at_ A k) := by
  have : at_ A k = A[k] := by simp [at_, hk]
  rw [this]; exact h _ (List.getElem_mem hk)
end Go.Proofs.YtkkmlbhmcdoibaaGreatDoor.S

namespace Go.Proofs.YtkkmlbhmcdoibaaGreatDoor.S
open Go.QfSy Go.RowKit
def insL (x : Con) : List Con → List Con
  | [] => [x]
  | a :: l => if a.exp ≤ x.exp then a :: insL x l else x :: a :: l
def mrg : List Con → List Con → List Con
  | [], B => B
  | a :: A, [] => a :: A
  | a :: A, b :: B => if a.exp ≤ b.exp then a :: mrg A (b :: B) else b :: mrg (a :: A) B
termination_by A B => A.length + B.length
def asc : List Con → Prop
  | [] => True
  | a :: l => (∀ x ∈ l, a.exp < x.exp) ∧ asc l
theorem mrg_nil (A : List Con) : mrg A [] = A := by cases A <;> rw [mrg]
theorem mrg_nil1 (B : List Con) : mrg [] B = B := by rw [mrg]
theorem insL_top {x : Con} : ∀ {l : List Con}, (∀ a ∈ l, a.exp ≤ x.exp) → insL x l = l ++ [x]
  | [], _ => rfl
  | a :: l, h => by rw [insL, if_pos (h a (by simp)), insL_top (fun y hy => h y (by simp [hy]))]; rfl
theorem insL_app {x : Con} {post : List Con} (hq : ∀ a ∈ post, x.exp < a.exp) : ∀ {pre : List Con}, (∀ a ∈ pre, a.exp ≤ x.exp) → insL x (pre ++ post) = pre ++ x :: post
  | [], _ => by
    cases post with
    | nil => rfl
    | cons a l => rw [List.nil_append, insL, if_neg (by have := hq a (by simp); omega)]; rfl
  | a :: pre, h => by rw [List.cons_append, insL, if_pos (h a (by simp)), insL_app hq (fun y hy => h y (by simp [hy]))]; rfl
theorem mrg_snoc {b : Con} : ∀ {A B : List Con}, (∀ x ∈ B, x.exp < b.exp) → insL b (mrg A B) = mrg A (B ++ [b])
  | [], B, h => by rw [mrg_nil1, mrg_nil1, insL_top (fun a ha => by have := h a ha; omega)]
  | a :: A, [], h => by
    rw [mrg_nil, List.nil_append, insL, mrg]
    by_cases hab : a.exp ≤ b.exp
    · rw [if_pos hab, if_pos hab]
      have := mrg_snoc (b := b) (A := A) (B := []) (by simp)
      rw [mrg_nil, List.nil_append] at this
      rw [this]
    · rw [if_neg hab, if_neg hab, mrg_nil]
  | a :: A, c :: B, h => by
    have hc := h c (by simp)
    rw [mrg, List.cons_append, mrg]
    by_cases hac : a.exp ≤ c.exp
    · rw [if_pos hac, if_pos hac, insL, if_pos (by omega), mrg_snoc (A := A) (B := c :: B) h]; rfl
    · rw [if_neg hac, if_neg hac, insL, if_pos (by omega), mrg_snoc (A := a :: A) (B := B) (fun x hx => h x (by simp [hx]))]
termination_by A B => A.length + B.length
def cmpF (d : Con) : List Con → List Con
  | [] => [d]
  | c :: l => if d.exp = c.exp then cmpF (joinM d c) l else d :: cmpF c l
def cmpL : List Con → List Con
  | [] => []
  | c :: l => cmpF c l
theorem cmpF_ne {d : Con} {l : List Con} (h : ∀ x ∈ l, d.exp < x.exp) : cmpF d l = d :: cmpL l := by
  cases l with
  | nil => rfl
  | cons c l => rw [cmpF, if_neg (by have := h c (by simp); omega)]; rfl
theorem mem_mrg {x : Con} : ∀ {A B : List Con}, x ∈ mrg A B → x ∈ A ∨ x ∈ B
  | [], B, h => by rw [mrg_nil1] at h; exact .inr h
  | a :: A, [], h => by rw [mrg_nil] at h; exact .inl h
  | a :: A, b :: B, h => by
    rw [mrg] at h
    split at h
    · rcases List.mem_cons.1 h with h | h
      · exact .inl (by simp [h])
      · rcases mem_mrg h with h | h
        · exact .inl (by simp [h])
        · exact .inr h
    · rcases List.mem_cons.1 h with h | h
      · exact .inr (by simp [h])
      · rcases mem_mrg h with h | h
        · exact .inl h
        · exact .inr (by simp [h])
termination_by A B => A.length + B.length
theorem cmp_mrg : ∀ {A B : List Con}, asc A → asc B → cmpL (mrg A B) = addM A B
  | [], B, _, hB => by
    rw [mrg_nil1, addM]
    exact cmp_asc hB
  | a :: A, [], hA, _ => by
    rw [mrg_nil, addM]
    exact cmp_asc hA
  | a :: A, b :: B, hA, hB => by
    rw [mrg, addM]
    rcases Int.lt_trichotomy a.exp b.exp with h | h | h
    · rw [if_pos (by omega), if_pos h]
      show cmpF a (mrg A (b :: B)) = _
      rw [cmpF_ne (fun x hx => by
        rcases mem_mrg hx with hx | hx
        · exact hA.1 x hx
        · rcases List.mem_cons.1 hx with hx | hx
          · rw [hx]; exact h
          · have := hB.1 x hx; omega), cmp_mrg hA.2 hB]
    · rw [if_pos (by omega), if_neg (by omega), if_neg (by omega)]
      have e : mrg A (b :: B) = b :: mrg A B := by
        cases A with
        | nil => rw [mrg_nil1, mrg_nil1]
        | cons c A => rw [mrg, if_neg (by have := hA.1 c (by simp); omega)]
      show cmpF a (mrg A (b :: B)) = _
      rw [e, cmpF, if_pos h, cmpF_ne (fun x hx => by
        show a.exp < x.exp
        rcases mem_mrg hx with hx | hx
        · exact hA.1 x hx
        · have := hB.1 x hx; omega), cmp_mrg hA.2 hB.2]
    · rw [if_neg (by omega), if_neg (by omega), if_pos h]
      show cmpF b (mrg (a :: A) B) = _
      rw [cmpF_ne (fun x hx => by
        rcases mem_mrg hx with hx | hx
        · rcases List.mem_cons.1 hx with hx | hx
          · rw [hx]; exact h
          · have := hA.1 x hx; omega
        · exact hB.1 x hx), cmp_mrg hA hB.2]
termination_by A B => A.length + B.length
where cmp_asc : ∀ {A : List Con}, asc A → cmpL A = A
  | [], _ => rfl
  | a :: A, h => by
    show cmpF a A = _
    rw [cmpF_ne h.1, cmp_asc h.2]
end Go.Proofs.YtkkmlbhmcdoibaaGreatDoor.S

namespace Go.Proofs.YtkkmlbhmcdoibaaGreatDoor.S
open Go.QfSy Go.RowKit
theorem list_ext {L M : List Con} (h : L.length = M.length) (k : ∀ i, i < L.length → at_ L i = at_ M i) : L = M := by
  refine List.ext_getElem h (fun i h1 h2 => ?_)
  have := k i h1
  simpa [at_, h1, h2] using this
theorem at_flip {L : List Con} {i k : Nat} : at_ (flipS L i) k = if i = k ∧ k < L.length then { at_ L k with sign := -(at_ L k).sign } else at_ L k := by
  unfold flipS
  rw [at_set]
  split
  · rename_i h; rw [h.1]
  · rfl
theorem at_add4 {L : List Con} {x : Int} {k : Nat} : at_ (add4 L x) k = if x.toNat = k ∧ k < L.length then { at_ L k with oddity := ((at_ L k).oddity + 4) % 8 } else at_ L k := by
  unfold add4 setO
  rw [at_set]
  split
  · rename_i h; rw [h.1]
  · rfl
def hitB (L : List Con) (i k : Nat) : Bool := (decide (0 < (partM L ((i : Int) - 1)).length) && (((partM L ((i : Int) - 1)).getD 0 0).toNat == k)) || (decide (0 < (partM L (i : Int)).length) && (((partM L (i : Int)).getD 0 0).toNat == k))
def stepC (L : List Con) (i k : Nat) : Con := ⟨(at_ L k).exp, (at_ L k).dim, (bif k == i || k == i - 1 then -(at_ L k).sign else (at_ L k).sign), (at_ L k).odd, (bif hitB L i k then ((at_ L k).oddity + 4) % 8 else (at_ L k).oddity)⟩
theorem flips_at {L : List Con} {i k : Nat} (h1 : 1 ≤ i) (hk : k < L.length) : at_ (flipS (flipS L i) (i - 1)) k = { at_ L k with sign := bif k == i || k == i - 1 then -(at_ L k).sign else (at_ L k).sign } := by
  rw [at_flip, at_flip, flipS_len]
  by_cases e1 : k = i
  · have e2 : ¬ (i - 1 = k ∧ k < L.length) := by omega
    rw [if_neg e2, if_pos ⟨e1.symm, hk⟩]
    simp [e1]
  · by_cases e2 : k = i - 1
    · rw [if_pos ⟨e2.symm, hk⟩, if_neg (by omega)]
      have e3 : (k == i) = false := by simpa using e1
      have e4 : (k == i - 1) = true := by simpa using e2
      simp only [e3, e4, Bool.or_true, cond_true]
    · rw [if_neg (by omega), if_neg (by omega)]
      have e3 : (k == i) = false := by simpa using e1
      have e4 : (k == i - 1) = false := by simpa using e2
      simp only [e3, e4, Bool.or_self, cond_false]
theorem step_at {L : List Con} {i k : Nat} (h1 : 1 ≤ i) (h2 : i < L.length) (hk : k < L.length) : at_ (stepM L i) k = stepC L i k := by
  have hM := flips_at h1 hk
  have hl : (flipS (flipS L i) (i - 1)).length = L.length := by simp only [flipS_len]
  have b1 := (part0 (L := L) (by omega) ((i : Int) - 1)).1
  have b2 := (part0 (L := L) (by omega) (i : Int)).1
  unfold stepC hitB
  generalize hp : (partM L ((i : Int) - 1)).getD 0 0 = x at *
  generalize hq : (partM L (i : Int)).getD 0 0 = y at *
  by_cases A : 0 < (partM L ((i : Int) - 1)).length
  · by_cases C : x = y
    · rw [st2 A (by rw [hp, hq]; exact C), hp, at_add4, hl, hM]
      simp only [A, decide_true, Bool.true_and]
      rw [← C]
      by_cases e : x.toNat = k
      · rw [if_pos ⟨e, hk⟩]
        simp [e]
      · rw [if_neg (by intro h; exact e h.1)]
        have e' : (x.toNat == k) = false := by simpa using e
        simp [e']
    · by_cases B : 0 < (partM L (i : Int)).length
      · rw [st1 A B (by rw [hp, hq]; exact C), hp, hq, at_add4, add4_len, hl, at_add4, hl, hM]
        simp only [A, B, decide_true, Bool.true_and]
        have hxy : x.toNat ≠ y.toNat := by omega
        by_cases e : x.toNat = k
        · rw [if_neg (by intro h; omega), if_pos ⟨e, hk⟩]
          have e' : (x.toNat == k) = true := by simpa using e
          simp only [e', Bool.true_or, cond_true]
        · have e' : (x.toNat == k) = false := by simpa using e
          by_cases f : y.toNat = k
          · rw [if_pos ⟨f, hk⟩, if_neg (by intro h; exact e h.1)]
            have f' : (y.toNat == k) = true := by simpa using f
            simp only [e', f', Bool.or_true, cond_true]
          · rw [if_neg (by intro h; exact f h.1), if_neg (by intro h; exact e h.1)]
            have f' : (y.toNat == k) = false := by simpa using f
            simp only [e', f', Bool.or_self, cond_false]
      · rw [st3 A B, hp, at_add4, hl, hM]
        simp only [A, B, decide_true, decide_false, Bool.true_and, Bool.false_and, Bool.or_false]
        by_cases e : x.toNat = k
        · rw [if_pos ⟨e, hk⟩]
          have e' : (x.toNat == k) = true := by simpa using e
          simp only [e', cond_true]
        · rw [if_neg (by intro h; exact e h.1)]
          have e' : (x.toNat == k) = false := by simpa using e
          simp only [e', cond_false]
  · by_cases B : 0 < (partM L (i : Int)).length
    · rw [st4 A B, hq, at_add4, hl, hM]
      simp only [A, B, decide_true, decide_false, Bool.true_and, Bool.false_and, Bool.false_or]
      by_cases e : y.toNat = k
      · rw [if_pos ⟨e, hk⟩]
        have e' : (y.toNat == k) = true := by simpa using e
        simp only [e', cond_true]
      · rw [if_neg (by intro h; exact e h.1)]
        have e' : (y.toNat == k) = false := by simpa using e
        simp only [e', cond_false]
    · rw [st5 A B, hM]
      simp only [A, B, decide_false, Bool.false_and, Bool.or_self, cond_false]
def sameT (L M : List Con) : Prop := L.length = M.length ∧ ∀ k, k < L.length → (at_ L k).exp = (at_ M k).exp ∧ (at_ L k).odd = (at_ M k).odd ∧ (at_ L k).dim = (at_ M k).dim
theorem grpA_congr {b j b' j' : Nat → Bool} : ∀ {k : Nat}, (∀ i, i < k → b i = b' i ∧ j i = j' i) → grpA b j k = grpA b' j' k
  | 0, _ => rfl
  | k + 1, h => by
    simp only [grpA]
    rw [grpA_congr (fun i hi => h i (by omega)), (h k (by omega)).1, (h k (by omega)).2]
theorem parts_same {L M : List Con} (h : sameT L M) : partsM L = partsM M := by
  unfold partsM partsA
  rw [← h.1]
  congr 1
  refine grpA_congr (fun i hi => ⟨(h.2 i hi).2.1, ?_⟩)
  unfold joinB
  rw [(h.2 i hi).1, (h.2 (i - 1) (by omega)).1, (h.2 (i - 1) (by omega)).2.1]
theorem partM_same {L M : List Con} (h : sameT L M) (x : Int) : partM L x = partM M x := by unfold partM; rw [parts_same h]
theorem step_same {L : List Con} {i : Nat} (h1 : 1 ≤ i) (h2 : i < L.length) : sameT (stepM L i) L :=
  ⟨stepM_len, fun k hk => by rw [step_at h1 h2 (by rw [stepM_len] at hk; exact hk)]; exact ⟨rfl, rfl, rfl⟩⟩
theorem hit_same {L M : List Con} (h : sameT L M) (i k : Nat) : hitB L i k = hitB M i k := by unfold hitB; rw [partM_same h, partM_same h]
theorem step_step {L : List Con} (hL : okL L) {i : Nat} (h1 : 1 ≤ i) (h2 : i < L.length) : stepM (stepM L i) i = L := by
  refine list_ext (by rw [stepM_len, stepM_len]) (fun k hk => ?_)
  rw [stepM_len, stepM_len] at hk
  rw [step_at h1 (by rw [stepM_len]; exact h2) (by rw [stepM_len]; exact hk)]
  unfold stepC
  rw [hit_same (step_same h1 h2), step_at h1 h2 hk]
  have ho := (hL.at hk).2.2.2
  unfold stepC
  cases hh : hitB L i k <;> cases hs : (k == i || k == i - 1) <;> simp only [cond_true, cond_false, Int.neg_neg]
  all_goals first
    | rfl
    | (rw [show ((((at_ L k).oddity + 4) % 8 + 4) % 8) = (at_ L k).oddity by omega])
end Go.Proofs.YtkkmlbhmcdoibaaGreatDoor.S

namespace Go.Proofs.YtkkmlbhmcdoibaaGreatDoor.S
open Go.QfSy Go.RowKit
theorem sumO_mod {L M : List Con} {m : Int} (h : ∀ k, k < L.length → ((at_ L k).oddity - (at_ M k).oddity) % 4 = 0) : ∀ {l : List Int}, inR L.length l → (sumO L l - sumO M l) % 4 = 0
  | [], _ => rfl
  | x :: l, hl => by
    have h1 := hl x (by simp)
    have h2 := h x.toNat (by omega)
    have ih := sumO_mod (m := m) h (l := l) (fun y hy => hl y (by simp [hy]))
    simp only [sumO]
    omega
theorem bad_same {L M : List Con} (hs : sameT L M) (h : ∀ k, k < L.length → ((at_ L k).oddity - (at_ M k).oddity) % 4 = 0) {l : List Int} (hl : inR L.length l) : badM L l = badM M l := by
  have h1 := sumO_mod (m := 0) h hl
  unfold badM totM
  by_cases hn : l.length = 2
  · have a0 := hl.at (t := 0) (by omega)
    have a1 := hl.at (t := 1) (by omega)
    rw [(hs.2 (l.getD 0 0).toNat (by omega)).2.2, (hs.2 (l.getD 1 0).toNat (by omega)).2.2]
    have e : (sumO L l % 8 % 4 == 0) = (sumO M l % 8 % 4 == 0) := by
      rw [Bool.eq_iff_iff, beq_iff_eq, beq_iff_eq]
      omega
    rw [e]
  · simp [hn]
theorem link_same {L M : List Con} (hs : sameT L M) (h : ∀ k, k < L.length → ((at_ L k).oddity - (at_ M k).oddity) % 4 = 0) {k : Nat} (hk : k < L.length) : linkM L k = linkM M k := by
  unfold linkM
  rw [(hs.2 k hk).1, (hs.2 k hk).2.1, (hs.2 (k - 1) (by omega)).1, (hs.2 (k - 1) (by omega)).2.1, partM_same hs, bad_same hs h (by rw [← partM_same hs]; exact partM_ok.1)]
theorem step_mod {L : List Con} {i : Nat} (h1 : 1 ≤ i) (h2 : i < L.length) : ∀ k, k < (stepM L i).length → ((at_ (stepM L i) k).oddity - (at_ L k).oddity) % 4 = 0 := by
  intro k hk
  rw [stepM_len] at hk
  rw [step_at h1 h2 hk]
  unfold stepC
  cases hitB L i k
  · simp
  · simp only [cond_true]; omega
theorem link_step {L : List Con} {i k : Nat} (h1 : 1 ≤ i) (h2 : i < L.length) (hk : k < L.length) : linkM (stepM L i) k = linkM L k := link_same (step_same h1 h2) (step_mod h1 h2) (by rw [stepM_len]; exact hk)
theorem shL_same : ∀ {L M : List Con} {l s : Int}, L.length = M.length → (∀ k, k < L.length → (at_ L k).exp = (at_ M k).exp ∧ (at_ L k).dim = (at_ M k).dim) → shL L l s = shL M l s
  | [], [], _, _, _, _ => rfl
  | [], _ :: _, _, _, h, _ => by simp at h
  | _ :: _, [], _, _, h, _ => by simp at h
  | a :: L, b :: M, l, s, h, hk => by
    have h0 := hk 0 (by simp)
    have e1 : a.exp = b.exp := h0.1
    have e2 : a.dim = b.dim := h0.2
    simp only [shL, shO]
    rw [e1, e2, shL_same (by simpa using h) (fun k hk2 => by have := hk (k + 1) (by simp; omega); simpa [at_] using this)]
theorem shape_same {p : Int} {L M : List Con} (hs : sameT L M) : shapeM p L = shapeM p M := by
  unfold shapeM
  rw [shL_same hs.1 (fun k hk => ⟨(hs.2 k hk).1, (hs.2 k hk).2.2⟩)]
  have : L.isEmpty = M.isEmpty := by
    have := hs.1
    cases L <;> cases M <;> simp_all
  rw [this]
theorem dimR_same {L M : List Con} (hs : sameT L M) : ∀ {l : List Int}, inR L.length l → dimR L l = dimR M l
  | [], _ => rfl
  | x :: l, hl => by
    have h1 := hl x (by simp)
    simp only [dimR]
    rw [(hs.2 x.toNat (by omega)).2.2, dimR_same hs (fun y hy => hl y (by simp [hy]))]
theorem hit_first {L : List Con} {i k : Nat} (h1 : 1 ≤ i) (h2 : i < L.length) (h : hitB L i k = true) : k < L.length ∧ oddB L k = true ∧ joinB L k = false := by
  have key : ∀ a : Nat, a < L.length → 0 < (partM L (a : Int)).length → ((partM L (a : Int)).getD 0 0).toNat = k → k < L.length ∧ oddB L k = true ∧ joinB L k = false := by
    intro a ha hp hk
    have ho : oddB L a = true := by
      cases ho : oddB L a with
      | true => rfl
      | false => rw [partM_even (fun h => by rw [h.2] at ho; cases ho)] at hp; simp at hp
    obtain ⟨s, n, t, e, e1, e2, e3, e4⟩ := part_iv ha ho
    rw [e, getD_ivN (by omega)] at hk
    have : k = s := by omega
    subst this
    exact ⟨by omega, by simpa using (e4 0 (by omega)).1, e3⟩
  unfold hitB at h
  rw [Bool.or_eq_true, Bool.and_eq_true, Bool.and_eq_true, decide_eq_true_eq, decide_eq_true_eq, beq_iff_eq, beq_iff_eq] at h
  rcases h with ⟨a, b⟩ | ⟨a, b⟩
  · have e0 : ((i - 1 : Nat) : Int) = (i : Int) - 1 := by omega
    exact key (i - 1) (by omega) (by rw [e0]; exact a) (by rw [e0]; exact b)
  · exact key i h2 a b
theorem fus_step {p : Int} {L : List Con} (hf : fusM p L = true) {i : Nat} (h1 : 1 ≤ i) (h2 : i < L.length) : fusM p (stepM L i) = true := by
  have hs := step_same h1 h2
  rw [← fus_eq] at hf ⊢
  unfold fusT at hf ⊢
  rw [Bool.and_eq_true, Bool.and_eq_true, all_at, List.all_eq_true] at hf ⊢
  simp only [Bool.and_eq_true] at hf ⊢
  obtain ⟨g1, g2, g3⟩ := hf
  rw [stepM_len]
  refine ⟨by rw [shape_same hs]; exact g1, fun k hk => ?_, fun l hl => ?_⟩
  · obtain ⟨a, b⟩ := g2 k hk
    rw [step_at h1 h2 hk]
    unfold sgB at a ⊢
    unfold fusC at b ⊢
    unfold stepC
    rw [decide_eq_true_eq] at a ⊢
    rw [Bool.and_eq_true, decide_eq_true_eq, Bool.or_eq_true] at b ⊢
    refine ⟨?_, ?_, ?_⟩
    · cases (k == i || k == i - 1) <;> simp only [cond_true, cond_false] <;> omega
    · cases hitB L i k <;> simp only [cond_true, cond_false] <;> omega
    · cases hh : hitB L i k with
      | false => exact b.2
      | true => exact .inl (hit_first h1 h2 hh).2.1
  · rw [parts_same hs] at hl
    obtain ⟨z, pr⟩ := g3 l hl
    have hr := part_row hl
    have hin := (parts_rows l hl).2.1
    obtain ⟨s, n, e, e3, e4⟩ := hr
    refine ⟨?_, ?_⟩
    · unfold zerR at z ⊢
      rw [List.all_eq_true] at z ⊢
      intro x hx
      have hz := z x hx
      rw [e, tail_ivN, mem_ivN] at hx
      have hx2 : x ∈ l := by rw [e, mem_ivN]; omega
      have hlt := hin x hx2
      rw [step_at h1 h2 (by omega)]
      unfold stepC
      cases hh : hitB L i x.toNat with
      | false => exact hz
      | true =>
        have := (hit_first h1 h2 hh).2.2
        have h5 := (e4 (x.toNat - s) (by omega)).2 (by omega)
        rw [show s + (x.toNat - s) = x.toNat by omega, this] at h5
        cases h5
    · unfold parR at pr ⊢
      rw [decide_eq_true_eq] at pr ⊢
      have hne : 0 < l.length := by rw [e, ivN_len]; omega
      have h0 := hin.at hne
      rw [dimR_same hs (by rw [stepM_len]; exact hin), step_at h1 h2 (by omega)]
      unfold stepC
      cases hitB L i (l.getD 0 0).toNat <;> simp only [cond_true, cond_false] <;> omega
end Go.Proofs.YtkkmlbhmcdoibaaGreatDoor.S

namespace Go.Proofs.YtkkmlbhmcdoibaaGreatDoor.S
open Go.QfSy Go.RowKit
theorem sameT.refl (L : List Con) : sameT L L := ⟨rfl, fun _ _ => ⟨rfl, rfl, rfl⟩⟩
theorem sameT.trans {A B C : List Con} (h : sameT A B) (k : sameT B C) : sameT A C :=
  ⟨h.1.trans k.1, fun i hi => ⟨((h.2 i hi).1).trans (k.2 i (by rw [← h.1]; exact hi)).1, ((h.2 i hi).2.1).trans (k.2 i (by rw [← h.1]; exact hi)).2.1, ((h.2 i hi).2.2).trans (k.2 i (by rw [← h.1]; exact hi)).2.2⟩⟩
theorem at_setO' {L : List Con} {i t : Int} {k : Nat} : at_ (setO L i t) k = if i.toNat = k ∧ k < L.length then { at_ L k with oddity := t } else at_ L k := by
  unfold setO
  rw [at_set]
  split
  · rename_i h; rw [h.1]
  · rfl
theorem setO_same {L : List Con} {i t : Int} : sameT (setO L i t) L := by
  refine ⟨setO_len, fun k _ => ?_⟩
  rw [at_setO']
  split <;> exact ⟨rfl, rfl, rfl⟩
theorem zeroP_same : ∀ {l : List Int} {L : List Con}, sameT (zeroP L l) L
  | [], L => sameT.refl L
  | i :: l, L => (zeroP_same (l := l) (L := setO L i 0)).trans setO_same
theorem fuseP_same {L0 L : List Con} {l : List Int} : sameT (fuseP L0 L l) L := setO_same.trans zeroP_same
theorem fuseG_same {L0 : List Con} : ∀ {P : List (List Int)} {L : List Con}, sameT (fuseG L0 L P) L
  | [], L => sameT.refl L
  | l :: P, L => (fuseG_same (P := P) (L := fuseP L0 L l)).trans fuseP_same
theorem fuseM_same {L : List Con} : sameT (fuseM L) L := fuseG_same
theorem sign_setO {L : List Con} {i t : Int} {k : Nat} : (at_ (setO L i t) k).sign = (at_ L k).sign := by
  rw [at_setO']; split <;> rfl
theorem sign_zeroP : ∀ {l : List Int} {L : List Con} {k : Nat}, (at_ (zeroP L l) k).sign = (at_ L k).sign
  | [], _, _ => rfl
  | i :: l, L, k => by simp only [zeroP]; rw [sign_zeroP, sign_setO]
theorem sign_fuseG {L0 : List Con} : ∀ {P : List (List Int)} {L : List Con} {k : Nat}, (at_ (fuseG L0 L P) k).sign = (at_ L k).sign
  | [], _, _ => rfl
  | l :: P, L, k => by simp only [fuseG]; rw [sign_fuseG]; unfold fuseP; rw [sign_setO, sign_zeroP]
theorem sign_fuseM {L : List Con} {k : Nat} : (at_ (fuseM L) k).sign = (at_ L k).sign := sign_fuseG
theorem at_fuseG {L0 : List Con} : ∀ {P : List (List Int)} {L : List Con} {k : Nat}, (∀ l ∈ P, l ≠ []) → (∀ x ∈ P.flatten, k ≠ x.toNat) → at_ (fuseG L0 L P) k = at_ L k
  | [], _, _, _, _ => rfl
  | l :: P, L, k, hne, h => by
    simp only [List.flatten_cons, List.mem_append] at h
    simp only [fuseG]
    rw [at_fuseG (fun m hm => hne m (by simp [hm])) (fun x hx => h x (.inr hx)), at_fuseP (hne l (by simp)) (fun x hx => h x (.inl hx))]
theorem zero_at : ∀ {l : List Int} {L : List Con} {k : Nat}, k < L.length → (k : Int) ∈ l → (∀ x ∈ l, 0 ≤ x) → (at_ (zeroP L l) k).oddity = 0
  | [], _, _, _, h, _ => by simp at h
  | i :: l, L, k, hk, h, h0 => by
    simp only [zeroP]
    by_cases hl : (k : Int) ∈ l
    · exact zero_at (by rw [setO_len]; exact hk) hl (fun x hx => h0 x (by simp [hx]))
    · have e : (k : Int) = i := by
        rcases List.mem_cons.1 h with h | h
        · exact h
        · exact absurd h hl
      have hx : ∀ x ∈ l, k ≠ x.toNat := by
        intro x hx e2
        have := h0 x (by simp [hx])
        exact hl (by rw [show (k : Int) = x by omega]; exact hx)
      rw [at_zeroP hx, at_setO', if_pos ⟨by omega, hk⟩]
theorem fuse_at {L0 : List Con} : ∀ {P : List (List Int)} {L : List Con}, P.flatten.Nodup → (∀ l ∈ P, l ≠ [] ∧ inR L.length l) → ∀ l ∈ P, ∀ k : Nat, (k : Int) ∈ l → (at_ (fuseG L0 L P) k).oddity = (if (k : Int) = l.getD 0 0 then totM L0 l else 0)
  | [], _, _, _, l, hl, _, _ => by simp at hl
  | m :: P, L, hn, hr, l, hl, k, hk => by
    simp only [List.flatten_cons] at hn
    have hd := List.nodup_append.1 hn
    simp only [fuseG]
    rcases List.mem_cons.1 hl with e | hl
    · subst e
      have hlr := hr l (by simp)
      have hkl := hlr.2 _ hk
      rw [at_fuseG (fun m hm => (hr m (by simp [hm])).1) (fun x hx e2 => ?_)]
      · unfold fuseP
        rw [at_setO', zeroP_len]
        have h0 := hlr.2.at (t := 0) (List.length_pos_iff.2 hlr.1)
        by_cases e3 : (k : Int) = l.getD 0 0
        · rw [if_pos ⟨by omega, by omega⟩, if_pos e3]
        · rw [if_neg (by intro h; omega), if_neg e3, zero_at (by omega) hk (fun x hx => (hlr.2 x hx).1)]
      · obtain ⟨m, hm, hxm⟩ := List.mem_flatten.1 hx
        have := (hr m (by simp [hm])).2 x hxm
        exact hd.2.2 _ hk x hx (by omega)
    · exact fuse_at hd.2.1 (fun m hm => by rw [fuseP_len]; exact hr m (by simp [hm])) l hl k hk
theorem fuseM_at {L : List Con} {l : List Int} (hl : l ∈ partsM L) {k : Nat} (hk : (k : Int) ∈ l) : (at_ (fuseM L) k).oddity = (if (k : Int) = l.getD 0 0 then totM L l else 0) :=
  fuse_at (parts_nodup L) (fun m hm => ⟨(parts_rows m hm).1, (parts_rows m hm).2.1⟩) l hl k hk
theorem fuseM_even {L : List Con} {k : Nat} (h : oddB L k = false) (hk : k < L.length) : at_ (fuseM L) k = at_ L k := by
  refine at_fuseG (fun l hl => (parts_rows l hl).1) (fun x hx e => ?_)
  obtain ⟨l, h1, h2⟩ := List.mem_flatten.1 hx
  have h3 := (parts_rows l h1).2.1 x h2
  have : (k : Int) ∈ (partsM L).flatten := by rw [show (k : Int) = x by omega]; exact hx
  rw [(mem_parts.1 this).2] at h; cases h
end Go.Proofs.YtkkmlbhmcdoibaaGreatDoor.S

namespace Go.Proofs.YtkkmlbhmcdoibaaGreatDoor.S
open Go.QfSy Go.RowKit
theorem sum_par {L : List Con} (h : ∀ k, k < L.length → oddB L k = true → ((at_ L k).oddity - (at_ L k).dim) % 2 = 0) : ∀ {l : List Int}, (∀ x ∈ l, 0 ≤ x ∧ x < (L.length : Int) ∧ oddB L x.toNat = true) → (sumO L l - dimR L l) % 2 = 0
  | [], _ => rfl
  | x :: l, hl => by
    have h1 := hl x (by simp)
    have h2 := h x.toNat (by omega) h1.2.2
    have ih := sum_par h (l := l) (fun y hy => hl y (by simp [hy]))
    simp only [sumO, dimR]
    omega
theorem val2_parts {L : List Con} (h : val2M 2 L = true) : shapeM 2 L = true ∧ ∀ k, k < L.length → legalP (at_ L k) := by
  rw [val2_sh, Bool.and_eq_true, all_at] at h
  exact ⟨h.1, fun k hk => of_decide_eq_true (h.2 k hk)⟩
theorem row_odd {L : List Con} {l : List Int} (hl : l ∈ partsM L) : ∀ x ∈ l, 0 ≤ x ∧ x < (L.length : Int) ∧ oddB L x.toNat = true := by
  intro x hx
  have h1 := (parts_rows l hl).2.1 x hx
  have h2 : ((x.toNat : Nat) : Int) ∈ (partsM L).flatten := by
    rw [show ((x.toNat : Nat) : Int) = x by omega]
    exact List.mem_flatten.2 ⟨l, hl, hx⟩
  exact ⟨h1.1, h1.2, (mem_parts.1 h2).2⟩
theorem fus_fuse {L : List Con} (h : val2M 2 L = true) : fusM 2 (fuseM L) = true := by
  obtain ⟨hsh, hleg⟩ := val2_parts h
  have hs := fuseM_same (L := L)
  rw [← fus_eq]
  unfold fusT
  rw [Bool.and_eq_true, Bool.and_eq_true, all_at, List.all_eq_true]
  simp only [Bool.and_eq_true]
  rw [fuseM_len, shape_same hs, parts_same hs]
  refine ⟨hsh, fun k hk => ⟨?_, ?_⟩, fun l hl => ⟨?_, ?_⟩⟩
  · unfold sgB
    rw [decide_eq_true_eq, sign_fuseM]
    exact (hleg k hk).2.2.1
  · cases ho : oddB L k with
    | false =>
      rw [fuseM_even ho hk]
      obtain ⟨_, _, _, h4, h5, _⟩ := hleg k hk
      have h6 := h5 ho
      unfold fusC
      rw [Bool.and_eq_true, decide_eq_true_eq, Bool.or_eq_true, Bool.and_eq_true, decide_eq_true_eq, decide_eq_true_eq]
      exact ⟨h4, .inr h6⟩
    | true =>
      have hm := partM_odd hk ho
      have hv := fuseM_at hm.1 hm.2
      have hb := totM_b L (partM L k)
      have hodd : (at_ (fuseM L) k).odd = true := by rw [(hs.2 k (by rw [fuseM_len]; exact hk)).2.1]; exact ho
      unfold fusC
      rw [Bool.and_eq_true, decide_eq_true_eq, Bool.or_eq_true]
      refine ⟨?_, .inl hodd⟩
      rw [hv]
      split <;> omega
  · obtain ⟨s, n, e, e3, e4⟩ := part_row hl
    unfold zerR
    rw [List.all_eq_true]
    intro x hx
    rw [e, tail_ivN, mem_ivN] at hx
    have hx2 : ((x.toNat : Nat) : Int) ∈ l := by rw [show ((x.toNat : Nat) : Int) = x by omega, e, mem_ivN]; omega
    rw [fuseM_at hl hx2, if_neg]
    · rfl
    · rw [e, getD_ivN (by omega)]; omega
  · have hne : 0 < l.length := List.length_pos_iff.2 (parts_rows l hl).1
    have hin := (parts_rows l hl).2.1
    have h0 := hin.at hne
    have hx : (((l.getD 0 0).toNat : Nat) : Int) ∈ l := by
      rw [show (((l.getD 0 0).toNat : Nat) : Int) = l.getD 0 0 by omega]
      cases l with
      | nil => simp at hne
      | cons a l => simp
    have hp := sum_par (fun k hk ho => ((hleg k hk).2.2.2.2.2 ho).1) (row_odd hl)
    unfold parR
    rw [decide_eq_true_eq, fuseM_at hl hx, if_pos (by omega), dimR_same hs (by rw [fuseM_len]; exact hin)]
    unfold totM
    omega
end Go.Proofs.YtkkmlbhmcdoibaaGreatDoor.S

namespace Go.Proofs.YtkkmlbhmcdoibaaGreatDoor.S
open Go.QfSy Go.RowKit
def wO (c : Con) (t : Int) : Con := { c with oddity := t }
def canR (L : List Con) : List Int → Int → Bool
  | [] => fun tot => tot == 0
  | i :: l => fun tot => (List.range 8).any fun t => legalB (wO (at_ L i.toNat) (t : Int)) && canR L l ((tot + 8 - (t : Int)) % 8)
def tryF (g : Int → List Con → Bool × List Con) (i tot : Int) : Nat → Nat → List Con → Bool × List Con
  | 0, _, M => (false, M)
  | n + 1, t, M => bif legalB (at_ (setO M i (t : Int)) i.toNat) then
      (bif (g ((tot + 8 - (t : Int)) % 8) (setO M i (t : Int))).1 then (true, (g ((tot + 8 - (t : Int)) % 8) (setO M i (t : Int))).2) else tryF g i tot n (t + 1) (g ((tot + 8 - (t : Int)) % 8) (setO M i (t : Int))).2)
    else tryF g i tot n (t + 1) (setO M i (t : Int))
def refF : List Int → Int → List Con → Bool × List Con
  | [] => fun tot M => (tot == 0, M)
  | i :: l => fun tot M => tryF (refF l) i tot 8 0 M
def findT (p : Nat → Bool) : Nat → Nat → Option Nat
  | 0, _ => none
  | n + 1, t => bif p t then some t else findT p n (t + 1)
def lstP (M : List Con) (i : Int) (l : List Int) (tot : Int) (t : Nat) : Bool := legalB (wO (at_ M i.toNat) (t : Int)) && canR M l ((tot - (t : Int) + 8) % 8)
def trF : List Int → Int → List Con → Option (List Con)
  | [] => fun _ M => some M
  | i :: l => fun tot M => match findT (lstP M i l tot) 8 0 with
    | none => none
    | some t => trF l ((tot - (t : Int) + 8) % 8) (setO M i (t : Int))
structure agr (l : List Int) (A B : List Con) : Prop where
  len : A.length = B.length
  eq : ∀ k, wO (at_ A k) 0 = wO (at_ B k) 0
  out : ∀ k : Nat, (k : Int) ∉ l → at_ A k = at_ B k
theorem agr.refl (l : List Int) (A : List Con) : agr l A A := ⟨rfl, fun _ => rfl, fun _ _ => rfl⟩
theorem agr.trans {l : List Int} {A B C : List Con} (h : agr l A B) (k : agr l B C) : agr l A C := ⟨h.len.trans k.len, fun j => (h.eq j).trans (k.eq j), fun j hj => (h.out j hj).trans (k.out j hj)⟩
theorem agr.symm {l : List Int} {A B : List Con} (h : agr l A B) : agr l B A := ⟨h.len.symm, fun j => (h.eq j).symm, fun j hj => (h.out j hj).symm⟩
theorem agr.mono {l l' : List Int} {A B : List Con} (h : agr l A B) (k : ∀ x ∈ l, x ∈ l') : agr l' A B := ⟨h.len, h.eq, fun j hj => h.out j (fun hm => hj (k _ hm))⟩
theorem wO_eq {c d : Con} (h : wO c 0 = wO d 0) (t : Int) : wO c t = wO d t := by
  have : wO (wO c 0) t = wO (wO d 0) t := by rw [h]
  exact this
theorem setO_agr {l : List Int} {A : List Con} {i t : Int} (h0 : 0 ≤ i) (hi : i ∈ l) : agr l (setO A i t) A := by
  refine ⟨setO_len, fun k => ?_, fun k hk => ?_⟩
  · rw [at_setO']
    split
    · rfl
    · rfl
  · exact at_setO (fun e => hk (by rw [e]; rw [Int.toNat_of_nonneg h0]; exact hi))
theorem setO_agr2 {l : List Int} {A B : List Con} {i t : Int} (h0 : 0 ≤ i) (h : agr (i :: l) A B) : agr l (setO A i t) (setO B i t) := by
  refine ⟨by rw [setO_len, setO_len]; exact h.len, fun k => ?_, fun k hk => ?_⟩
  · rw [at_setO', at_setO', h.len]
    split
    · exact h.eq k
    · exact h.eq k
  · rw [at_setO', at_setO', h.len]
    by_cases hk' : i.toNat = k
    · by_cases hl : k < B.length
      · rw [if_pos ⟨hk', hl⟩, if_pos ⟨hk', hl⟩]
        exact wO_eq (h.eq k) t
      · rw [if_neg (fun e => hl e.2), if_neg (fun e => hl e.2)]
        have e1 : at_ A k = Con.zero := by have := h.len; simp [at_, List.getD_eq_getElem?_getD, List.getElem?_eq_none (show A.length ≤ k by omega)]
        have e2 : at_ B k = Con.zero := by simp [at_, List.getD_eq_getElem?_getD, List.getElem?_eq_none (show B.length ≤ k by omega)]
        rw [e1, e2]
    · rw [if_neg (fun e => hk' e.1), if_neg (fun e => hk' e.1)]
      refine h.out k (fun hm => ?_)
      rcases List.mem_cons.1 hm with e | e
      · exact hk' (by rw [← e]; rfl)
      · exact hk e
theorem canR_agr {A B : List Con} (h : ∀ k, wO (at_ A k) 0 = wO (at_ B k) 0) : ∀ {l : List Int} {tot : Int}, canR A l tot = canR B l tot
  | [], _ => rfl
  | i :: l, tot => by
    simp only [canR]
    congr 1
    funext t
    rw [wO_eq (h i.toNat) t, canR_agr h]
theorem lstP_agr {A B : List Con} (h : ∀ k, wO (at_ A k) 0 = wO (at_ B k) 0) (i : Int) (l : List Int) (tot : Int) : lstP A i l tot = lstP B i l tot := by
  funext t
  unfold lstP
  rw [wO_eq (h i.toNat) t, canR_agr h]
theorem findT_any {p : Nat → Bool} : ∀ {n t : Nat}, (findT p n t).isSome = (List.range' t n).any p
  | 0, _ => rfl
  | n + 1, t => by
    simp only [findT, List.range'_succ, List.any_cons]
    cases p t with
    | true => rfl
    | false => simp only [cond_false, Bool.false_or]; exact findT_any
theorem lst_sum (tot : Int) (t : Nat) : (tot - (t : Int) + 8) % 8 = (tot + 8 - (t : Int)) % 8 := by congr 1; omega
theorem canR_find (M : List Con) (i : Int) (l : List Int) (tot : Int) : canR M (i :: l) tot = (findT (lstP M i l tot) 8 0).isSome := by
  rw [findT_any, ← List.range_eq_range']
  simp only [canR]
  congr 1
  funext t
  unfold lstP
  rw [lst_sum]
theorem at_own {M : List Con} {i t : Int} (hi : i.toNat < M.length) : at_ (setO M i t) i.toNat = wO (at_ M i.toNat) t := by
  rw [at_setO', if_pos ⟨rfl, hi⟩]; rfl
theorem tryF_spec {l : List Int} {i tot : Int} {M : List Con} (h0 : 0 ≤ i) (hi : i.toNat < M.length)
    (ih1 : ∀ tot M0, M0.length = M.length → (refF l tot M0).1 = canR M0 l tot) (ih2 : ∀ tot M0, M0.length = M.length → agr l (refF l tot M0).2 M0) : ∀ {n t : Nat} {M0 : List Con}, agr (i :: l) M0 M →
    agr (i :: l) (tryF (refF l) i tot n t M0).2 M ∧ (match findT (lstP M i l tot) n t with
      | none => (tryF (refF l) i tot n t M0).1 = false
      | some t0 => (tryF (refF l) i tot n t M0).1 = true ∧ ∃ M1, agr l M1 (setO M i (t0 : Int)) ∧ canR M1 l ((tot + 8 - (t0 : Int)) % 8) = true ∧ (tryF (refF l) i tot n t M0).2 = (refF l ((tot + 8 - (t0 : Int)) % 8) M1).2)
  | 0, t, M0, hM => ⟨hM, rfl⟩
  | n + 1, t, M0, hM => by
    have hi0 : i.toNat < M0.length := by rw [hM.len]; exact hi
    have hs : agr (i :: l) (setO M0 i (t : Int)) M := (setO_agr h0 List.mem_cons_self).trans hM
    have e1 : legalB (at_ (setO M0 i (t : Int)) i.toNat) = legalB (wO (at_ M i.toNat) (t : Int)) := by rw [at_own hi0, wO_eq (hM.eq _)]
    have e2 : (refF l ((tot + 8 - (t : Int)) % 8) (setO M0 i (t : Int))).1 = canR M l ((tot + 8 - (t : Int)) % 8) := by rw [ih1 _ _ hs.len, canR_agr hs.eq]
    have e3 : lstP M i l tot t = (legalB (wO (at_ M i.toNat) (t : Int)) && canR M l ((tot + 8 - (t : Int)) % 8)) := by unfold lstP; rw [lst_sum]
    have hlen : (setO M0 i (t : Int)).length = M.length := hs.len
    have h2 : agr (i :: l) (refF l ((tot + 8 - (t : Int)) % 8) (setO M0 i (t : Int))).2 M := ((ih2 _ _ hlen).mono (fun x hx => List.mem_cons_of_mem _ hx)).trans hs
    simp only [tryF, findT, e1, e2, e3]
    cases hl : legalB (wO (at_ M i.toNat) (t : Int)) with
    | false =>
      simp only [cond_false, Bool.false_and]
      exact tryF_spec h0 hi ih1 ih2 hs
    | true =>
      cases hc : canR M l ((tot + 8 - (t : Int)) % 8) with
      | false =>
        simp only [cond_false, cond_true, Bool.and_false]
        exact tryF_spec h0 hi ih1 ih2 h2
      | true =>
        simp only [cond_true, Bool.and_true]
        exact ⟨h2, by trivial, setO M0 i (t : Int), setO_agr2 h0 hM, by rw [canR_agr hs.eq]; exact hc, by trivial⟩
theorem ref_spec : ∀ {l : List Int} {n : Nat}, inR n l → (∀ tot M, M.length = n → (refF l tot M).1 = canR M l tot) ∧ (∀ tot M, M.length = n → agr l (refF l tot M).2 M) ∧
    (∀ tot M M', M.length = n → canR M l tot = true → agr l M' M → trF l tot M' = some (refF l tot M).2)
  | [], n, _ => ⟨fun _ _ _ => rfl, fun _ _ _ => .refl _ _, fun tot M M' hn _ h => by
      simp only [trF, refF]
      congr 1
      refine list_ext h.len (fun k _ => h.out k (by simp))⟩
  | i :: l, n, hl => by
    obtain ⟨a1, a2, a3⟩ := ref_spec (l := l) (n := n) (fun x hx => hl x (List.mem_cons_of_mem _ hx))
    have hi := hl i List.mem_cons_self
    have b1 : ∀ M : List Con, M.length = n → ∀ tot M0, M0.length = M.length → (refF l tot M0).1 = canR M0 l tot := fun M hM tot M0 h => a1 tot M0 (h.trans hM)
    have b2 : ∀ M : List Con, M.length = n → ∀ tot M0, M0.length = M.length → agr l (refF l tot M0).2 M0 := fun M hM tot M0 h => a2 tot M0 (h.trans hM)
    refine ⟨fun tot M hn => ?_, fun tot M hn => ?_, fun tot M M' hn hc h => ?_⟩
    · have := (tryF_spec (tot := tot) hi.1 (by omega) (b1 M hn) (b2 M hn) (n := 8) (t := 0) (agr.refl _ M)).2
      rw [canR_find]
      show (tryF (refF l) i tot 8 0 M).1 = _
      revert this
      cases findT (lstP M i l tot) 8 0 with
      | none => exact fun h => h
      | some t0 => exact fun h => h.1
    · exact (tryF_spec (tot := tot) hi.1 (by omega) (b1 M hn) (b2 M hn) (n := 8) (t := 0) (agr.refl _ M)).1
    · have := (tryF_spec (tot := tot) hi.1 (by omega) (b1 M hn) (b2 M hn) (n := 8) (t := 0) (agr.refl _ M)).2
      rw [canR_find] at hc
      simp only [trF]
      rw [lstP_agr h.eq]
      revert this hc
      cases findT (lstP M i l tot) 8 0 with
      | none => intro hc; cases hc
      | some t0 =>
        rintro _ ⟨_, M1, h1, h2, h3⟩
        show trF l ((tot - (t0 : Int) + 8) % 8) (setO M' i (t0 : Int)) = some (tryF (refF l) i tot 8 0 M).2
        rw [h3, lst_sum]
        exact a3 _ M1 _ (by rw [h1.len, setO_len]; exact hn) h2 ((setO_agr2 hi.1 h).trans h1.symm)
def refG (L0 : List Con) : List (List Int) → List Con → Option (List Con)
  | [], M => some M
  | l :: P, M => bif (refF l (totM L0 l) M).1 then refG L0 P (refF l (totM L0 l) M).2 else none
def trG : List (List Int) → List Con → Option (List Con)
  | [], M => some M
  | l :: P, M => match trF l (at_ M (l.getD 0 0).toNat).oddity M with
    | none => none
    | some M1 => trG P M1
theorem trF_none {l : List Int} {tot : Int} {M : List Con} (hne : l ≠ []) (h : canR M l tot = false) : trF l tot M = none := by
  cases l with
  | nil => exact absurd rfl hne
  | cons i l =>
    rw [canR_find] at h
    simp only [trF]
    cases hf : findT (lstP M i l tot) 8 0 with
    | none => rfl
    | some t => rw [hf] at h; cases h
theorem trG_eq {L0 : List Con} : ∀ {P : List (List Int)} {M : List Con}, M.length = L0.length → P.flatten.Nodup → (∀ l ∈ P, l ≠ [] ∧ inR L0.length l ∧ totM L0 l = (at_ L0 (l.getD 0 0).toNat).oddity) → (∀ x ∈ P.flatten, at_ M x.toNat = at_ L0 x.toNat) → trG P M = refG L0 P M
  | [], M, _, _, _, _ => rfl
  | l :: P, M, hn, hd, hP, hM => by
    obtain ⟨h1, h2, h3⟩ := hP l List.mem_cons_self
    obtain ⟨a1, a2, a3⟩ := ref_spec (l := l) (n := L0.length) h2
    have hmem : l.getD 0 0 ∈ l := by cases l with | nil => exact absurd rfl h1 | cons a l => simp
    have e : (at_ M (l.getD 0 0).toNat).oddity = totM L0 l := by rw [h3, hM _ (by simp only [List.flatten_cons, List.mem_append]; exact .inl hmem)]
    simp only [trG, refG]
    rw [e, a1 _ _ hn]
    cases hc : canR M l (totM L0 l) with
    | false => rw [trF_none h1 hc]; rfl
    | true =>
      rw [a3 _ M M hn hc (.refl _ _)]
      simp only [cond_true]
      simp only [List.flatten_cons, List.nodup_append] at hd
      have g := a2 (totM L0 l) M hn
      refine trG_eq (g.len.trans hn) hd.2.1 (fun x hx => hP x (List.mem_cons_of_mem _ hx)) (fun x hx => ?_)
      have hx0 : 0 ≤ x := by
        obtain ⟨q, hq, hxq⟩ := List.mem_flatten.1 hx
        exact ((hP q (List.mem_cons_of_mem _ hq)).2.1 x hxq).1
      rw [g.out x.toNat (fun hm => by rw [Int.toNat_of_nonneg hx0] at hm; exact hd.2.2 x hm x hx rfl)]
      exact hM x (by simp only [List.flatten_cons, List.mem_append]; exact .inr hx)
theorem sumO_zero {L : List Con} : ∀ {l : List Int}, (l.all fun i => (at_ L i.toNat).oddity == 0) = true → sumO L l = 0
  | [], _ => rfl
  | i :: l, h => by
    simp only [List.all_cons, Bool.and_eq_true, beq_iff_eq] at h
    simp only [sumO, h.1, sumO_zero h.2]; rfl
theorem fus_tot {p : Int} {L : List Con} (h : fusM p L = true) : ∀ l ∈ partsM L, l ≠ [] ∧ inR L.length l ∧ totM L l = (at_ L (l.getD 0 0).toNat).oddity := by
  intro l hl
  obtain ⟨h1, h2, _⟩ := parts_rows l hl
  refine ⟨h1, h2, ?_⟩
  rw [← fus_eq] at h
  simp only [fusT, Bool.and_eq_true] at h
  obtain ⟨_, h3, h4⟩ := h
  have h5 := List.all_eq_true.1 h4 l hl
  simp only [Bool.and_eq_true] at h5
  cases l with
  | nil => exact absurd rfl h1
  | cons i l =>
    have hz : sumO L l = 0 := sumO_zero h5.1
    have hi := h2 i List.mem_cons_self
    have hf := (all_at _).1 h3 i.toNat (by omega)
    simp only [Bool.and_eq_true, fusC, decide_eq_true_eq] at hf
    show (sumO L (i :: l)) % 8 = (at_ L i.toNat).oddity
    simp only [sumO, hz]
    have := hf.2.1
    omega
def refM (L : List Con) : Option (List Con) := refG L (partsM L) L
theorem trG_refM {p : Int} {L : List Con} (h : fusM p L = true) : trG (partsM L) L = refM L :=
  trG_eq rfl (parts_nodup L) (fus_tot h) (fun _ _ => rfl)
end Go.Proofs.YtkkmlbhmcdoibaaGreatDoor.S

namespace Go.Proofs.YtkkmlbhmcdoibaaGreatDoor.S
open Go.QfSy Go.RowKit
def lgB (d s t : Int) : Bool := legalB ⟨0, d, s, true, t⟩
def lgN (d : Nat) (s : Bool) (t : Nat) : Bool := Nat.beq ((t + d) % 2) 0 && (bif Nat.beq d 1 then (bif s then Nat.beq t 1 || Nat.beq t 7 else Nat.beq t 3 || Nat.beq t 5) else bif Nat.beq d 2 then (bif s then !Nat.beq t 4 else !Nat.beq t 0) else true)
def sg (s : Bool) : Int := bif s then 1 else -1
theorem lgB_tab : ((List.range 8).all fun d => [true, false].all fun s => (List.range 8).all fun t => lgB ((d + 1 : Nat) : Int) (sg s) ((t : Nat) : Int) == lgN (d + 1) s t) = true := by kernel_rfl
theorem lgN_tab : ((List.range 7).all fun d => (List.range 7).all fun e => (!Nat.ble (d + e + 2) 8) || ([true, false].all fun s => [true, false].all fun r => (List.range 8).all fun tot => ((List.range 8).any fun t => lgN (d + 1) s t && lgN (e + 1) r ((tot + 8 - t) % 8)) == lgN (d + e + 2) (s == r) tot)) = true := by kernel_rfl
theorem lgB_N {d t : Nat} {s : Bool} (h1 : 1 ≤ d) (h2 : d ≤ 8) (ht : t < 8) : lgB (d : Int) (sg s) (t : Int) = lgN d s t := by
  have h := lgB_tab
  rw [List.all_eq_true] at h
  have h := h (d - 1) (by simp; omega)
  rw [List.all_eq_true] at h
  have h := h s (by cases s <;> simp)
  rw [List.all_eq_true] at h
  have h := h t (by simp; omega)
  rw [show d - 1 + 1 = d by omega] at h
  exact beq_iff_eq.1 h
theorem lg_two {d e tot : Nat} {s r : Bool} (h1 : 1 ≤ d) (h2 : 1 ≤ e) (h3 : d + e ≤ 8) (ht : tot < 8) : ((List.range 8).any fun t => lgN d s t && lgN e r ((tot + 8 - t) % 8)) = lgN (d + e) (s == r) tot := by
  have h := lgN_tab
  rw [List.all_eq_true] at h
  have h := h (d - 1) (by simp; omega)
  rw [List.all_eq_true] at h
  have h := h (e - 1) (by simp; omega)
  have h4 : Nat.ble (d - 1 + (e - 1) + 2) 8 = true := Nat.ble_eq_true_of_le (by omega)
  rw [h4] at h
  simp only [Bool.not_true, Bool.false_or] at h
  rw [List.all_eq_true] at h
  have h := h s (by cases s <;> simp)
  rw [List.all_eq_true] at h
  have h := h r (by cases r <;> simp)
  rw [List.all_eq_true] at h
  have h := h tot (by simp; omega)
  rw [show d - 1 + 1 = d by omega, show e - 1 + 1 = e by omega, show d - 1 + (e - 1) + 2 = d + e by omega] at h
  exact beq_iff_eq.1 h
theorem sg_of {s : Int} (h : s = 1 ∨ s = -1) : ∃ b, s = sg b := by
  rcases h with h | h
  · exact ⟨true, h⟩
  · exact ⟨false, h⟩
theorem sg_mul (a b : Bool) : sg a * sg b = sg (a == b) := by cases a <;> cases b <;> rfl
theorem lgB_two {d e s r tot : Int} (hd : 1 ≤ d) (he : 1 ≤ e) (hde : d + e ≤ 8) (hs : s = 1 ∨ s = -1) (hr : r = 1 ∨ r = -1) (ht : 0 ≤ tot ∧ tot < 8) :
    ((List.range 8).any fun t => lgB d s (t : Int) && lgB e r ((tot + 8 - (t : Int)) % 8)) = lgB (d + e) (s * r) tot := by
  obtain ⟨b, rfl⟩ := sg_of hs
  obtain ⟨c, rfl⟩ := sg_of hr
  obtain ⟨D, rfl⟩ : ∃ D : Nat, d = D := ⟨d.toNat, by omega⟩
  obtain ⟨E, rfl⟩ : ∃ E : Nat, e = E := ⟨e.toNat, by omega⟩
  obtain ⟨T, rfl⟩ : ∃ T : Nat, tot = T := ⟨tot.toNat, by omega⟩
  rw [sg_mul, show (D : Int) + (E : Int) = ((D + E : Nat) : Int) by omega, lgB_N (by omega) (by omega) (by omega), ← lg_two (by omega) (by omega) (by omega) (by omega)]
  rw [Bool.eq_iff_iff, List.any_eq_true, List.any_eq_true]
  refine exists_congr fun t => and_congr_right fun hm => ?_
  have hm : t < 8 := by simpa using hm
  rw [lgB_N (by omega) (by omega) hm, show ((T : Int) + 8 - (t : Int)) % 8 = (((T + 8 - t) % 8 : Nat) : Int) by omega, lgB_N (by omega) (by omega) (by omega)]
def sgnR (L : List Con) : List Int → Int
  | [] => 1
  | i :: l => (at_ L i.toNat).sign * sgnR L l
def oddOk (c : Con) : Prop := (0 ≤ c.exp ∧ c.exp ≤ 60) ∧ 1 ≤ c.dim ∧ (c.sign = 1 ∨ c.sign = -1) ∧ c.odd = true
theorem legal_lg {c : Con} (h : oddOk c) (t : Int) : legalB (wO c t) = lgB c.dim c.sign t := by
  obtain ⟨h1, h2, h3, h4⟩ := h
  rw [Bool.eq_iff_iff]
  simp only [lgB, legalB, decide_eq_true_eq, legalP, wO, h4]
  constructor
  · rintro ⟨_, h⟩; exact ⟨by omega, h⟩
  · rintro ⟨_, h⟩; exact ⟨h1, h⟩
theorem sgnR_pm {L : List Con} : ∀ {l : List Int}, (∀ x ∈ l, oddOk (at_ L x.toNat)) → sgnR L l = 1 ∨ sgnR L l = -1
  | [], _ => .inl rfl
  | i :: l, h => by
    have h1 := (h i List.mem_cons_self).2.2.1
    have ih := sgnR_pm (l := l) (fun x hx => h x (List.mem_cons_of_mem _ hx))
    simp only [sgnR]
    rcases h1 with h1 | h1 <;> rcases ih with ih | ih <;> rw [h1, ih] <;> simp
theorem dimR_pos {L : List Con} : ∀ {l : List Int}, l ≠ [] → (∀ x ∈ l, oddOk (at_ L x.toNat)) → 1 ≤ dimR L l
  | [], h, _ => absurd rfl h
  | [i], _, h => by have := (h i List.mem_cons_self).2.1; simp only [dimR]; omega
  | i :: j :: l, _, h => by
    have h1 := (h i List.mem_cons_self).2.1
    have ih := dimR_pos (L := L) (l := j :: l) (by simp) (fun x hx => h x (List.mem_cons_of_mem _ hx))
    simp only [dimR] at ih ⊢
    omega
theorem canR_lg {L : List Con} : ∀ {l : List Int} {tot : Int}, l ≠ [] → (∀ x ∈ l, oddOk (at_ L x.toNat)) → dimR L l ≤ 8 → 0 ≤ tot ∧ tot < 8 → canR L l tot = lgB (dimR L l) (sgnR L l) tot
  | [], _, h, _, _, _ => absurd rfl h
  | [i], tot, _, h, hd, ht => by
    have h1 := h i List.mem_cons_self
    simp only [canR, dimR, sgnR, Int.mul_one, Int.add_zero]
    rw [Bool.eq_iff_iff, List.any_eq_true]
    constructor
    · rintro ⟨t, hm, h2⟩
      have hm : t < 8 := by simpa using hm
      simp only [Bool.and_eq_true, beq_iff_eq] at h2
      rw [legal_lg h1] at h2
      have : (t : Int) = tot := by omega
      rw [← this]; exact h2.1
    · intro h2
      refine ⟨tot.toNat, by simp; omega, ?_⟩
      simp only [Bool.and_eq_true, beq_iff_eq]
      rw [legal_lg h1, show ((tot.toNat : Nat) : Int) = tot by omega]
      exact ⟨h2, by omega⟩
  | i :: j :: l, tot, _, h, hd, ht => by
    have h1 := h i List.mem_cons_self
    have h2 : ∀ x ∈ j :: l, oddOk (at_ L x.toNat) := fun x hx => h x (List.mem_cons_of_mem _ hx)
    have hp := dimR_pos (l := j :: l) (by simp) h2
    have e1 : dimR L (i :: j :: l) = (at_ L i.toNat).dim + dimR L (j :: l) := rfl
    have e2 : sgnR L (i :: j :: l) = (at_ L i.toNat).sign * sgnR L (j :: l) := rfl
    have e3 : canR L (i :: j :: l) tot = (List.range 8).any fun t => legalB (wO (at_ L i.toNat) (t : Int)) && canR L (j :: l) ((tot + 8 - (t : Int)) % 8) := rfl
    have h3 := h1.2.1
    rw [e1] at hd
    rw [e1, e2, e3, ← lgB_two h3 hp hd h1.2.2.1 (sgnR_pm h2) ht]
    congr 1
    funext t
    rw [legal_lg h1, canR_lg (by simp) h2 (by omega) (by omega)]
theorem findT_some {p : Nat → Bool} : ∀ {n t t0 : Nat}, findT p n t = some t0 → p t0 = true ∧ t ≤ t0 ∧ t0 < t + n ∧ ∀ u, t ≤ u → u < t0 → p u = false
  | 0, _, _, h => by cases h
  | n + 1, t, t0, h => by
    simp only [findT] at h
    cases hp : p t with
    | true =>
      rw [hp] at h
      cases h
      exact ⟨hp, by omega, by omega, fun u _ _ => by omega⟩
    | false =>
      rw [hp] at h
      obtain ⟨h1, h2, h3, h4⟩ := findT_some (show findT p n (t + 1) = some t0 from h)
      refine ⟨h1, by omega, by omega, fun u hu hu' => ?_⟩
      rcases Nat.lt_or_ge t u with hlt | hlt
      · exact h4 u (by omega) hu'
      · have : u = t := by omega
        rw [this]; exact hp
theorem trF_agr : ∀ {l : List Int} {tot : Int} {M R : List Con}, (∀ x ∈ l, 0 ≤ x) → trF l tot M = some R → agr l R M
  | [], tot, M, R, _, h => by cases h; exact .refl _ _
  | i :: l, tot, M, R, h0, h => by
    simp only [trF] at h
    split at h
    · cases h
    · rename_i t ht
      have := trF_agr (fun x hx => h0 x (List.mem_cons_of_mem _ hx)) h
      exact (this.mono (fun x hx => List.mem_cons_of_mem _ hx)).trans (setO_agr (h0 i List.mem_cons_self) List.mem_cons_self)
theorem trF_ok : ∀ {l : List Int} {tot : Int} {M R : List Con}, l.Nodup → inR M.length l → canR M l tot = true → trF l tot M = some R → (∀ x ∈ l, legalB (at_ R x.toNat) = true) ∧ (sumO R l - tot) % 8 = 0
  | [], tot, M, R, _, _, hc, h => by
    have : tot = 0 := by simpa [canR] using hc
    exact ⟨fun x hx => by simp at hx, by simp [sumO, this]⟩
  | i :: l, tot, M, R, hd, hl, hc, h => by
    simp only [trF] at h
    split at h
    · cases h
    · rename_i t ht
      obtain ⟨h1, _, h2, _⟩ := findT_some ht
      simp only [lstP, Bool.and_eq_true] at h1
      have hi := hl i List.mem_cons_self
      have hl' : ∀ x ∈ l, 0 ≤ x ∧ x < (M.length : Int) := fun x hx => hl x (List.mem_cons_of_mem _ hx)
      rw [List.nodup_cons] at hd
      have ha := trF_agr (fun x hx => (hl' x hx).1) h
      have hc' : canR (setO M i (t : Int)) l ((tot - (t : Int) + 8) % 8) = true := by
        rw [canR_agr (setO_agr (l := [i]) hi.1 (by simp)).eq]; exact h1.2
      obtain ⟨h3, h4⟩ := trF_ok hd.2 (by rw [setO_len]; exact hl') hc' h
      have e : at_ R i.toNat = wO (at_ M i.toNat) (t : Int) := by
        rw [ha.out i.toNat (by rw [Int.toNat_of_nonneg hi.1]; exact hd.1), at_own (by omega)]
      refine ⟨fun x hx => ?_, ?_⟩
      · rcases List.mem_cons.1 hx with rfl | hx
        · rw [e]; exact h1.1
        · exact h3 x hx
      · have e2 : (at_ R i.toNat).oddity = (t : Int) := by rw [e]; rfl
        simp only [sumO, e2]
        omega
end Go.Proofs.YtkkmlbhmcdoibaaGreatDoor.S

namespace Go.Proofs.YtkkmlbhmcdoibaaGreatDoor.S
open Go.QfSy Go.RowKit
def sumN (f : Nat → Int) : Nat → Int
  | 0 => 0
  | n + 1 => sumN f n + f n
def oddW (c : Con) : Int := c.oddity + (if c.exp % 2 = 1 ∧ c.sign = -1 then 4 else 0)
def oddVM (L : List Con) : Int := sumN (fun k => oddW (at_ L k)) L.length % 8
theorem sumN_add (f g : Nat → Int) (n : Nat) : sumN (fun k => f k + g k) n = sumN f n + sumN g n := by
  induction n with
  | zero => rfl
  | succ n ih => simp only [sumN, ih]; omega
theorem sumN_ind (a : Nat) (c : Int) (n : Nat) : sumN (fun k => if k = a then c else 0) n = if a < n then c else 0 := by
  induction n with
  | zero => simp [sumN]
  | succ n ih =>
    simp only [sumN, ih]
    by_cases h1 : a < n
    · rw [if_pos h1, if_neg (by omega), if_pos (by omega)]; omega
    · by_cases h2 : n = a
      · rw [if_neg h1, if_pos h2, if_pos (by omega)]; omega
      · rw [if_neg h1, if_neg h2, if_neg (by omega)]; omega
theorem sumN_mod {f g d : Nat → Int} : ∀ {n : Nat}, (∀ k, k < n → (f k - g k - 4 * d k) % 8 = 0) → (sumN f n - sumN g n - 4 * sumN d n) % 8 = 0
  | 0, _ => rfl
  | n + 1, h => by
    have h1 := h n (by omega)
    have ih := sumN_mod (f := f) (g := g) (d := d) (n := n) (fun k hk => h k (by omega))
    simp only [sumN]
    omega
def expB (L : List Con) (k : Nat) : Int := if (at_ L k).exp % 2 = 1 then 1 else 0
def chg (L : List Con) (i k : Nat) : Int := (if k = i then expB L i else 0) + (if k = i - 1 then expB L (i - 1) else 0) + (if hitB L i k = true then 1 else 0)
theorem sgn4 (e s : Int) (hs : s = 1 ∨ s = -1) (b : Bool) : ((if e % 2 = 1 ∧ (bif b then -s else s) = -1 then (4 : Int) else 0) - (if e % 2 = 1 ∧ s = -1 then (4 : Int) else 0) - 4 * (if b = true then (if e % 2 = 1 then 1 else 0) else 0)) % 8 = 0 := by
  by_cases he : e % 2 = 1
  · cases b <;> rcases hs with h | h <;> subst h <;> simp [he]
  · cases b <;> simp [he]
theorem chg_at {L : List Con} (hL : okL L) {i k : Nat} (h1 : 1 ≤ i) (h2 : i < L.length) (hk : k < L.length) : (oddW (at_ (stepM L i) k) - oddW (at_ L k) - 4 * chg L i k) % 8 = 0 := by
  have ho := (hL.at hk).2.2.2
  have hsg := (hL.at hk).2.2.1
  rw [step_at h1 h2 hk]
  unfold oddW stepC chg
  simp only
  have hexp : ∀ e : Int, (if k = i then expB L i else 0) + (if k = i - 1 then expB L (i - 1) else 0) = (if (k == i || k == i - 1) = true then expB L k else 0) := by
    intro _
    by_cases e1 : k = i
    · subst e1; rw [if_pos rfl, if_neg (by omega)]; simp
    · by_cases e2 : k = i - 1
      · subst e2; rw [if_neg e1, if_pos rfl]; simp
      · rw [if_neg e1, if_neg e2]; simp [e1, e2]
  rw [hexp 0]
  have hd : ∀ b : Bool, ((bif b then ((at_ L k).oddity + 4) % 8 else (at_ L k).oddity) - (at_ L k).oddity - 4 * (if b = true then 1 else 0)) % 8 = 0 := by
    intro b; cases b
    · simp
    · simp only [cond_true, if_true]; omega
  have hs := fun b => sgn4 (at_ L k).exp (at_ L k).sign hsg b
  have a1 := hd (hitB L i k)
  have a2 := hs (k == i || k == i - 1)
  unfold expB
  omega
theorem odd_step {L : List Con} (hL : okL L) {i : Nat} (h1 : 1 ≤ i) (h2 : i < L.length) (hl : linkM L i = true) : oddVM (stepM L i) = oddVM L := by
  have hm := sumN_mod (f := fun k => oddW (at_ (stepM L i) k)) (g := fun k => oddW (at_ L k)) (d := chg L i) (n := L.length) (fun k hk => chg_at hL h1 h2 hk)
  have b1 := part0 (L := L) (by omega) ((i : Int) - 1)
  have b2 := part0 (L := L) (by omega) (i : Int)
  have e0 : ((i - 1 : Nat) : Int) = (i : Int) - 1 := by omega
  have pA : 0 < (partM L ((i : Int) - 1)).length ↔ oddB L (i - 1) = true := by
    rw [← e0]
    constructor
    · intro h
      cases ho : oddB L (i - 1) with
      | true => rfl
      | false => rw [partM_even (fun h => by rw [h.2] at ho; cases ho)] at h; simp at h
    · intro h; exact pos_of_mem (partM_odd (by omega) h).2
  have pB : 0 < (partM L (i : Int)).length ↔ oddB L i = true := by
    constructor
    · intro h
      cases ho : oddB L i with
      | true => rfl
      | false => rw [partM_even (fun h => by rw [h.2] at ho; cases ho)] at h; simp at h
    · intro h; exact pos_of_mem (partM_odd h2 h).2
  -- the number of oddities that change
  have hits : ∀ c : Int, (∀ k, k < L.length → (if hitB L i k = true then (1 : Int) else 0) = (if k = ((partM L ((i : Int) - 1)).getD 0 0).toNat then (if oddB L (i - 1) = true then 1 else 0) else 0) + (if k = ((partM L (i : Int)).getD 0 0).toNat then c else 0)) →
      sumN (chg L i) L.length = expB L i + expB L (i - 1) + (if oddB L (i - 1) = true then 1 else 0) + c := by
    intro c hc
    have e : ∀ n, n ≤ L.length → sumN (chg L i) n = sumN (fun k => ((if k = i then expB L i else 0) + (if k = i - 1 then expB L (i - 1) else 0)) + ((if k = ((partM L ((i : Int) - 1)).getD 0 0).toNat then (if oddB L (i - 1) = true then 1 else 0) else 0) + (if k = ((partM L (i : Int)).getD 0 0).toNat then c else 0))) n := by
      intro n
      induction n with
      | zero => intro _; rfl
      | succ n ih =>
        intro hn
        simp only [sumN]
        rw [ih (by omega)]
        unfold chg
        rw [hc n (by omega)]
    have f1 : i - 1 < L.length := by omega
    have f2 : ((partM L ((i : Int) - 1)).getD 0 0).toNat < L.length := by omega
    have f3 : ((partM L (i : Int)).getD 0 0).toNat < L.length := by omega
    rw [e _ (Nat.le_refl _), sumN_add, sumN_add, sumN_add, sumN_ind, sumN_ind, sumN_ind, sumN_ind, if_pos h2, if_pos f1, if_pos f2, if_pos f3]
    omega
  have fin : ∀ m : Int, sumN (chg L i) L.length = 2 * m → oddVM (stepM L i) = oddVM L := by
    intro m hc
    unfold oddVM
    rw [stepM_len]
    rw [hc] at hm
    omega
  have hp : ∀ k, (((partM L ((i : Int) - 1)).getD 0 0).toNat == k) = decide (k = ((partM L ((i : Int) - 1)).getD 0 0).toNat) := by
    intro k; rw [Bool.eq_iff_iff, beq_iff_eq, decide_eq_true_eq]; exact eq_comm
  have hq : ∀ k, (((partM L (i : Int)).getD 0 0).toNat == k) = decide (k = ((partM L (i : Int)).getD 0 0).toNat) := by
    intro k; rw [Bool.eq_iff_iff, beq_iff_eq, decide_eq_true_eq]; exact eq_comm
  have hit : ∀ k, hitB L i k = ((oddB L (i - 1) && decide (k = ((partM L ((i : Int) - 1)).getD 0 0).toNat)) || (oddB L i && decide (k = ((partM L (i : Int)).getD 0 0).toNat))) := by
    intro k
    unfold hitB
    rw [hp, hq]
    have dA : decide (0 < (partM L ((i : Int) - 1)).length) = oddB L (i - 1) := by rw [Bool.eq_iff_iff, decide_eq_true_eq]; exact pA
    have dB : decide (0 < (partM L (i : Int)).length) = oddB L i := by rw [Bool.eq_iff_iff, decide_eq_true_eq]; exact pB
    rw [dA, dB]
  unfold linkM at hl
  cases d1 : ((at_ L i).exp - (at_ L (i - 1)).exp == 1) with
  | true =>
    rw [d1] at hl
    have d1 := beq_iff_eq.1 d1
    have hx : expB L i + expB L (i - 1) = 1 := by unfold expB; split <;> split <;> omega
    cases oA : oddB L (i - 1) with
    | true =>
      have oA' : (at_ L (i - 1)).odd = true := oA
      cases oB : oddB L i with
      | true =>
        have hj : joinB L i = true := by
          unfold joinB
          rw [oA', decide_eq_true (by omega), decide_eq_true (by omega)]; rfl
        have ep := join_part h2 oB hj
        refine fin 1 ?_
        rw [hits 0 (fun k _ => ?_), oA]
        · simp; omega
        · rw [hit, oA, oB, ep]; simp
      | false =>
        refine fin 1 ?_
        rw [hits 0 (fun k _ => ?_), oA]
        · simp; omega
        · rw [hit, oA, oB]; simp
    | false =>
      have oA' : (at_ L (i - 1)).odd = false := oA
      cases oB : oddB L i with
      | true =>
        refine fin 1 ?_
        rw [hits 1 (fun k _ => ?_), oA]
        · simp; omega
        · rw [hit, oA, oB]; simp
      | false =>
        have oB' : (at_ L i).odd = false := oB
        rw [oA', oB'] at hl; cases hl
  | false =>
    rw [d1] at hl
    cases d2 : ((at_ L i).exp - (at_ L (i - 1)).exp == 2) with
    | false => rw [d2] at hl; cases hl
    | true =>
      rw [d2] at hl
      simp only [cond_false, cond_true, Bool.and_eq_true] at hl
      have d2 := beq_iff_eq.1 d2
      have hx : expB L i = expB L (i - 1) := by unfold expB; split <;> split <;> omega
      have oA : oddB L (i - 1) = true := hl.1
      have oB : oddB L i = true := hl.2
      have hj : joinB L i = false := by
        unfold joinB
        rw [decide_eq_false (p := (at_ L (i - 1)).exp = (at_ L i).exp - 1) (by omega)]; simp
      have hne := apart_part h2 oB hj (by omega) oA
      refine fin (expB L i + 1) ?_
      rw [hits 1 (fun k _ => ?_), oA]
      · simp; omega
      · rw [hit, oA, oB]
        simp only [Bool.true_and, if_true]
        by_cases e1 : k = ((partM L ((i : Int) - 1)).getD 0 0).toNat
        · have e2 : ¬ k = ((partM L (i : Int)).getD 0 0).toNat := by omega
          rw [decide_eq_true e1, decide_eq_false e2, if_pos e1, if_neg e2]; rfl
        · rw [decide_eq_false e1, if_neg e1]
          by_cases e2 : k = ((partM L (i : Int)).getD 0 0).toNat
          · rw [decide_eq_true e2, if_pos e2]; rfl
          · rw [decide_eq_false e2, if_neg e2]; rfl
end Go.Proofs.YtkkmlbhmcdoibaaGreatDoor.S

namespace Go.Proofs.YtkkmlbhmcdoibaaGreatDoor.S
open Go.QfSy Go.RowKit
theorem first_mem {l : List Int} (h : l ≠ []) : l.getD 0 0 ∈ l := by cases l with | nil => exact absurd rfl h | cons a l => simp
theorem trG_ok : ∀ {P : List (List Int)} {M : List Con}, P.flatten.Nodup → (∀ l ∈ P, l ≠ [] ∧ inR M.length l) → (∀ l ∈ P, canR M l (at_ M (l.getD 0 0).toNat).oddity = true) →
    ∃ R, trG P M = some R ∧ agr P.flatten R M ∧ ∀ l ∈ P, (∀ x ∈ l, legalB (at_ R x.toNat) = true) ∧ (sumO R l - (at_ M (l.getD 0 0).toNat).oddity) % 8 = 0
  | [], M, _, _, _ => ⟨M, rfl, .refl _ _, fun l hl => by simp at hl⟩
  | l :: P, M, hd, hP, hc => by
    obtain ⟨h1, h2⟩ := hP l List.mem_cons_self
    have hc1 := hc l List.mem_cons_self
    obtain ⟨a1, a2, a3⟩ := ref_spec (l := l) (n := M.length) h2
    have ht := a3 _ M M rfl hc1 (.refl _ _)
    generalize (refF l (at_ M (l.getD 0 0).toNat).oddity M).2 = M1 at ht
    simp only [List.flatten_cons, List.nodup_append] at hd
    have ha := trF_agr (fun x hx => (h2 x hx).1) ht
    have hok := trF_ok hd.1 h2 hc1 ht
    have hout : ∀ q ∈ P, ∀ x ∈ q, at_ M1 x.toNat = at_ M x.toNat := fun q hq x hx => ha.out x.toNat (fun hm => by
      have hx0 := ((hP q (List.mem_cons_of_mem _ hq)).2 x hx).1
      rw [Int.toNat_of_nonneg hx0] at hm
      exact hd.2.2 x hm x (List.mem_flatten.2 ⟨q, hq, hx⟩) rfl)
    have hP' : ∀ q ∈ P, q ≠ [] ∧ inR M1.length q := fun q hq => by rw [ha.len]; exact hP q (List.mem_cons_of_mem _ hq)
    have hfirst : ∀ q ∈ P, at_ M1 (q.getD 0 0).toNat = at_ M (q.getD 0 0).toNat := fun q hq => hout q hq _ (first_mem (hP' q hq).1)
    obtain ⟨R, r1, r2, r3⟩ := trG_ok hd.2.1 hP' (fun q hq => by rw [canR_agr ha.eq, hfirst q hq]; exact hc q (List.mem_cons_of_mem _ hq))
    refine ⟨R, by simp only [trG, ht]; exact r1, (r2.mono (fun x hx => by simp only [List.flatten_cons, List.mem_append]; exact .inr hx)).trans (ha.mono (fun x hx => by simp only [List.flatten_cons, List.mem_append]; exact .inl hx)), fun q hq => ?_⟩
    rcases List.mem_cons.1 hq with rfl | hq
    · have e : ∀ x ∈ q, at_ R x.toNat = at_ M1 x.toNat := fun x hx => r2.out x.toNat (fun hm => by
        rw [Int.toNat_of_nonneg (h2 x hx).1] at hm
        exact hd.2.2 x hx x hm rfl)
      exact ⟨fun x hx => by rw [e x hx]; exact hok.1 x hx, by rw [sumO_agree e]; exact hok.2⟩
    · rw [← hfirst q hq]; exact r3 q hq
theorem sumN_dim {L : List Con} : ∀ {k : Nat}, k ≤ L.length → sumN (fun j => (at_ L j).dim) k = dimS (L.take k)
  | 0, _ => rfl
  | k + 1, h => by rw [sumN, sumN_dim (by omega), dimS_take (by omega)]
theorem dimR_append (L : List Con) (a b : List Int) : dimR L (a ++ b) = dimR L a + dimR L b := by
  induction a with
  | nil => simp [dimR]
  | cons c a ih => simp only [List.cons_append, dimR, ih]; omega
theorem dimR_iv {L : List Con} {s : Nat} : ∀ {n : Nat}, dimR L (ivN s n) = sumN (fun j => (at_ L j).dim) (s + n) - sumN (fun j => (at_ L j).dim) s
  | 0 => by simp [ivN, dimR]
  | n + 1 => by
    rw [ivN_append, dimR_append, dimR_iv, show s + (n + 1) = (s + n) + 1 from rfl]
    have e : sumN (fun j => (at_ L j).dim) (s + n + 1) = sumN (fun j => (at_ L j).dim) (s + n) + (at_ L (s + n)).dim := rfl
    rw [e]
    simp only [dimR, Int.toNat_natCast]
    omega
theorem sumN_mono {f : Nat → Int} : ∀ {n m : Nat}, n ≤ m → (∀ k, k < m → 0 ≤ f k) → sumN f n ≤ sumN f m
  | n, 0, h, _ => by have : n = 0 := by omega
                     subst this; exact Int.le_refl _
  | n, m + 1, h, hf => by
    rcases Nat.lt_or_ge n (m + 1) with h1 | h1
    · have := sumN_mono (f := f) (n := n) (m := m) (by omega) (fun k hk => hf k (by omega))
      have := hf m (by omega)
      simp only [sumN]; omega
    · have : n = m + 1 := by omega
      subst this; exact Int.le_refl _
theorem row_dim {L : List Con} (h : fusM 2 L = true) {l : List Int} (hl : l ∈ partsM L) : dimR L l ≤ 8 := by
  obtain ⟨_, _, _, hd, hF⟩ := fus_parts h
  obtain ⟨s, n, rfl, _, hb⟩ := part_row hl
  have hin := (parts_rows _ hl).2.1
  have hlast : s + (n + 1) ≤ L.length := by
    have := (hin ((s + n : Nat) : Int) (mem_ivN.2 (by omega))).2
    omega
  rw [dimR_iv]
  have e : sumN (fun j => (at_ L j).dim) L.length = dimS L := by rw [sumN_dim (Nat.le_refl _), List.take_length]
  have h1 := sumN_mono (f := fun j => (at_ L j).dim) (n := s + (n + 1)) (m := L.length) hlast (fun k hk => by have := (hF k hk).dim.1; show 0 ≤ (at_ L k).dim; omega)
  have h2 := sumN_mono (f := fun j => (at_ L j).dim) (n := 0) (m := s) (by omega) (fun k hk => by have := (hF k (by omega)).dim.1; show 0 ≤ (at_ L k).dim; omega)
  have h3 : sumN (fun j => (at_ L j).dim) 0 = 0 := rfl
  omega
theorem row_ok {L : List Con} (h : fusM 2 L = true) {l : List Int} (hl : l ∈ partsM L) : ∀ x ∈ l, oddOk (at_ L x.toNat) := by
  intro x hx
  obtain ⟨h1, h2, h3⟩ := row_odd hl x hx
  have := (fus_parts h).2.2.2.2 x.toNat (by omega)
  exact ⟨this.exp, this.dim.1, this.sign, h3⟩
def lgRow (L : List Con) (l : List Int) : Bool := lgB (dimR L l) (sgnR L l) (at_ L (l.getD 0 0).toNat).oddity
theorem row_lg {L : List Con} (h : fusM 2 L = true) {l : List Int} (hl : l ∈ partsM L) : canR L l (at_ L (l.getD 0 0).toNat).oddity = lgRow L l := by
  obtain ⟨h1, h2, _⟩ := parts_rows l hl
  have hf := h2 _ (first_mem h1)
  have := ((fus_parts h).2.2.2.2 (l.getD 0 0).toNat (by omega)).odt
  exact canR_lg h1 (row_ok h hl) (row_dim h hl) ⟨this.1, by omega⟩
def lgAll (L : List Con) : Bool := (partsM L).all (lgRow L)
theorem agr_same {l : List Int} {A B : List Con} (h : agr l A B) : sameT A B ∧ ∀ k, (at_ A k).sign = (at_ B k).sign :=
  ⟨⟨h.len, fun k _ => ⟨(congrArg Con.exp (h.eq k) :), (congrArg Con.odd (h.eq k) :), (congrArg Con.dim (h.eq k) :)⟩⟩, fun k => (congrArg Con.sign (h.eq k) :)⟩
theorem con_ext {c d : Con} (h1 : c.exp = d.exp) (h2 : c.dim = d.dim) (h3 : c.sign = d.sign) (h4 : c.odd = d.odd) (h5 : c.oddity = d.oddity) : c = d := by
  cases c; cases d; simp_all
theorem ref_some {L : List Con} (h : fusM 2 L = true) (hl : lgAll L = true) : ∃ R, refM L = some R ∧ agr (partsM L).flatten R L ∧ val2M 2 R = true ∧ fuseM R = L := by
  rw [← trG_refM h]
  rw [lgAll, List.all_eq_true] at hl
  obtain ⟨R, r1, r2, r3⟩ := trG_ok (parts_nodup L) (fun l hl => ⟨(parts_rows l hl).1, (parts_rows l hl).2.1⟩) (fun l hm => by rw [row_lg h hm]; exact hl l hm)
  obtain ⟨hs, hsg⟩ := agr_same r2
  obtain ⟨f1, f2, f3, f4, f5⟩ := fus_parts h
  refine ⟨R, r1, r2, ?_, ?_⟩
  · rw [val2_sh, shape_same hs, Bool.and_eq_true]
    refine ⟨?_, (all_at _).2 (fun k hk => ?_)⟩
    · have h' := h
      rw [← fus_eq] at h'
      simp only [fusT, Bool.and_eq_true] at h'
      exact h'.1
    · have hk' : k < L.length := by rw [← hs.1]; exact hk
      cases ho : oddB L k with
      | true =>
        obtain ⟨p1, p2⟩ := partM_odd hk' ho
        have := (r3 _ p1).1 _ p2
        simpa using this
      | false =>
        rw [r2.out k (fun hm => by have := (mem_parts.1 hm).2; rw [ho] at this; cases this)]
        have hF := f5 k hk'
        have ho : (at_ L k).odd = false := ho
        refine decide_eq_true ⟨hF.exp, hF.dim, hF.sign, hF.odt, fun _ => hF.even ho, fun h => by rw [ho] at h; cases h⟩
  · refine list_ext (by rw [fuseM_len]; exact hs.1) (fun k hk => ?_)
    rw [fuseM_len] at hk
    have hk' : k < L.length := by rw [← hs.1]; exact hk
    obtain ⟨q1, q2, q3⟩ := hs.2 k hk
    cases ho : oddB L k with
    | false =>
      have ho' : oddB R k = false := by unfold oddB; rw [q2]; exact ho
      rw [fuseM_even ho' hk]
      exact r2.out k (fun hm => by have := (mem_parts.1 hm).2; rw [ho] at this; cases this)
    | true =>
      obtain ⟨p1, p2⟩ := partM_odd hk' ho
      obtain ⟨g1, g2⟩ := fuseM_same (L := R)
      have g2 := g2 k (by rw [fuseM_len]; exact hk)
      refine con_ext (g2.1.trans q1) (g2.2.2.trans q3) (sign_fuseM.trans (hsg k)) (g2.2.1.trans q2) ?_
      rw [fuseM_at (by rw [parts_same hs]; exact p1) p2]
      have ft := (fus_tot h) _ p1
      split
      · rename_i hk1
        have e := (r3 _ p1).2
        rw [← hk1] at e
        simp only [Int.toNat_natCast] at e
        have := (f5 k hk').odt
        unfold totM
        omega
      · rename_i hk1
        have h' := h
        rw [← fus_eq] at h'
        simp only [fusT, Bool.and_eq_true] at h'
        have := List.all_eq_true.1 h'.2.2 _ p1
        simp only [Bool.and_eq_true, zerR] at this
        have := List.all_eq_true.1 this.1 (k : Int) (by
          generalize partM L (k : Int) = q at p2 hk1
          cases q with
          | nil => simp at p2
          | cons a q =>
            rcases List.mem_cons.1 p2 with e | e
            · exact absurd e hk1
            · exact e)
        rw [beq_iff_eq, Int.toNat_natCast] at this
        exact this.symm
end Go.Proofs.YtkkmlbhmcdoibaaGreatDoor.S

namespace Go.Proofs.YtkkmlbhmcdoibaaGreatDoor.S
open Go.QfSy Go.RowKit
theorem canS_same {L : List Con} {k : Nat} (h1 : 1 ≤ k) (h2 : k < L.length) : sameT (canS L k) L := by
  unfold canS
  cases ((at_ L k).sign == -1 && linkM L k)
  · exact sameT.refl L
  · exact step_same h1 h2
theorem canS_fus {L : List Con} {k : Nat} (hf : fusM 2 L = true) (h1 : 1 ≤ k) (h2 : k < L.length) : fusM 2 (canS L k) = true := by
  unfold canS
  cases ((at_ L k).sign == -1 && linkM L k)
  · exact hf
  · exact fus_step hf h1 h2
theorem canS_odd {L : List Con} (hL : okL L) {k : Nat} (h1 : 1 ≤ k) (h2 : k < L.length) : oddVM (canS L k) = oddVM L := by
  unfold canS
  cases h : ((at_ L k).sign == -1 && linkM L k)
  · rfl
  · rw [Bool.and_eq_true] at h
    exact odd_step hL h1 h2 h.2
theorem canS_link {L : List Con} {k j : Nat} (h1 : 1 ≤ k) (h2 : k < L.length) (hj : j < L.length) : linkM (canS L k) j = linkM L j := by
  unfold canS
  cases ((at_ L k).sign == -1 && linkM L k)
  · rfl
  · exact link_step h1 h2 hj
theorem canS_above {L : List Con} {k j : Nat} (h1 : 1 ≤ k) (h2 : k < L.length) (hj : j < L.length) (hk : k < j) : (at_ (canS L k) j).sign = (at_ L j).sign := by
  unfold canS
  cases ((at_ L k).sign == -1 && linkM L k)
  · rfl
  · show (at_ (stepM L k) j).sign = _
    rw [step_at h1 h2 hj]
    unfold stepC
    have e1 : (j == k) = false := by rw [beq_eq_false_iff_ne]; omega
    have e2 : (j == k - 1) = false := by rw [beq_eq_false_iff_ne]; omega
    simp only [e1, e2, Bool.or_self, cond_false]
theorem canS_own {L : List Con} (hL : okL L) {k : Nat} (h1 : 1 ≤ k) (h2 : k < L.length) (hl : linkM L k = true) : (at_ (canS L k) k).sign = 1 := by
  have hs := (hL.at h2).2.2.1
  unfold canS
  rw [hl, Bool.and_true]
  cases h : ((at_ L k).sign == -1)
  · have := beq_eq_false_iff_ne.1 h
    simp only [cond_false]
    omega
  · have h3 := beq_iff_eq.1 h
    simp only [cond_true]
    rw [step_at h1 h2 h2]
    unfold stepC
    simp only [beq_self_eq_true, Bool.true_or, cond_true]
    omega
theorem canG_all : ∀ {k : Nat} {L : List Con}, okL L → fusM 2 L = true → k < L.length → (∀ j, k < j → j < L.length → linkM L j = true → (at_ L j).sign = 1) →
    sameT (canG L k) L ∧ fusM 2 (canG L k) = true ∧ oddVM (canG L k) = oddVM L ∧ (∀ j, j < L.length → linkM (canG L k) j = linkM L j) ∧ ∀ j, 0 < j → j < L.length → linkM L j = true → (at_ (canG L k) j).sign = 1
  | 0, L, hL, hf, hk, hs => ⟨sameT.refl L, hf, rfl, fun _ _ => rfl, fun j h0 hj hl => hs j h0 hj hl⟩
  | k + 1, L, hL, hf, hk, hs => by
    have hlen := canS_len (L := L) (k := k + 1)
    obtain ⟨g1, g2, g3, g4, g5⟩ := canG_all (k := k) (L := canS L (k + 1)) (canS_ok hL hk) (canS_fus hf (by omega) hk) (by rw [hlen]; omega) (fun j h1 h2 h3 => by
      rw [hlen] at h2
      rw [canS_link (by omega) hk h2] at h3
      rcases Nat.lt_or_ge (k + 1) j with h4 | h4
      · rw [canS_above (by omega) hk h2 h4]; exact hs j h4 h2 h3
      · have e : j = k + 1 := by omega
        subst e
        exact canS_own hL (by omega) hk h3)
    simp only [canG]
    refine ⟨g1.trans (canS_same (by omega) hk), g2, g3.trans (canS_odd hL (by omega) hk), fun j hj => ?_, fun j h0 hj hl => ?_⟩
    · rw [g4 j (by rw [hlen]; exact hj), canS_link (by omega) hk hj]
    · exact g5 j h0 (by rw [hlen]; exact hj) (by rw [canS_link (by omega) hk hj]; exact hl)
theorem canM_all {L : List Con} (h : val2M 2 L = true) : sameT (canM L) L ∧ fusM 2 (canM L) = true ∧ oddVM (canM L) = oddVM (fuseM L) ∧ ∀ j, 0 < j → j < L.length → linkM (canM L) j = true → (at_ (canM L) j).sign = 1 := by
  obtain ⟨a, b, c, d⟩ := val2_ok h
  have hl := fuseM_len (L := L)
  obtain ⟨g1, g2, g3, g4, g5⟩ := canG_all (k := (fuseM L).length - 1) (L := fuseM L) (fuseM_ok a) (fus_fuse h) (by omega) (fun j h1 h2 => by omega)
  refine ⟨g1.trans fuseM_same, g2, g3, fun j h0 hj hlk => ?_⟩
  exact g5 j h0 (by omega) (by rw [← g4 j (by omega)]; exact hlk)
end Go.Proofs.YtkkmlbhmcdoibaaGreatDoor.S

namespace Go.Proofs.YtkkmlbhmcdoibaaGreatDoor.S
open Go.QfSy Go.RowKit
theorem step_comm {L : List Con} {i k : Nat} (i1 : 1 ≤ i) (i2 : i < L.length) (k1 : 1 ≤ k) (k2 : k < L.length) : stepM (stepM L i) k = stepM (stepM L k) i := by
  have hi : i < (stepM L k).length := by rw [stepM_len]; exact i2
  have hk : k < (stepM L i).length := by rw [stepM_len]; exact k2
  refine list_ext (by simp only [stepM_len]) (fun j hj => ?_)
  simp only [stepM_len] at hj
  rw [step_at k1 hk (by rw [stepM_len]; exact hj), step_at i1 hi (by rw [stepM_len]; exact hj)]
  unfold stepC
  rw [step_at i1 i2 hj, step_at k1 k2 hj, hit_same (step_same i1 i2) k j, hit_same (step_same k1 k2) i j]
  simp only [stepC]
  cases (j == k || j == k - 1) <;> cases (j == i || j == i - 1) <;> cases hitB L k j <;> cases hitB L i j <;> rfl
theorem canS_step {X : List Con} {i k : Nat} (i1 : 1 ≤ i) (ik : i < k) (k2 : k < X.length) : canS (stepM X i) k = stepM (canS X k) i := by
  have i2 : i < X.length := by omega
  have hs : (at_ (stepM X i) k).sign = (at_ X k).sign := by
    rw [step_at i1 i2 k2]
    have h1 : (k == i) = false := by rw [beq_eq_false_iff_ne]; omega
    have h2 : (k == i - 1) = false := by rw [beq_eq_false_iff_ne]; omega
    simp only [stepC, h1, h2, Bool.or_self, cond_false]
  unfold canS
  rw [hs, link_step i1 i2 k2]
  cases ((at_ X k).sign == -1 && linkM X k) with
  | false => rfl
  | true => exact step_comm i1 i2 (by omega) k2
theorem canS_step_own {X : List Con} (hX : okL X) {i : Nat} (i1 : 1 ≤ i) (i2 : i < X.length) (hl : linkM X i = true) : canS (stepM X i) i = canS X i := by
  have hs : (at_ (stepM X i) i).sign = -(at_ X i).sign := by
    rw [step_at i1 i2 i2]
    simp only [stepC, beq_self_eq_true, Bool.true_or, cond_true]
  unfold canS
  rw [hs, link_step i1 i2 i2, hl]
  have h0 := (hX.at i2).2.2.1
  rcases h0 with h0 | h0 <;> rw [h0]
  · exact step_step hX i1 i2
  · rfl
theorem canG_step {i : Nat} (i1 : 1 ≤ i) : ∀ {k : Nat} {X : List Con}, okL X → i < X.length → linkM X i = true → i ≤ k → k < X.length → canG (stepM X i) k = canG X k
  | 0, X, hX, i2, hl, hk, k2 => by omega
  | k + 1, X, hX, i2, hl, hk, k2 => by
    show canG (canS (stepM X i) (k + 1)) k = canG (canS X (k + 1)) k
    rcases Nat.lt_or_ge i (k + 1) with h | h
    · rw [canS_step i1 h k2]
      refine canG_step i1 (canS_ok hX k2) (by rw [canS_len]; exact i2) ?_ (by omega) (by rw [canS_len]; omega)
      rw [canS_link (by omega) k2 i2]; exact hl
    · have e : i = k + 1 := by omega
      subst e
      rw [canS_step_own hX i1 i2 hl]
def canF (M : List Con) : List Con := canG M (M.length - 1)
theorem canF_step {X : List Con} (hX : okL X) {i : Nat} (i1 : 1 ≤ i) (i2 : i < X.length) (hl : linkM X i = true) : canF (stepM X i) = canF X := by
  unfold canF
  rw [stepM_len]
  exact canG_step i1 hX i2 hl (by omega) (by omega)
end Go.Proofs.YtkkmlbhmcdoibaaGreatDoor.S

namespace Go.Proofs.YtkkmlbhmcdoibaaGreatDoor.S
open Go.QfSy Go.RowKit
theorem flat_nodup : ∀ {P : List (List Int)} {l : List Int}, P.flatten.Nodup → l ∈ P → l.Nodup
  | [], l, _, hl => by simp at hl
  | q :: P, l, hd, hl => by
    simp only [List.flatten_cons, List.nodup_append] at hd
    rcases List.mem_cons.1 hl with rfl | hl
    · exact hd.1
    · exact flat_nodup hd.2.1 hl
theorem ft2 {p : Int} {L : List Con} (h : fusM p L = true) {l : List Int} (hl : l ∈ partsM L) : totM L l = (at_ L (l.getD 0 0).toNat).oddity := (fus_tot h l hl).2.2
theorem canR_of {L M : List Con} (he : ∀ k, wO (at_ L k) 0 = wO (at_ M k) 0) : ∀ {l : List Int} {tot : Int}, (∀ x ∈ l, legalB (at_ L x.toNat) = true) → (sumO L l - tot) % 8 = 0 → 0 ≤ tot ∧ tot < 8 → canR M l tot = true
  | [], tot, _, hs, ht => by
    simp only [canR, beq_iff_eq]
    simp only [sumO] at hs
    omega
  | i :: l, tot, hl, hs, ht => by
    have h1 := hl i List.mem_cons_self
    have h2 := (of_decide_eq_true h1 : legalP _).2.2.2.1
    simp only [sumO] at hs
    simp only [canR]
    rw [List.any_eq_true]
    refine ⟨(at_ L i.toNat).oddity.toNat, List.mem_range.2 (by omega), ?_⟩
    rw [show (((at_ L i.toNat).oddity.toNat : Nat) : Int) = (at_ L i.toNat).oddity by omega, ← wO_eq (he i.toNat), Bool.and_eq_true]
    refine ⟨h1, canR_of he (fun x hx => hl x (List.mem_cons_of_mem _ hx)) (by omega) (by omega)⟩
theorem fuse_wO (L : List Con) (k : Nat) : wO (at_ L k) 0 = wO (at_ (fuseM L) k) 0 := by
  rcases Nat.lt_or_ge k L.length with hk | hk
  · obtain ⟨h1, h2⟩ := fuseM_same (L := L)
    have h2 := h2 k (by rw [h1]; exact hk)
    exact con_ext h2.1.symm h2.2.2.symm sign_fuseM.symm h2.2.1.symm rfl
  · have e1 : at_ L k = Con.zero := by simp [at_, List.getD_eq_getElem?_getD, List.getElem?_eq_none hk]
    have e2 : at_ (fuseM L) k = Con.zero := by simp [at_, List.getD_eq_getElem?_getD, List.getElem?_eq_none (show (fuseM L).length ≤ k by rw [fuseM_len]; exact hk)]
    rw [e1, e2]
theorem lg_fuse {L : List Con} (h : val2M 2 L = true) : lgAll (fuseM L) = true := by
  have hf := fus_fuse h
  rw [lgAll, List.all_eq_true]
  intro l hl
  rw [← row_lg hf hl]
  have hl' : l ∈ partsM L := by rw [← parts_same (fuseM_same (L := L))]; exact hl
  obtain ⟨h1, h2, _⟩ := parts_rows l hl'
  have hm := first_mem h1
  have h0 := (h2 _ hm).1
  have e : (at_ (fuseM L) (l.getD 0 0).toNat).oddity = totM L l := by
    rw [fuseM_at hl' (by rw [Int.toNat_of_nonneg h0]; exact hm), if_pos (Int.toNat_of_nonneg h0)]
  rw [e]
  refine canR_of (fuse_wO L) (fun x hx => ?_) (by unfold totM; omega) (by unfold totM; omega)
  have := (h2 x hx)
  exact decide_eq_true ((val2_parts h).2 x.toNat (by omega))
theorem lgN_flip : ((List.range 8).all fun d => [true, false].all fun s => (List.range 8).all fun t => (!lgN (d + 1) s t) || lgN (d + 1) (!s) ((t + 4) % 8)) = true := by kernel_rfl
theorem lgN_keep : ((List.range 8).all fun d => [true, false].all fun s => (List.range 8).all fun t => (!lgN (d + 1) s t) || (Nat.beq d 0 || ((Nat.beq d 1 && Nat.beq (t % 4) 0) || lgN (d + 1) s ((t + 4) % 8)))) = true := by kernel_rfl
theorem lgB_flip {d s t : Int} (hd : 1 ≤ d ∧ d ≤ 8) (hs : s = 1 ∨ s = -1) (ht : 0 ≤ t ∧ t < 8) (h : lgB d s t = true) : lgB d (-s) ((t + 4) % 8) = true := by
  obtain ⟨b, rfl⟩ := sg_of hs
  obtain ⟨D, rfl⟩ : ∃ D : Nat, d = D := ⟨d.toNat, by omega⟩
  obtain ⟨T, rfl⟩ : ∃ T : Nat, t = T := ⟨t.toNat, by omega⟩
  rw [lgB_N (by omega) (by omega) (by omega)] at h
  rw [show -(sg b) = sg (!b) by cases b <;> rfl, show ((T : Int) + 4) % 8 = (((T + 4) % 8 : Nat) : Int) by omega, lgB_N (by omega) (by omega) (by omega)]
  have k := lgN_flip
  rw [List.all_eq_true] at k
  have k := k (D - 1) (by simp; omega)
  rw [List.all_eq_true] at k
  have k := k b (by cases b <;> simp)
  rw [List.all_eq_true] at k
  have k := k T (by simp; omega)
  rw [show D - 1 + 1 = D by omega, h] at k
  simpa using k
theorem lgB_keep {d s t : Int} (hd : 2 ≤ d ∧ d ≤ 8) (hs : s = 1 ∨ s = -1) (ht : 0 ≤ t ∧ t < 8) (hb : ¬ (d = 2 ∧ t % 4 = 0)) (h : lgB d s t = true) : lgB d s ((t + 4) % 8) = true := by
  obtain ⟨b, rfl⟩ := sg_of hs
  obtain ⟨D, rfl⟩ : ∃ D : Nat, d = D := ⟨d.toNat, by omega⟩
  obtain ⟨T, rfl⟩ : ∃ T : Nat, t = T := ⟨t.toNat, by omega⟩
  rw [lgB_N (by omega) (by omega) (by omega)] at h
  rw [show ((T : Int) + 4) % 8 = (((T + 4) % 8 : Nat) : Int) by omega, lgB_N (by omega) (by omega) (by omega)]
  have k := lgN_keep
  rw [List.all_eq_true] at k
  have k := k (D - 1) (by simp; omega)
  rw [List.all_eq_true] at k
  have k := k b (by cases b <;> simp)
  rw [List.all_eq_true] at k
  have k := k T (by simp; omega)
  have k0 : Nat.beq (D - 1) 0 = false := by cases hq : Nat.beq (D - 1) 0 with | false => rfl | true => have := Nat.eq_of_beq_eq_true hq; omega
  have k1 : (Nat.beq (D - 1) 1 && Nat.beq (T % 4) 0) = false := by
    cases hq : Nat.beq (D - 1) 1 with
    | false => rfl
    | true =>
      have := Nat.eq_of_beq_eq_true hq
      cases hr : Nat.beq (T % 4) 0 with
      | false => rfl
      | true => have := Nat.eq_of_beq_eq_true hr; exact absurd ⟨by omega, by omega⟩ hb
  rw [show D - 1 + 1 = D by omega, h, k0, k1] at k
  simpa using k
theorem sgnR_step {L : List Con} {i : Nat} (h1 : 1 ≤ i) (h2 : i < L.length) : ∀ {l : List Int}, l.Nodup → inR L.length l → sgnR (stepM L i) l = sgnR L l * (if (i : Int) ∈ l then -1 else 1) * (if (i : Int) - 1 ∈ l then -1 else 1)
  | [], _, _ => by simp [sgnR]
  | x :: l, hd, hl => by
    rw [List.nodup_cons] at hd
    have hx := hl x List.mem_cons_self
    have ih := sgnR_step h1 h2 hd.2 (fun y hy => hl y (List.mem_cons_of_mem _ hy))
    simp only [sgnR]
    rw [ih, step_at h1 h2 (by omega)]
    simp only [stepC, List.mem_cons]
    by_cases e1 : (i : Int) = x
    · have n1 : (i : Int) ∉ l := by rw [e1]; exact hd.1
      have b1 : (x.toNat == i) = true := by rw [beq_iff_eq]; omega
      have n2 : ¬ (i : Int) - 1 = x := by omega
      have q1 : ((i : Int) = x ∨ (i : Int) ∈ l) := .inl e1
      have q2 : ((i : Int) - 1 = x ∨ (i : Int) - 1 ∈ l) ↔ (i : Int) - 1 ∈ l := ⟨fun h => h.resolve_left n2, .inr⟩
      simp only [if_neg n1, if_pos q1, q2, b1, Bool.true_or, cond_true, Int.mul_neg, Int.neg_mul, Int.mul_one, Int.mul_assoc]
    · by_cases e2 : (i : Int) - 1 = x
      · have n1 : (i : Int) - 1 ∉ l := by rw [e2]; exact hd.1
        have b1 : (x.toNat == i) = false := by rw [beq_eq_false_iff_ne]; omega
        have b2 : (x.toNat == i - 1) = true := by rw [beq_iff_eq]; omega
        have q1 : ((i : Int) - 1 = x ∨ (i : Int) - 1 ∈ l) := .inl e2
        have q2 : ((i : Int) = x ∨ (i : Int) ∈ l) ↔ (i : Int) ∈ l := ⟨fun h => h.resolve_left e1, .inr⟩
        simp only [if_neg n1, if_pos q1, q2, b1, b2, Bool.or_true, cond_true, Int.mul_neg, Int.neg_mul, Int.mul_one, Int.mul_assoc]
      · have b1 : (x.toNat == i) = false := by rw [beq_eq_false_iff_ne]; omega
        have b2 : (x.toNat == i - 1) = false := by rw [beq_eq_false_iff_ne]; omega
        rw [b1, b2]
        simp only [e1, e2, false_or, Bool.or_self, cond_false, Int.mul_assoc]
theorem hit_one {L : List Con} {l : List Int} (hl : l ∈ partsM L) {x : Nat} (hx : x < L.length) : (decide (0 < (partM L (x : Int)).length) && (((partM L (x : Int)).getD 0 0).toNat == (l.getD 0 0).toNat)) = decide ((x : Int) ∈ l) := by
  obtain ⟨h1, h2, _⟩ := parts_rows l hl
  cases ho : oddB L x with
  | false =>
    rw [partM_even (fun h => by rw [ho] at h; exact absurd h.2 (by simp))]
    have : (x : Int) ∉ l := fun hm => by
      have := (row_odd hl _ hm).2.2
      rw [Int.toNat_natCast, ho] at this; cases this
    simp [this]
  | true =>
    obtain ⟨p1, p2⟩ := partM_odd hx ho
    by_cases hm : (x : Int) ∈ l
    · rw [part_mem hl hm]
      simp [hm, List.length_pos_iff.2 h1]
    · have hne : ((partM L (x : Int)).getD 0 0).toNat ≠ (l.getD 0 0).toNat := by
        intro e
        obtain ⟨g1, g2, _⟩ := parts_rows _ p1
        have m1 := first_mem g1
        have m2 := first_mem h1
        have e' : (partM L (x : Int)).getD 0 0 = l.getD 0 0 := by have := (g2 _ m1).1; have := (h2 _ m2).1; omega
        rw [e'] at m1
        have := part_mem p1 m1
        rw [part_mem hl m2] at this
        rw [← this] at p2
        exact hm p2
      rw [beq_eq_false_iff_ne.2 hne, decide_eq_false hm, Bool.and_false]
theorem hit_row {L : List Con} {l : List Int} (hl : l ∈ partsM L) {i : Nat} (h1 : 1 ≤ i) (h2 : i < L.length) : hitB L i (l.getD 0 0).toNat = (decide ((i : Int) - 1 ∈ l) || decide ((i : Int) ∈ l)) := by
  unfold hitB
  rw [hit_one hl h2, show (i : Int) - 1 = ((i - 1 : Nat) : Int) by omega, hit_one hl (by omega)]
theorem dimR_len {L : List Con} : ∀ {l : List Int}, (∀ x ∈ l, oddOk (at_ L x.toNat)) → (l.length : Int) ≤ dimR L l
  | [], _ => by simp [dimR]
  | i :: l, h => by
    have h1 := (h i List.mem_cons_self).2.1
    have ih := dimR_len (l := l) (fun x hx => h x (List.mem_cons_of_mem _ hx))
    simp only [dimR, List.length_cons]; omega
theorem lg_step {L : List Con} (hf : fusM 2 L = true) {i : Nat} (h1 : 1 ≤ i) (h2 : i < L.length) (hk : linkM L i = true) (ha : lgAll L = true) : lgAll (stepM L i) = true := by
  rw [lgAll, List.all_eq_true] at ha ⊢
  intro l hl
  have hl : l ∈ partsM L := by rw [← parts_same (step_same h1 h2)]; exact hl
  have ha := ha l hl
  obtain ⟨g1, g2, _⟩ := parts_rows l hl
  obtain ⟨f1, f2, f3, f4, f5⟩ := fus_parts hf
  have hm := g2 _ (first_mem g1)
  have hF := f5 (l.getD 0 0).toNat (by omega)
  have hok := row_ok hf hl
  have hd8 := row_dim hf hl
  have hd1 := dimR_pos g1 hok
  have hsg := sgnR_pm hok
  have hnd : l.Nodup := flat_nodup (parts_nodup L) hl
  unfold lgRow at ha ⊢
  rw [dimR_same (step_same h1 h2) (by rw [stepM_len]; exact g2), sgnR_step h1 h2 hnd g2, step_at h1 h2 (by omega)]
  simp only [stepC]
  rw [hit_row hl h1 h2]
  have ht : 0 ≤ (at_ L (l.getD 0 0).toNat).oddity ∧ (at_ L (l.getD 0 0).toNat).oddity < 8 := ⟨hF.odt.1, by have := hF.odt.2; omega⟩
  by_cases m1 : (i : Int) ∈ l
  · by_cases m2 : (i : Int) - 1 ∈ l
    · rw [if_pos m1, if_pos m2]
      simp only [m1, m2, decide_true, Bool.or_self, cond_true, Int.mul_neg, Int.mul_one, Int.neg_neg]
      have hlen : 2 ≤ l.length := by
        match l, m1, m2 with
        | [], m1, _ => simp at m1
        | [a], m1, m2 => simp at m1 m2; omega
        | a :: b :: l, _, _ => simp
      have hdl := dimR_len hok
      refine lgB_keep ⟨by omega, hd8⟩ hsg ht ?_ ha
      rintro ⟨b1, b2⟩
      obtain ⟨s, n, e, _, hj⟩ := part_row hl
      have hi := mem_ivN.1 (e ▸ m1)
      have hi' := mem_ivN.1 (e ▸ m2)
      have hju := hj (i - s) (by omega)
      rw [show s + (i - s) = i by omega] at hju
      have hj1 := hju.2 (by omega)
      simp only [joinB, Bool.and_eq_true, decide_eq_true_eq] at hj1
      have ho : (at_ L i).odd = true := hju.1
      have hlk := hk
      unfold linkM at hlk
      rw [show (at_ L i).exp - (at_ L (i - 1)).exp = 1 by omega] at hlk
      rw [part_mem hl m1, hj1.2.1, ho] at hlk
      have hbad : badM L l = true := by
        match l, hlen, hdl, b1, hok, ft2 hf hl with
        | [a, b], _, _, b1, hok, ft =>
          have q1 := (hok a (by simp)).2.1
          have q2 := (hok b (by simp)).2.1
          simp only [dimR] at b1
          simp only [badM, List.length_cons, List.length_nil, decide_true, Bool.true_and, Bool.and_eq_true, beq_iff_eq]
          simp only [List.getD_cons_zero, List.getD_cons_succ] at ft b2 ⊢
          exact ⟨by omega, by omega, by rw [ft]; exact b2⟩
        | a :: b :: c :: l, _, hdl, b1, _, _ => simp only [List.length_cons] at hdl; omega
      rw [hbad] at hlk
      simp at hlk
    · rw [if_pos m1, if_neg m2]
      simp only [m1, m2, decide_true, decide_false, Bool.or_true, Bool.false_or, cond_true, Int.mul_neg, Int.mul_one, Int.neg_neg]
      exact lgB_flip ⟨hd1, hd8⟩ hsg ht ha
  · by_cases m2 : (i : Int) - 1 ∈ l
    · rw [if_neg m1, if_pos m2]
      simp only [m1, m2, decide_true, decide_false, Bool.or_false, Bool.true_or, cond_true, Int.mul_neg, Int.mul_one, Int.neg_neg]
      exact lgB_flip ⟨hd1, hd8⟩ hsg ht ha
    · rw [if_neg m1, if_neg m2]
      simp only [m1, m2, decide_false, Bool.or_self, cond_false, Int.mul_one]
      exact ha
end Go.Proofs.YtkkmlbhmcdoibaaGreatDoor.S

namespace Go.Proofs.YtkkmlbhmcdoibaaGreatDoor.S
open Go.QfSy Go.RowKit
theorem sumN_congr {f g : Nat → Int} : ∀ {n : Nat}, (∀ k, k < n → f k = g k) → sumN f n = sumN g n
  | 0, _ => rfl
  | n + 1, h => by simp only [sumN]; rw [sumN_congr (fun k hk => h k (by omega)), h n (by omega)]
end Go.Proofs.YtkkmlbhmcdoibaaGreatDoor.S

namespace Go.Proofs.YtkkmlbhmcdoibaaGreatDoor.S
open Go.QfSy Go.RowKit
def ascI (L : List Con) : Prop := ∀ i j, i < j → j < L.length → (at_ L i).exp < (at_ L j).exp
theorem at_mem {L : List Con} {k : Nat} (h : k < L.length) : at_ L k ∈ L := by
  have : at_ L k = L[k] := by simp [at_, h]
  rw [this]; exact List.getElem_mem h
theorem mem_at {L : List Con} {c : Con} (h : c ∈ L) : ∃ k, k < L.length ∧ at_ L k = c := by
  obtain ⟨k, hk, e⟩ := List.getElem_of_mem h
  exact ⟨k, hk, by simp [at_, hk, e]⟩
theorem at_cons (a : Con) (l : List Con) (k : Nat) : at_ (a :: l) (k + 1) = at_ l k := by simp [at_]
theorem asc_at : ∀ {L : List Con}, asc L → ascI L
  | [], _ => fun i j _ hj => by simp at hj
  | a :: l, h => fun i j hij hj => by
    cases j with
    | zero => omega
    | succ j =>
      rw [at_cons]
      simp only [List.length_cons] at hj
      cases i with
      | zero => exact h.1 _ (at_mem (by omega))
      | succ i => rw [at_cons]; exact asc_at h.2 i j (by omega) (by omega)
theorem at_asc : ∀ {L : List Con}, ascI L → asc L
  | [], _ => trivial
  | a :: l, h => ⟨fun x hx => by
      obtain ⟨k, hk, e⟩ := mem_at hx
      have := h 0 (k + 1) (by omega) (by simp; omega)
      rw [at_cons, e] at this
      exact this, at_asc fun i j hij hj => by
      have := h (i + 1) (j + 1) (by omega) (by simp; omega)
      rw [at_cons, at_cons] at this
      exact this⟩
theorem sh_asc : ∀ {L : List Con} {last s : Int}, shL L last s = true → asc L ∧ ∀ c ∈ L, last < c.exp
  | [], _, _, _ => ⟨trivial, by simp⟩
  | c :: l, last, s, h => by
    have h' : (shO c last s && shL l c.exp (s + c.dim)) = true := h
    simp only [Bool.and_eq_true] at h'
    obtain ⟨h1, h2⟩ := sh_asc h'.2
    have h3 := of_decide_eq_true (show decide (last < c.exp ∧ c.exp ≤ 60 ∧ 1 ≤ c.dim ∧ c.dim ≤ 8 - s) = true from h'.1)
    refine ⟨⟨h2, h1⟩, fun x hx => ?_⟩
    rcases List.mem_cons.1 hx with hx | hx
    · rw [hx]; exact h3.1
    · have := h2 x hx; omega
theorem fus_asc {L : List Con} (h : fusM 2 L = true) : ascI L := by
  rw [← fus_eq] at h
  unfold fusT shapeM at h
  simp only [Bool.and_eq_true] at h
  exact asc_at (sh_asc h.1.2.2).1
theorem val2_asc {L : List Con} (h : val2M 2 L = true) : ascI L := by
  rw [val2_sh] at h
  unfold shapeM at h
  simp only [Bool.and_eq_true] at h
  exact asc_at (sh_asc h.1.2.2).1
theorem asc_inj {L : List Con} (h : ascI L) {i j : Nat} (hi : i < L.length) (hj : j < L.length) (e : (at_ L i).exp = (at_ L j).exp) : i = j := by
  rcases Nat.lt_trichotomy i j with k | k | k
  · have := h i j k hj; omega
  · exact k
  · have := h j i k hi; omega
theorem asc_le {L : List Con} (h : ascI L) {i j : Nat} (hi : i < L.length) (e : (at_ L i).exp ≤ (at_ L j).exp) (hj : j < L.length) : i ≤ j := by
  rcases Nat.lt_or_ge j i with k | k
  · have := h j i k hi; omega
  · exact k
theorem same_asc {L M : List Con} (h : sameT L M) (hM : ascI M) : ascI L := fun i j hij hj => by
  rw [(h.2 i (by omega)).1, (h.2 j hj).1]; exact hM i j hij (by have := h.1; omega)
def odE (L : List Con) (e : Int) : Bool := L.any fun c => decide (c.exp = e) && c.odd
theorem odE_iff {L : List Con} {e : Int} : odE L e = true ↔ ∃ k, k < L.length ∧ (at_ L k).exp = e ∧ (at_ L k).odd = true := by
  unfold odE
  rw [List.any_eq_true]
  constructor
  · rintro ⟨c, hc, h⟩
    obtain ⟨k, hk, rfl⟩ := mem_at hc
    simp only [Bool.and_eq_true, decide_eq_true_eq] at h
    exact ⟨k, hk, h.1, h.2⟩
  · rintro ⟨k, hk, h1, h2⟩
    exact ⟨_, at_mem hk, by simp only [Bool.and_eq_true, decide_eq_true_eq]; exact ⟨h1, h2⟩⟩
theorem odE_at {L : List Con} (h : ascI L) {k : Nat} (hk : k < L.length) : odE L (at_ L k).exp = (at_ L k).odd := by
  cases ho : (at_ L k).odd with
  | true => exact odE_iff.2 ⟨k, hk, rfl, ho⟩
  | false =>
    cases h2 : odE L (at_ L k).exp with
    | false => rfl
    | true =>
      obtain ⟨j, hj, e, o⟩ := odE_iff.1 h2
      rw [asc_inj h hj hk e, ho] at o
      exact o.symm
theorem odE_same {L M : List Con} (h : sameT L M) (e : Int) : odE L e = odE M e := by
  have key : ∀ {A B : List Con}, sameT A B → odE A e = true → odE B e = true := fun {A B} h k => by
    obtain ⟨j, hj, e1, o⟩ := odE_iff.1 k
    have h2 := h.2 j hj
    exact odE_iff.2 ⟨j, by have := h.1; omega, by rw [← h2.1]; exact e1, by rw [← h2.2.1]; exact o⟩
  have hs : sameT M L := ⟨h.1.symm, fun k hk => by have := h.2 k (by have := h.1; omega); exact ⟨this.1.symm, this.2.1.symm, this.2.2.symm⟩⟩
  cases h1 : odE L e with
  | true => exact (key h h1).symm
  | false =>
    cases h2 : odE M e with
    | false => rfl
    | true => rw [key hs h2] at h1; cases h1
theorem join_od {L : List Con} (h : ascI L) {k : Nat} (hk : k < L.length) : joinB L k = odE L ((at_ L k).exp - 1) := by
  cases h2 : odE L ((at_ L k).exp - 1) with
  | true =>
    obtain ⟨j, hj, e, o⟩ := odE_iff.1 h2
    have h3 : j = k - 1 ∧ 0 < k := by
      rcases Nat.lt_trichotomy j k with c | c | c
      · rcases Nat.lt_or_ge j (k - 1) with c2 | c2
        · have a1 := h j (k - 1) c2 (by omega)
          have a2 := h (k - 1) k (by omega) hk
          omega
        · omega
      · subst c; omega
      · have := h k j c hj; omega
    unfold joinB
    rw [decide_eq_true h3.2, ← h3.1, o, decide_eq_true e]; rfl
  | false =>
    cases h1 : joinB L k with
    | false => rfl
    | true =>
      unfold joinB at h1
      simp only [Bool.and_eq_true, decide_eq_true_eq] at h1
      rw [odE_iff.2 ⟨k - 1, by omega, h1.2.2, h1.2.1⟩] at h2
      exact h2
structure RunL (L : List Con) (l : List Int) (a b : Int) : Prop where
  ne : a < b
  mem : ∀ k, k < L.length → ((k : Int) ∈ l ↔ a ≤ (at_ L k).exp ∧ (at_ L k).exp < b)
  od : ∀ e, a ≤ e → e < b → odE L e = true
  lo : odE L (a - 1) = false
  hi : odE L b = false
  first : (at_ L (l.getD 0 0).toNat).exp = a
  len : (l.length : Int) = b - a
  iv : ∃ s : Nat, l = ivN s l.length
theorem row_run {L : List Con} (h : ascI L) {l : List Int} (hl : l ∈ partsM L) : ∃ a b, RunL L l a b := by
  obtain ⟨s, n, he, hj, ht⟩ := part_row hl
  have hr := (parts_rows l hl).2.1
  have hin : ∀ t, t ≤ n → s + t < L.length := fun t htn => by
    have := hr ((s + t : Nat) : Int) (by rw [he, mem_ivN]; omega)
    omega
  have hexp : ∀ t, t ≤ n → (at_ L (s + t)).exp = (at_ L s).exp + (t : Int) := by
    intro t
    induction t with
    | zero => intro _; simp
    | succ t ih =>
      intro htn
      have h1 := ih (by omega)
      have h2 := (ht (t + 1) htn).2 (by omega)
      unfold joinB at h2
      simp only [Bool.and_eq_true, decide_eq_true_eq] at h2
      have h3 := h2.2.2
      rw [show s + (t + 1) - 1 = s + t by omega] at h3
      omega
  have hs : s < L.length := by have := hin 0 (by omega); omega
  have hod : ∀ t, t ≤ n → (at_ L (s + t)).odd = true := fun t htn => (ht t htn).1
  refine ⟨(at_ L s).exp, (at_ L s).exp + ((n + 1 : Nat) : Int), by omega, fun k hk => ?_, fun e h1 h2 => ?_, ?_, ?_, ?_, ?_, ⟨s, ?_⟩⟩
  · rw [he, mem_ivN]
    constructor
    · rintro ⟨k1, k2⟩
      have := hexp (k - s) (by omega)
      rw [show s + (k - s) = k by omega] at this
      omega
    · rintro ⟨k1, k2⟩
      have a1 := asc_le h hs k1 hk
      have a2 : k ≤ s + n := asc_le h hk (by rw [hexp n (by omega)]; omega) (hin n (by omega))
      omega
  · have e2 := hexp (e - (at_ L s).exp).toNat (by omega)
    exact odE_iff.2 ⟨s + (e - (at_ L s).exp).toNat, hin _ (by omega), by omega, hod _ (by omega)⟩
  · rw [← join_od h hs]; exact hj
  · cases h2 : odE L ((at_ L s).exp + ((n + 1 : Nat) : Int)) with
    | false => rfl
    | true =>
      exfalso
      obtain ⟨j, hj2, e, o⟩ := odE_iff.1 h2
      have e3 := hexp n (by omega)
      have hjj : joinB L j = true := by
        rw [join_od h hj2]
        exact odE_iff.2 ⟨s + n, hin n (by omega), by omega, hod n (by omega)⟩
      have hgt : s + n < j := by
        rcases Nat.lt_or_ge (s + n) j with c | c
        · exact c
        · have : (at_ L j).exp ≤ (at_ L (s + n)).exp := by
            rcases Nat.lt_or_ge j (s + n) with c2 | c2
            · have := h j (s + n) c2 (hin n (by omega)); omega
            · rw [show j = s + n by omega]; exact Int.le_refl _
          omega
      have hj1 : j = s + n + 1 := by
        rcases Nat.lt_or_ge (s + n + 1) j with c | c
        · have a1 := h (s + n) (s + n + 1) (by omega) (by omega)
          have a2 := h (s + n + 1) j c hj2
          omega
        · omega
      have p1 := join_part hj2 o hjj
      have p2 : partM L ((j : Int) - 1) = l := part_mem hl (by rw [he, mem_ivN]; omega)
      have p3 := (partM_odd hj2 o).2
      rw [← p1, p2, he, mem_ivN] at p3
      omega
  · rw [he, getD_ivN (by omega)]; simp
  · rw [he, ivN_len]; omega
  · rw [he, ivN_len]
end Go.Proofs.YtkkmlbhmcdoibaaGreatDoor.S

namespace Go.Proofs.YtkkmlbhmcdoibaaGreatDoor.S
open Go.QfSy Go.RowKit
def wS (w : Nat → Bool) (L : List Con) : Int := sumN (fun k => if w k = true then (at_ L k).oddity else 0) L.length
theorem sumN_zero : ∀ {n : Nat}, sumN (fun _ => 0) n = 0
  | 0 => rfl
  | n + 1 => by simp only [sumN, sumN_zero]; rfl
theorem wS_mem {L : List Con} : ∀ {l : List Int}, l.Nodup → inR L.length l → wS (fun k => decide ((k : Int) ∈ l)) L = sumO L l
  | [], _, _ => by
    unfold wS
    rw [sumN_congr (g := fun _ => 0) (fun k _ => by simp), sumN_zero]; rfl
  | i :: l, hn, hl => by
    have hn' := List.nodup_cons.1 hn
    have hi := hl i (by simp)
    have ih := wS_mem (L := L) hn'.2 (fun x hx => hl x (by simp [hx]))
    unfold wS at ih ⊢
    simp only [sumO]
    rw [← ih, sumN_congr (g := fun k => (if k = i.toNat then (at_ L i.toNat).oddity else 0) + (if decide ((k : Int) ∈ l) = true then (at_ L k).oddity else 0)) (fun k hk => ?_), sumN_add, sumN_ind, if_pos (by omega)]
    by_cases e : k = i.toNat
    · have e2 : (k : Int) = i := by omega
      rw [if_pos (by rw [decide_eq_true_eq, e2]; simp), if_pos e, if_neg (by rw [decide_eq_true_eq, e2]; exact hn'.1), e]; omega
    · have e2 : (k : Int) ≠ i := by omega
      rw [if_neg e]
      by_cases hm : (k : Int) ∈ l
      · rw [if_pos (by simp [hm]), if_pos (by simp [hm])]; omega
      · rw [if_neg (by simp [hm, e2]), if_neg (by simp [hm])]; omega
theorem wS_setO {w : Nat → Bool} {L : List Con} {i t : Int} (h0 : 0 ≤ i) (h1 : i < (L.length : Int)) : wS w (setO L i t) = wS w L - (if w i.toNat = true then (at_ L i.toNat).oddity else 0) + (if w i.toNat = true then t else 0) := by
  unfold wS
  rw [setO_len, sumN_congr (g := fun k => (if w k = true then (at_ L k).oddity else 0) + (if k = i.toNat then (if w i.toNat = true then t else 0) - (if w i.toNat = true then (at_ L i.toNat).oddity else 0) else 0)) (fun k hk => ?_), sumN_add, sumN_ind, if_pos (by omega)]
  · omega
  · rw [at_setO']
    by_cases e : k = i.toNat
    · rw [if_pos (c := i.toNat = k ∧ k < L.length) ⟨e.symm, hk⟩, if_pos e, ← e]
      cases w k <;> simp
      omega
    · rw [if_neg (c := i.toNat = k ∧ k < L.length) (by intro h; exact e h.1.symm), if_neg e]; omega
theorem wS_zeroP {w : Nat → Bool} {c : Bool} : ∀ {l : List Int} {L : List Con}, l.Nodup → inR L.length l → (∀ x ∈ l, w x.toNat = c) → wS w (zeroP L l) = wS w L - (if c = true then sumO L l else 0)
  | [], L, _, _, _ => by simp [zeroP, sumO]
  | i :: l, L, hn, hl, hw => by
    have hn' := List.nodup_cons.1 hn
    have hi := hl i (by simp)
    simp only [zeroP, sumO]
    rw [wS_zeroP hn'.2 (by rw [setO_len]; exact fun x hx => hl x (by simp [hx])) (fun x hx => hw x (by simp [hx])), wS_setO hi.1 hi.2, sumO_set hi.1 (fun x hx => ⟨(hl x (by simp [hx])).1, fun e => hn'.1 (e ▸ hx)⟩), hw i (by simp)]
    cases c <;> simp
    omega
theorem wS_fuseP {w : Nat → Bool} {c : Bool} {L0 L : List Con} {l : List Int} (hn : l.Nodup) (hl : inR L.length l) (hne : l ≠ []) (he : sumO L l = sumO L0 l) (hw : ∀ x ∈ l, w x.toNat = c) : (wS w (fuseP L0 L l) - wS w L) % 8 = 0 := by
  have hp : 0 < l.length := List.length_pos_iff.2 hne
  have h0 := hl.at hp
  have hm0 : l.getD 0 0 ∈ l := by
    cases l with
    | nil => exact absurd rfl hne
    | cons a l => simp
  have hm : (((l.getD 0 0).toNat : Nat) : Int) ∈ l := by
    rw [show (((l.getD 0 0).toNat : Nat) : Int) = l.getD 0 0 by omega]; exact hm0
  unfold fuseP
  rw [wS_setO h0.1 (by rw [zeroP_len]; exact h0.2), wS_zeroP hn hl hw, zero_at (by omega) hm (fun x hx => (hl x hx).1), he, hw _ hm0]
  unfold totM
  cases c <;> simp
  omega
theorem wS_fuseG {w : Nat → Bool} {L0 : List Con} : ∀ {P : List (List Int)} {L : List Con}, P.flatten.Nodup → (∀ l ∈ P, l ≠ [] ∧ inR L.length l) → (∀ x ∈ P.flatten, at_ L x.toNat = at_ L0 x.toNat) → (∀ l ∈ P, ∃ c, ∀ x ∈ l, w x.toNat = c) → (wS w (fuseG L0 L P) - wS w L) % 8 = 0
  | [], L, _, _, _, _ => by simp [fuseG]
  | l :: P, L, hn, hr, h, hw => by
    simp only [List.flatten_cons] at hn h
    have hd := List.nodup_append.1 hn
    have hlr := hr l (by simp)
    obtain ⟨c, hc⟩ := hw l (by simp)
    have h1 := wS_fuseP (L0 := L0) hd.1 hlr.2 hlr.1 (sumO_agree (fun x hx => h x (by simp [hx]))) hc
    have h2 := wS_fuseG (w := w) (L0 := L0) (P := P) (L := fuseP L0 L l) hd.2.1 (fun m hm => by rw [fuseP_len]; exact hr m (by simp [hm])) (fun x hx => by
      rw [at_fuseP hlr.1 (fun y hy e2 => ?_), h x (by simp [hx])]
      obtain ⟨m, hm, hxm⟩ := List.mem_flatten.1 hx
      have a1 := (hr m (by simp [hm])).2 x hxm
      have a2 := hlr.2 y hy
      exact hd.2.2 y hy x hx (by omega)) (fun m hm => hw m (by simp [hm]))
    simp only [fuseG]
    omega
theorem wS_fuse {w : Nat → Bool} {L : List Con} (hw : ∀ l ∈ partsM L, ∃ c, ∀ x ∈ l, w x.toNat = c) : (wS w (fuseM L) - wS w L) % 8 = 0 :=
  wS_fuseG (L0 := L) (L := L) (parts_nodup L) (fun l hl => ⟨(parts_rows l hl).1, (parts_rows l hl).2.1⟩) (fun _ _ => rfl) hw
def ivS (a b : Int) : List Con → Int
  | [] => 0
  | c :: l => (if a ≤ c.exp ∧ c.exp < b then c.oddity else 0) + ivS a b l
theorem ivS_append (a b : Int) : ∀ (A B : List Con), ivS a b (A ++ B) = ivS a b A + ivS a b B
  | [], B => by simp [ivS]
  | c :: A, B => by simp only [List.cons_append, ivS, ivS_append a b A B]; omega
def iw (L : List Con) (a b : Int) (k : Nat) : Bool := decide (a ≤ (at_ L k).exp ∧ (at_ L k).exp < b)
theorem ivS_take {a b : Int} {L : List Con} : ∀ {k : Nat}, k ≤ L.length → ivS a b (L.take k) = sumN (fun k => if iw L a b k = true then (at_ L k).oddity else 0) k
  | 0, _ => by simp [ivS, sumN]
  | k + 1, h => by
    rw [take_at (by omega), ivS_append, ivS_take (k := k) (by omega)]
    simp only [ivS, sumN, iw, decide_eq_true_eq]; omega
theorem ivS_wS (a b : Int) (L : List Con) : ivS a b L = wS (iw L a b) L := by
  have := ivS_take (a := a) (b := b) (L := L) (k := L.length) (Nat.le_refl _)
  rw [List.take_length] at this
  exact this
theorem iw_const {L : List Con} (h : ascI L) {a b : Int} (h1 : odE L (a - 1) = false) (h2 : odE L b = false) {l : List Int} (hl : l ∈ partsM L) : ∃ c, ∀ x ∈ l, iw L a b x.toNat = c := by
  obtain ⟨a', b', R⟩ := row_run h hl
  have k1 : ¬ (a' ≤ a - 1 ∧ a - 1 < b') := fun hh => by rw [R.od _ hh.1 hh.2] at h1; cases h1
  have k2 : ¬ (a' ≤ b ∧ b < b') := fun hh => by rw [R.od _ hh.1 hh.2] at h2; cases h2
  refine ⟨decide (a ≤ a' ∧ a' < b), fun x hx => ?_⟩
  have hr := (parts_rows l hl).2.1 x hx
  have h3 := (R.mem x.toNat (by omega)).1 (by rw [show ((x.toNat : Nat) : Int) = x by omega]; exact hx)
  have h4 := R.ne
  unfold iw
  congr 1
  rw [eq_iff_iff]
  constructor <;> intro _ <;> omega
theorem wS_congr {w w' : Nat → Bool} {L : List Con} (h : ∀ k, k < L.length → w k = w' k) : wS w L = wS w' L := sumN_congr fun k hk => by rw [h k hk]
theorem iw_same {L M : List Con} (h : sameT L M) {a b : Int} {k : Nat} (hk : k < L.length) : iw L a b k = iw M a b k := by unfold iw; rw [(h.2 k hk).1]
theorem iv_fuse {L : List Con} (h : ascI L) {a b : Int} (h1 : odE L (a - 1) = false) (h2 : odE L b = false) : (ivS a b (fuseM L) - ivS a b L) % 8 = 0 := by
  rw [ivS_wS, ivS_wS, wS_congr (w' := iw L a b) (fun k hk => iw_same fuseM_same hk)]
  exact wS_fuse fun l hl => iw_const h h1 h2 hl
theorem row_sum {L : List Con} (h : ascI L) {l : List Int} (hl : l ∈ partsM L) {a b : Int} (R : RunL L l a b) : sumO L l = ivS a b L := by
  rw [ivS_wS, ← wS_mem (flat_nodup (parts_nodup L) hl) (parts_rows l hl).2.1]
  refine wS_congr fun k hk => ?_
  unfold iw
  congr 1
  rw [eq_iff_iff]
  exact R.mem k hk
theorem iv_one {L : List Con} (h : ascI L) {k : Nat} (hk : k < L.length) : ivS (at_ L k).exp ((at_ L k).exp + 1) L = (at_ L k).oddity := by
  rw [ivS_wS]
  unfold wS
  rw [sumN_congr (g := fun j => if j = k then (at_ L k).oddity else 0) (fun j hj => ?_), sumN_ind, if_pos hk]
  by_cases e : j = k
  · subst e
    rw [if_pos (by unfold iw; rw [decide_eq_true_eq]; omega), if_pos rfl]
  · rw [if_neg e, if_neg]
    unfold iw
    rw [decide_eq_true_eq]
    intro h2
    exact e (asc_inj h hj hk (by omega))
theorem fuse_alike {S T : List Con} (hS : ascI S) (hs : sameT S T) (hg : ∀ k, k < S.length → (at_ S k).sign = (at_ T k).sign)
    (he : ∀ k, k < S.length → (at_ S k).odd = false → (at_ S k).oddity = (at_ T k).oddity)
    (hr : ∀ a b, odE S (a - 1) = false → odE S b = false → a < b → (ivS a b S - ivS a b T) % 8 = 0) : fuseM S = fuseM T := by
  have hT : ascI T := same_asc ⟨hs.1.symm, fun k hk => by have := hs.2 k (by have := hs.1; omega); exact ⟨this.1.symm, this.2.1.symm, this.2.2.symm⟩⟩ hS
  have f1 := fuseM_same (L := S)
  have f2 := fuseM_same (L := T)
  have hlen := hs.1
  have g1 := f1.1
  have g2 := f2.1
  refine list_ext (by omega) fun k hk => ?_
  have c1 := f1.2 k hk
  have c2 := f2.2 k (by omega)
  have c3 := hs.2 k (by omega)
  refine con_ext (by rw [c1.1, c2.1, c3.1]) (by rw [c1.2.2, c2.2.2, c3.2.2]) (by rw [sign_fuseM, sign_fuseM]; exact hg k (by omega)) (by rw [c1.2.1, c2.2.1, c3.2.1]) ?_
  cases ho : (at_ S k).odd with
  | false =>
    rw [fuseM_even ho (by omega), fuseM_even (L := T) (show (at_ T k).odd = false by rw [← c3.2.1]; exact ho) (by omega)]
    exact he k (by omega) ho
  | true =>
    obtain ⟨p1, p2⟩ := partM_odd (L := S) (i := k) (by omega) ho
    have p3 : partM S (k : Int) ∈ partsM T := by rw [← parts_same hs]; exact p1
    rw [fuseM_at p1 p2, fuseM_at p3 p2]
    split
    · obtain ⟨a, b, R⟩ := row_run hS p1
      obtain ⟨a', b', R'⟩ := row_run hT p3
      have e1 : a = a' := by
        rw [← R.first, ← R'.first]
        have hq := (parts_rows _ p1)
        have := hq.2.1.at (t := 0) (List.length_pos_iff.2 hq.1)
        exact (hs.2 _ (by omega)).1
      have e2 : b = b' := by have := R.len; have := R'.len; omega
      subst e1
      subst e2
      have h8 := hr a b R.lo R.hi R.ne
      rw [← row_sum hS p1 R, ← row_sum hT p3 R'] at h8
      unfold totM
      omega
    · rfl
end Go.Proofs.YtkkmlbhmcdoibaaGreatDoor.S

namespace Go.Proofs.YtkkmlbhmcdoibaaGreatDoor.S
open Go.QfSy Go.RowKit
theorem adE_lt {a b : Con} {A B : List Con} (h : a.exp < b.exp) : addM (a :: A) (b :: B) = a :: addM A (b :: B) := by rw [addM, if_pos h]
theorem adE_gt {a b : Con} {A B : List Con} (h : b.exp < a.exp) : addM (a :: A) (b :: B) = b :: addM (a :: A) B := by rw [addM, if_neg (by omega), if_pos h]
theorem adE_eq {a b : Con} {A B : List Con} (h : a.exp = b.exp) : addM (a :: A) (b :: B) = joinM a b :: addM A B := by rw [addM, if_neg (by omega), if_neg (by omega)]
theorem adE_nil (B : List Con) : addM [] B = B := by rw [addM]
theorem add_ind {motive : List Con → List Con → Prop} (h1 : ∀ B, motive [] B) (h2 : ∀ a A, motive (a :: A) [])
    (h3 : ∀ a A b B, a.exp < b.exp → motive A (b :: B) → motive (a :: A) (b :: B))
    (h4 : ∀ a A b B, b.exp < a.exp → motive (a :: A) B → motive (a :: A) (b :: B))
    (h5 : ∀ a A b B, a.exp = b.exp → motive A B → motive (a :: A) (b :: B)) : ∀ A B, motive A B
  | [], B => h1 B
  | a :: A, [] => h2 a A
  | a :: A, b :: B => by
    rcases Int.lt_trichotomy a.exp b.exp with h | h | h
    · exact h3 a A b B h (add_ind h1 h2 h3 h4 h5 A (b :: B))
    · exact h5 a A b B h (add_ind h1 h2 h3 h4 h5 A B)
    · exact h4 a A b B h (add_ind h1 h2 h3 h4 h5 (a :: A) B)
termination_by A B => A.length + B.length
theorem odE_cons (c : Con) (l : List Con) (e : Int) : odE (c :: l) e = ((decide (c.exp = e) && c.odd) || odE l e) := rfl
theorem odE_add (e : Int) (A B : List Con) : odE (addM A B) e = (odE A e || odE B e) := by
  refine add_ind (motive := fun A B => odE (addM A B) e = (odE A e || odE B e)) ?_ ?_ ?_ ?_ ?_ A B
  · intro B; rw [adE_nil]; rfl
  · intro a A; rw [addM_nil]; simp [odE]
  · intro a A b B h ih; rw [adE_lt h, odE_cons, ih, odE_cons a A, Bool.or_assoc]
  · intro a A b B h ih
    rw [adE_gt h, odE_cons, ih, odE_cons b B]
    cases (decide (b.exp = e) && b.odd) <;> cases odE (a :: A) e <;> rfl
  · intro a A b B h ih
    rw [adE_eq h, odE_cons, ih, odE_cons a A, odE_cons b B, ← h]
    show ((decide (a.exp = e) && (a.odd || b.odd)) || _) = _
    cases decide (a.exp = e) <;> cases a.odd <;> cases b.odd <;> cases odE A e <;> cases odE B e <;> rfl
theorem ivS_add (x y : Int) (A B : List Con) : (ivS x y (addM A B) - (ivS x y A + ivS x y B)) % 8 = 0 := by
  refine add_ind (motive := fun A B => (ivS x y (addM A B) - (ivS x y A + ivS x y B)) % 8 = 0) ?_ ?_ ?_ ?_ ?_ A B
  · intro B; rw [adE_nil]; simp [ivS]
  · intro a A; rw [addM_nil]; simp [ivS]
  · intro a A b B h ih; rw [adE_lt h]; simp only [ivS] at ih ⊢; omega
  · intro a A b B h ih; rw [adE_gt h]; simp only [ivS] at ih ⊢; omega
  · intro a A b B h ih
    rw [adE_eq h]
    simp only [ivS] at ih ⊢
    have e1 : (joinM a b).exp = a.exp := rfl
    have e2 : (joinM a b).oddity = (a.oddity + b.oddity) % 8 := rfl
    rw [e1, e2, ← h]
    split <;> omega
def sgE (e : Int) : List Con → Int
  | [] => 1
  | c :: l => (if c.exp = e then c.sign else 1) * sgE e l
theorem sgE_add (e : Int) (A B : List Con) : sgE e (addM A B) = sgE e A * sgE e B := by
  refine add_ind (motive := fun A B => sgE e (addM A B) = sgE e A * sgE e B) ?_ ?_ ?_ ?_ ?_ A B
  · intro B; rw [adE_nil]; simp [sgE]
  · intro a A; rw [addM_nil]; simp [sgE]
  · intro a A b B h ih; rw [adE_lt h]; simp only [sgE] at ih ⊢; rw [ih, Int.mul_assoc]
  · intro a A b B h ih; rw [adE_gt h]; simp only [sgE] at ih ⊢; rw [ih, Int.mul_left_comm]
  · intro a A b B h ih
    rw [adE_eq h]
    simp only [sgE] at ih ⊢
    have e1 : (joinM a b).exp = a.exp := rfl
    have e2 : (joinM a b).sign = a.sign * b.sign := rfl
    rw [ih, e1, e2, ← h]
    split
    · rw [Int.mul_assoc, Int.mul_assoc, Int.mul_left_comm b.sign]
    · simp
def dmE (e : Int) : List Con → Int
  | [] => 0
  | c :: l => (if c.exp = e then c.dim else 0) + dmE e l
theorem dmE_add (e : Int) (A B : List Con) : dmE e (addM A B) = dmE e A + dmE e B := by
  refine add_ind (motive := fun A B => dmE e (addM A B) = dmE e A + dmE e B) ?_ ?_ ?_ ?_ ?_ A B
  · intro B; rw [adE_nil]; simp [dmE]
  · intro a A; rw [addM_nil]; simp [dmE]
  · intro a A b B h ih; rw [adE_lt h]; simp only [dmE] at ih ⊢; omega
  · intro a A b B h ih; rw [adE_gt h]; simp only [dmE] at ih ⊢; omega
  · intro a A b B h ih
    rw [adE_eq h]
    simp only [dmE] at ih ⊢
    have e1 : (joinM a b).exp = a.exp := rfl
    have e2 : (joinM a b).dim = a.dim + b.dim := rfl
    rw [e1, e2, ← h]
    split <;> omega
theorem sgE_none {e : Int} : ∀ {L : List Con}, (∀ c ∈ L, c.exp ≠ e) → sgE e L = 1
  | [], _ => rfl
  | c :: l, h => by simp only [sgE]; rw [if_neg (h c (by simp)), sgE_none (fun x hx => h x (by simp [hx]))]; rfl
theorem dmE_none {e : Int} : ∀ {L : List Con}, (∀ c ∈ L, c.exp ≠ e) → dmE e L = 0
  | [], _ => rfl
  | c :: l, h => by simp only [dmE]; rw [if_neg (h c (by simp)), dmE_none (fun x hx => h x (by simp [hx]))]; rfl
theorem sgE_mem {c : Con} : ∀ {L : List Con}, asc L → c ∈ L → sgE c.exp L = c.sign
  | a :: l, h, hc => by
    simp only [sgE]
    rcases List.mem_cons.1 hc with hc | hc
    · rw [if_pos (by rw [hc]), sgE_none (fun x hx => by have := h.1 x hx; rw [hc]; omega), hc]; exact Int.mul_one _
    · rw [if_neg (by have := h.1 c hc; omega), sgE_mem h.2 hc]; exact Int.one_mul _
theorem dmE_mem {c : Con} : ∀ {L : List Con}, asc L → c ∈ L → dmE c.exp L = c.dim
  | a :: l, h, hc => by
    simp only [dmE]
    rcases List.mem_cons.1 hc with hc | hc
    · rw [if_pos (by rw [hc]), dmE_none (fun x hx => by have := h.1 x hx; rw [hc]; omega), hc]; omega
    · rw [if_neg (by have := h.1 c hc; omega), dmE_mem h.2 hc]; omega
theorem sgE_at {L : List Con} (h : ascI L) {k : Nat} (hk : k < L.length) : sgE (at_ L k).exp L = (at_ L k).sign := sgE_mem (at_asc h) (at_mem hk)
theorem dmE_at {L : List Con} (h : ascI L) {k : Nat} (hk : k < L.length) : dmE (at_ L k).exp L = (at_ L k).dim := dmE_mem (at_asc h) (at_mem hk)
def g0 (c : Con) : Con := ⟨c.exp, c.dim, 1, c.odd, 0⟩
theorem map_add (A B : List Con) : (addM A B).map g0 = addM (A.map g0) (B.map g0) := by
  refine add_ind (motive := fun A B => (addM A B).map g0 = addM (A.map g0) (B.map g0)) ?_ ?_ ?_ ?_ ?_ A B
  · intro B; rw [adE_nil]; simp only [List.map_nil]; rw [adE_nil]
  · intro a A; rw [addM_nil]; simp only [List.map_nil]; rw [addM_nil]
  · intro a A b B h ih; rw [adE_lt h]; simp only [List.map_cons] at ih ⊢; rw [ih, adE_lt (a := g0 a) (b := g0 b) h]
  · intro a A b B h ih; rw [adE_gt h]; simp only [List.map_cons] at ih ⊢; rw [ih, adE_gt (a := g0 a) (b := g0 b) h]
  · intro a A b B h ih; rw [adE_eq h]; simp only [List.map_cons] at ih ⊢; rw [ih, adE_eq (a := g0 a) (b := g0 b) h]; rfl
theorem at_map {L : List Con} {k : Nat} (hk : k < L.length) : at_ (L.map g0) k = g0 (at_ L k) := by simp [at_, hk]
theorem same_map {S T : List Con} (h : S.map g0 = T.map g0) : sameT S T := by
  have hl : S.length = T.length := by have := congrArg List.length h; simpa using this
  refine ⟨hl, fun k hk => ?_⟩
  have := at_map (L := S) hk
  rw [h, at_map (by omega)] at this
  have e1 := congrArg Con.exp this
  have e2 := congrArg Con.odd this
  have e3 := congrArg Con.dim this
  exact ⟨e1.symm, e2.symm, e3.symm⟩
theorem map_same {S T : List Con} (h : sameT S T) : S.map g0 = T.map g0 := by
  refine list_ext (by simpa using h.1) fun k hk => ?_
  have hk' : k < S.length := by simpa using hk
  rw [at_map hk', at_map (by have := h.1; omega)]
  obtain ⟨e1, e2, e3⟩ := h.2 k hk'
  unfold g0
  rw [e1, e2, e3]
theorem add_same {X Y : List Con} (h : sameT X Y) (C : List Con) : sameT (addM X C) (addM Y C) := same_map (by rw [map_add, map_add, map_same h])
theorem mem_add (x : Con) (A B : List Con) : x ∈ addM A B → (∃ a ∈ A, a.exp = x.exp) ∨ (∃ b ∈ B, b.exp = x.exp) := by
  refine add_ind (motive := fun A B => x ∈ addM A B → (∃ a ∈ A, a.exp = x.exp) ∨ (∃ b ∈ B, b.exp = x.exp)) ?_ ?_ ?_ ?_ ?_ A B
  · intro B h; rw [adE_nil] at h; exact .inr ⟨x, h, rfl⟩
  · intro a A h; rw [addM_nil] at h; exact .inl ⟨x, h, rfl⟩
  · intro a A b B h ih hx
    rw [adE_lt h] at hx
    rcases List.mem_cons.1 hx with hx | hx
    · exact .inl ⟨a, by simp, by rw [hx]⟩
    · rcases ih hx with ⟨c, hc, e⟩ | hr
      · exact .inl ⟨c, by simp [hc], e⟩
      · exact .inr hr
  · intro a A b B h ih hx
    rw [adE_gt h] at hx
    rcases List.mem_cons.1 hx with hx | hx
    · exact .inr ⟨b, by simp, by rw [hx]⟩
    · rcases ih hx with hr | ⟨c, hc, e⟩
      · exact .inl hr
      · exact .inr ⟨c, by simp [hc], e⟩
  · intro a A b B h ih hx
    rw [adE_eq h] at hx
    rcases List.mem_cons.1 hx with hx | hx
    · exact .inl ⟨a, by simp, by rw [hx]; rfl⟩
    · rcases ih hx with ⟨c, hc, e⟩ | ⟨c, hc, e⟩
      · exact .inl ⟨c, by simp [hc], e⟩
      · exact .inr ⟨c, by simp [hc], e⟩
theorem asc_add (A B : List Con) : asc A → asc B → asc (addM A B) := by
  refine add_ind (motive := fun A B => asc A → asc B → asc (addM A B)) ?_ ?_ ?_ ?_ ?_ A B
  · intro B _ h; rw [adE_nil]; exact h
  · intro a A h _; rw [addM_nil]; exact h
  · intro a A b B h ih hA hB
    rw [adE_lt h]
    refine ⟨fun x hx => ?_, ih hA.2 hB⟩
    rcases mem_add _ _ _ hx with ⟨c, hc, e⟩ | ⟨c, hc, e⟩
    · rw [← e]; exact hA.1 c hc
    · rw [← e]
      rcases List.mem_cons.1 hc with hc | hc
      · rw [hc]; exact h
      · have := hB.1 c hc; omega
  · intro a A b B h ih hA hB
    rw [adE_gt h]
    refine ⟨fun x hx => ?_, ih hA hB.2⟩
    rcases mem_add _ _ _ hx with ⟨c, hc, e⟩ | ⟨c, hc, e⟩
    · rw [← e]
      rcases List.mem_cons.1 hc with hc | hc
      · rw [hc]; exact h
      · have := hA.1 c hc; omega
    · rw [← e]; exact hB.1 c hc
  · intro a A b B h ih hA hB
    rw [adE_eq h]
    refine ⟨fun x hx => ?_, ih hA.2 hB.2⟩
    show a.exp < x.exp
    rcases mem_add _ _ _ hx with ⟨c, hc, e⟩ | ⟨c, hc, e⟩
    · rw [← e]; exact hA.1 c hc
    · rw [← e]; have := hB.1 c hc; omega
theorem ascI_add {A B : List Con} (hA : ascI A) (hB : ascI B) : ascI (addM A B) := asc_at (asc_add A B (at_asc hA) (at_asc hB))
def okH (c : Con) : Prop := (0 ≤ c.exp ∧ c.exp ≤ 1000) ∧ (1 ≤ c.dim ∧ c.dim ≤ 500) ∧ (c.sign = 1 ∨ c.sign = -1) ∧ (0 ≤ c.oddity ∧ c.oddity ≤ 7)
def okHL (L : List Con) : Prop := L.length ≤ 500 ∧ ∀ c ∈ L, okH c
theorem okH_C {c : Con} (h : okH c) : okC c := ⟨h.1, ⟨h.2.1.1, by have := h.2.1.2; omega⟩, h.2.2⟩
theorem okHL_L {L : List Con} (h : okHL L) : okL L := ⟨by have := h.1; omega, fun c hc => okH_C (h.2 c hc)⟩
theorem join_ok {a b : Con} (ha : okH a) (hb : okH b) : okC (joinM a b) := by
  obtain ⟨a1, a2, a3, a4⟩ := ha
  obtain ⟨b1, b2, b3, b4⟩ := hb
  refine ⟨a1, ⟨show 1 ≤ a.dim + b.dim by omega, show a.dim + b.dim ≤ 1000 by omega⟩, ?_, ⟨show 0 ≤ (a.oddity + b.oddity) % 8 by omega, show (a.oddity + b.oddity) % 8 ≤ 7 by omega⟩⟩
  show a.sign * b.sign = 1 ∨ a.sign * b.sign = -1
  rcases a3 with h | h <;> rcases b3 with k | k <;> rw [h, k] <;> decide
theorem add_okC (A B : List Con) : (∀ c ∈ A, okH c) → (∀ c ∈ B, okH c) → ∀ c ∈ addM A B, okC c := by
  refine add_ind (motive := fun A B => (∀ c ∈ A, okH c) → (∀ c ∈ B, okH c) → ∀ c ∈ addM A B, okC c) ?_ ?_ ?_ ?_ ?_ A B
  · intro B _ h c hc; rw [adE_nil] at hc; exact okH_C (h c hc)
  · intro a A h _ c hc; rw [addM_nil] at hc; exact okH_C (h c hc)
  · intro a A b B h ih hA hB c hc
    rw [adE_lt h] at hc
    rcases List.mem_cons.1 hc with hc | hc
    · rw [hc]; exact okH_C (hA a (by simp))
    · exact ih (fun x hx => hA x (by simp [hx])) hB c hc
  · intro a A b B h ih hA hB c hc
    rw [adE_gt h] at hc
    rcases List.mem_cons.1 hc with hc | hc
    · rw [hc]; exact okH_C (hB b (by simp))
    · exact ih hA (fun x hx => hB x (by simp [hx])) c hc
  · intro a A b B h ih hA hB c hc
    rw [adE_eq h] at hc
    rcases List.mem_cons.1 hc with hc | hc
    · rw [hc]; exact join_ok (hA a (by simp)) (hB b (by simp))
    · exact ih (fun x hx => hA x (by simp [hx])) (fun x hx => hB x (by simp [hx])) c hc
theorem add_okL {A B : List Con} (hA : okHL A) (hB : okHL B) : okL (addM A B) :=
  ⟨by have := addM_len A B; have := hA.1; have := hB.1; omega, add_okC A B hA.2 hB.2⟩
theorem iv_even {X : List Con} (hX : ascI X) {e : Int} (h : odE X e = false) : ivS e (e + 1) (fuseM X) = ivS e (e + 1) X := by
  rw [ivS_wS, ivS_wS]
  unfold wS
  rw [fuseM_same.1]
  refine sumN_congr fun k hk => ?_
  rw [iw_same fuseM_same (by rw [fuseM_same.1]; exact hk)]
  cases hi : iw X e (e + 1) k with
  | false => rfl
  | true =>
    have h2 := of_decide_eq_true hi
    have h3 : (at_ X k).exp = e := by omega
    have h4 : (at_ X k).odd = false := by rw [← odE_at hX hk, h3]; exact h
    rw [fuseM_even h4 hk]
theorem sg_same {X Y : List Con} (hX : ascI X) (hs : sameT X Y) (hg : ∀ k, k < X.length → (at_ X k).sign = (at_ Y k).sign) (e : Int) : sgE e X = sgE e Y := by
  have hY : ascI Y := same_asc ⟨hs.1.symm, fun k hk => by have := hs.2 k (by have := hs.1; omega); exact ⟨this.1.symm, this.2.1.symm, this.2.2.symm⟩⟩ hX
  by_cases h : ∃ k, k < X.length ∧ (at_ X k).exp = e
  · obtain ⟨k, hk, rfl⟩ := h
    rw [sgE_at hX hk, (hs.2 k hk).1, sgE_at hY (by have := hs.1; omega)]
    exact hg k hk
  · rw [sgE_none (L := X) (fun c hc e2 => by obtain ⟨k, hk, rfl⟩ := mem_at hc; exact h ⟨k, hk, e2⟩),
      sgE_none (L := Y) (fun c hc e2 => by
        obtain ⟨k, hk, rfl⟩ := mem_at hc
        exact h ⟨k, by have := hs.1; omega, by rw [(hs.2 k (by have := hs.1; omega)).1]; exact e2⟩)]
theorem sameT_symm {L M : List Con} (hs : sameT L M) : sameT M L := ⟨hs.1.symm, fun k hk => by have := hs.2 k (by have := hs.1; omega); exact ⟨this.1.symm, this.2.1.symm, this.2.2.symm⟩⟩
theorem fuse_okH {L : List Con} (h : okHL L) : okHL (fuseM L) := by
  have h1 := fuseM_ok (okHL_L h)
  have hs := fuseM_same (L := L)
  refine ⟨by rw [hs.1]; exact h.1, fun c hc => ?_⟩
  obtain ⟨k, hk, rfl⟩ := mem_at hc
  have h2 := h1.2 _ hc
  have h3 := h.2 _ (at_mem (L := L) (k := k) (by rw [← hs.1]; exact hk))
  exact ⟨h2.1, by rw [(hs.2 k hk).2.2]; exact h3.2.1, h2.2.2⟩
theorem fuse_add {X C : List Con} (hX : ascI X) (hC : ascI C) (oX : okHL X) (oC : okHL C) : fuseM (addM (fuseM X) C) = fuseM (addM X C) := by
  have hS := ascI_add hX hC
  have hs := add_same (sameT_symm (fuseM_same (L := X))) C
  have hT := same_asc (sameT_symm hs) hS
  have o1 := add_okL oX oC
  have o2 := add_okL (fuse_okH oX) oC
  refine (fuse_alike hS hs (fun k hk => ?_) (fun k hk ho => ?_) (fun a b h1 h2 _ => ?_)).symm
  · have hk2 : k < (addM (fuseM X) C).length := by rw [← hs.1]; exact hk
    rw [← sgE_at hS hk, ← sgE_at hT hk2, ← (hs.2 k hk).1, sgE_add, sgE_add, sg_same hX (sameT_symm fuseM_same) (fun j _ => sign_fuseM.symm)]
  · have hk2 : k < (addM (fuseM X) C).length := by rw [← hs.1]; exact hk
    have ho2 : odE X (at_ (addM X C) k).exp = false := by
      have h3 := odE_at hS hk
      rw [ho, odE_add] at h3
      exact (Bool.or_eq_false_iff.1 h3).1
    have e1 := iv_one hS hk
    have e2 := iv_one hT hk2
    rw [← (hs.2 k hk).1] at e2
    have e3 := ivS_add (at_ (addM X C) k).exp ((at_ (addM X C) k).exp + 1) X C
    have e4 := ivS_add (at_ (addM X C) k).exp ((at_ (addM X C) k).exp + 1) (fuseM X) C
    rw [iv_even hX ho2] at e4
    have b1 := (o1.at hk).2.2.2
    have b2 := (o2.at hk2).2.2.2
    omega
  · have e3 := ivS_add a b X C
    have e4 := ivS_add a b (fuseM X) C
    rw [odE_add] at h1 h2
    have e5 := iv_fuse hX (Bool.or_eq_false_iff.1 h1).1 (Bool.or_eq_false_iff.1 h2).1
    omega
end Go.Proofs.YtkkmlbhmcdoibaaGreatDoor.S

namespace Go.Proofs.YtkkmlbhmcdoibaaGreatDoor.S
open Go.QfSy Go.RowKit
def nb (c : Bool) : Int := if c = true then 1 else 0
def inI (a b x : Int) : Bool := decide (a ≤ x ∧ x < b)
def nHit (X : List Con) (i : Nat) (a b : Int) : Int :=
  nb ((at_ X (i - 1)).odd && inI a b (at_ X (i - 1)).exp) + nb ((at_ X i).odd && (!joinB X i && inI a b (at_ X i).exp))
theorem part_posD {X : List Con} {k : Nat} (hk : k < X.length) : decide (0 < (partM X (k : Int)).length) = (at_ X k).odd := by
  cases ho : (at_ X k).odd with
  | true =>
    have := (partM_odd (L := X) hk ho).2
    exact decide_eq_true (pos_of_mem this)
  | false =>
    rw [partM_even (L := X) (i := k) (fun h => by have h2 : (at_ X k).odd = true := h.2; rw [ho] at h2; cases h2)]; rfl
theorem part_iw {X : List Con} (hX : ascI X) {k : Nat} (hk : k < X.length) (ho : (at_ X k).odd = true) {a b : Int} (h1 : odE X (a - 1) = false) (h2 : odE X b = false) :
    ((partM X (k : Int)).getD 0 0).toNat < X.length ∧ iw X a b ((partM X (k : Int)).getD 0 0).toNat = inI a b (at_ X k).exp := by
  obtain ⟨p1, p2⟩ := partM_odd (L := X) hk ho
  have hr := parts_rows _ p1
  have h0 := hr.2.1.at (t := 0) (List.length_pos_iff.2 hr.1)
  obtain ⟨c, hc⟩ := iw_const hX h1 h2 p1
  have e1 := hc _ p2
  have e2 := hc _ (first_mem hr.1)
  refine ⟨by omega, ?_⟩
  rw [e2, ← e1]
  rfl
theorem bif_add (c : Bool) (x : Int) : (bif c then (x + 4) % 8 else x) % 8 = (x + 4 * nb c) % 8 := by
  cases c <;> simp [nb]
theorem sumN_sub8 {f g d : Nat → Int} {n : Nat} (h : ∀ k, k < n → (f k - g k - 4 * d k) % 8 = 0) : (sumN f n - sumN g n - 4 * sumN d n) % 8 = 0 := sumN_mod h
theorem step_iv {X : List Con} (hX : ascI X) {i : Nat} (i1 : 1 ≤ i) (i2 : i < X.length) {a b : Int} (h1 : odE X (a - 1) = false) (h2 : odE X b = false) :
    (ivS a b (stepM X i) - ivS a b X - 4 * nHit X i a b) % 8 = 0 := by
  have hs := step_same i1 i2
  have e0 : wS (iw (stepM X i) a b) (stepM X i) = sumN (fun k => if iw X a b k = true then (at_ (stepM X i) k).oddity else 0) X.length := by
    unfold wS
    rw [hs.1]
    exact sumN_congr fun k hk => by rw [iw_same hs (by rw [hs.1]; exact hk)]
  rw [ivS_wS a b (stepM X i), ivS_wS a b X, e0]
  unfold wS
  have hd : ∀ k, k < X.length → ((if iw X a b k = true then (at_ (stepM X i) k).oddity else 0) - (if iw X a b k = true then (at_ X k).oddity else 0) - 4 * nb (iw X a b k && hitB X i k)) % 8 = 0 := by
    intro k hk
    rw [step_at i1 i2 hk]
    simp only [stepC]
    have := bif_add (hitB X i k) (at_ X k).oddity
    cases iw X a b k with
    | false => simp [nb]
    | true =>
      simp only [if_true, Bool.true_and]
      omega
  have hm := sumN_sub8 hd
  have hc : sumN (fun k => nb (iw X a b k && hitB X i k)) X.length = nHit X i a b := by
    have cast : ((i : Int) - 1) = ((i - 1 : Nat) : Int) := by omega
    have A := part_posD (X := X) (k := i - 1) (by omega)
    have B := part_posD (X := X) (k := i) i2
    unfold nHit
    cases hu : (at_ X (i - 1)).odd with
    | false =>
      rw [hu] at A
      have hj : joinB X i = false := by unfold joinB; rw [hu]; simp
      cases hv : (at_ X i).odd with
      | false =>
        rw [hv] at B
        rw [sumN_congr (g := fun _ => 0) (fun k hk => by unfold hitB; rw [cast, A, B]; simp [nb]), sumN_zero]
        simp [nb]
      | true =>
        rw [hv] at B
        obtain ⟨q1, q2⟩ := part_iw hX i2 hv h1 h2
        rw [sumN_congr (g := fun k => if k = ((partM X (i : Int)).getD 0 0).toNat then nb (inI a b (at_ X i).exp) else 0) (fun k hk => ?_), sumN_ind, if_pos q1, hj]
        · simp [nb]
        · unfold hitB
          rw [cast, A, B]
          simp only [Bool.false_and, Bool.false_or, Bool.true_and]
          by_cases e : k = ((partM X (i : Int)).getD 0 0).toNat
          · rw [if_pos e, e, q2, beq_self_eq_true, Bool.and_true]
          · rw [if_neg e, beq_eq_false_iff_ne.2 (fun h => e h.symm), Bool.and_false]; rfl
    | true =>
      rw [hu] at A
      obtain ⟨p1, p2⟩ := part_iw hX (show i - 1 < X.length by omega) hu h1 h2
      cases hv : (at_ X i).odd with
      | false =>
        rw [hv] at B
        rw [sumN_congr (g := fun k => if k = ((partM X ((i - 1 : Nat) : Int)).getD 0 0).toNat then nb (inI a b (at_ X (i - 1)).exp) else 0) (fun k hk => ?_), sumN_ind, if_pos p1]
        · simp [nb]
        · unfold hitB
          rw [cast, A, B]
          simp only [Bool.false_and, Bool.or_false, Bool.true_and]
          by_cases e : k = ((partM X ((i - 1 : Nat) : Int)).getD 0 0).toNat
          · rw [if_pos e, e, p2, beq_self_eq_true, Bool.and_true]
          · rw [if_neg e, beq_eq_false_iff_ne.2 (fun h => e h.symm), Bool.and_false]; rfl
      | true =>
        rw [hv] at B
        obtain ⟨q1, q2⟩ := part_iw hX i2 hv h1 h2
        cases hj : joinB X i with
        | true =>
          have hp := join_part i2 hv hj
          rw [cast] at hp
          rw [sumN_congr (g := fun k => if k = ((partM X ((i - 1 : Nat) : Int)).getD 0 0).toNat then nb (inI a b (at_ X (i - 1)).exp) else 0) (fun k hk => ?_), sumN_ind, if_pos p1]
          · simp [nb]
          · unfold hitB
            rw [cast, ← hp, A, Bool.true_and, Bool.or_self]
            by_cases e : k = ((partM X ((i - 1 : Nat) : Int)).getD 0 0).toNat
            · rw [if_pos e, e, p2, beq_self_eq_true, Bool.and_true]
            · rw [if_neg e, beq_eq_false_iff_ne.2 (fun h => e h.symm), Bool.and_false]; rfl
        | false =>
          have hne := apart_part i2 hv hj (by omega) hu
          rw [cast] at hne
          have r1 := (partM_ok (L := X) (i := ((i - 1 : Nat) : Int))).1.at (t := 0) (of_decide_eq_true A)
          have r2 := (partM_ok (L := X) (i := (i : Int))).1.at (t := 0) (of_decide_eq_true B)
          rw [sumN_congr (g := fun k => (if k = ((partM X ((i - 1 : Nat) : Int)).getD 0 0).toNat then nb (inI a b (at_ X (i - 1)).exp) else 0) + (if k = ((partM X (i : Int)).getD 0 0).toNat then nb (inI a b (at_ X i).exp) else 0)) (fun k hk => ?_), sumN_add, sumN_ind, sumN_ind, if_pos p1, if_pos q1]
          · simp [nb]
          · unfold hitB
            rw [cast, A, B, Bool.true_and, Bool.true_and]
            by_cases e : k = ((partM X ((i - 1 : Nat) : Int)).getD 0 0).toNat
            · have e2 : k ≠ ((partM X (i : Int)).getD 0 0).toNat := by omega
              rw [if_pos e, if_neg e2, beq_eq_false_iff_ne.2 (fun h => e2 h.symm), Bool.or_false, e, p2, beq_self_eq_true, Bool.and_true]; omega
            · rw [if_neg e, beq_eq_false_iff_ne.2 (fun h => e h.symm), Bool.false_or]
              by_cases e2 : k = ((partM X (i : Int)).getD 0 0).toNat
              · rw [if_pos e2, e2, q2, beq_self_eq_true, Bool.and_true]; omega
              · rw [if_neg e2, beq_eq_false_iff_ne.2 (fun h => e2 h.symm), Bool.and_false]; rfl
  rw [hc] at hm
  exact hm
theorem hit_odd {X : List Con} {i k : Nat} (i1 : 1 ≤ i) (i2 : i < X.length) (h : (at_ X k).odd = false) : hitB X i k = false := by
  cases hh : hitB X i k with
  | false => rfl
  | true =>
    have h2 : (at_ X k).odd = true := (hit_first i1 i2 hh).2.1
    rw [h] at h2; cases h2
theorem step_even {X : List Con} (hX : ascI X) {i : Nat} (i1 : 1 ≤ i) (i2 : i < X.length) {e : Int} (h : odE X e = false) : ivS e (e + 1) (stepM X i) = ivS e (e + 1) X := by
  have hs := step_same i1 i2
  rw [ivS_wS, ivS_wS]
  unfold wS
  rw [hs.1]
  refine sumN_congr fun k hk => ?_
  rw [iw_same hs (by rw [hs.1]; exact hk)]
  cases hi : iw X e (e + 1) k with
  | false => rfl
  | true =>
    have h2 := of_decide_eq_true hi
    have h3 : (at_ X k).exp = e := by omega
    have h4 : (at_ X k).odd = false := by rw [← odE_at hX hk, h3]; exact h
    rw [step_at i1 i2 hk]
    simp only [stepC, hit_odd i1 i2 h4, cond_false]
def sgn2 (X : List Con) (i : Nat) (e : Int) : Int := bif (e == (at_ X i).exp) || (e == (at_ X (i - 1)).exp) then -1 else 1
theorem sg_step {X : List Con} (hX : ascI X) {i : Nat} (i1 : 1 ≤ i) (i2 : i < X.length) (e : Int) : sgE e (stepM X i) = sgn2 X i e * sgE e X := by
  have hs := step_same i1 i2
  have h1 : ascI (stepM X i) := same_asc hs hX
  by_cases h : ∃ k, k < X.length ∧ (at_ X k).exp = e
  · obtain ⟨k, hk, rfl⟩ := h
    have hk1 : k < (stepM X i).length := by rw [hs.1]; exact hk
    have e1 := sgE_at h1 hk1
    rw [(hs.2 k hk1).1] at e1
    rw [e1, sgE_at hX hk, step_at i1 i2 hk]
    simp only [stepC]
    unfold sgn2
    have c1 : ((at_ X k).exp == (at_ X i).exp) = (k == i) := by
      by_cases c : k = i
      · subst c; rw [beq_self_eq_true, beq_self_eq_true]
      · rw [beq_eq_false_iff_ne.2 c, beq_eq_false_iff_ne.2 (fun h => c (asc_inj hX hk i2 h))]
    have c2 : ((at_ X k).exp == (at_ X (i - 1)).exp) = (k == i - 1) := by
      by_cases c : k = i - 1
      · subst c; rw [beq_self_eq_true, beq_self_eq_true]
      · rw [beq_eq_false_iff_ne.2 c, beq_eq_false_iff_ne.2 (fun h => c (asc_inj hX hk (by omega) h))]
    rw [c1, c2]
    cases (k == i || k == i - 1)
    · simp
    · simp
  · have hn : ∀ c ∈ X, c.exp ≠ e := fun c hc e2 => by obtain ⟨k, hk, rfl⟩ := mem_at hc; exact h ⟨k, hk, e2⟩
    have hn1 : ∀ c ∈ stepM X i, c.exp ≠ e := fun c hc e2 => by
      obtain ⟨k, hk, rfl⟩ := mem_at hc
      exact h ⟨k, by rw [← hs.1]; exact hk, by rw [← (hs.2 k hk).1]; exact e2⟩
    rw [sgE_none hn, sgE_none hn1]
    unfold sgn2
    rw [beq_eq_false_iff_ne.2 (fun h2 => h ⟨i, i2, h2.symm⟩), beq_eq_false_iff_ne.2 (fun h2 => h ⟨i - 1, by omega, h2.symm⟩)]
    rfl
theorem step_okH {X : List Con} (o : okHL X) {i : Nat} (i1 : 1 ≤ i) (i2 : i < X.length) : okHL (stepM X i) := by
  have h1 := stepM_ok (okHL_L o) i2
  have hs := step_same i1 i2
  refine ⟨by rw [hs.1]; exact o.1, fun c hc => ?_⟩
  obtain ⟨k, hk, rfl⟩ := mem_at hc
  have h2 := h1.2 _ hc
  have h3 := o.2 _ (at_mem (L := X) (k := k) (by rw [← hs.1]; exact hk))
  exact ⟨h2.1, by rw [(hs.2 k hk).2.2]; exact h3.2.1, h2.2.2⟩
theorem stepped {X C T : List Con} (hX : ascI X) (hC : ascI C) (oX : okHL X) (oC : okHL C) {i : Nat} (i1 : 1 ≤ i) (i2 : i < X.length) (oT : okL T) (hT : sameT T (fuseM (addM X C)))
    (hg : ∀ k, k < T.length → (at_ T k).sign = sgn2 X i (at_ T k).exp * (at_ (fuseM (addM X C)) k).sign)
    (he : ∀ k, k < T.length → (at_ T k).odd = false → (at_ T k).oddity = (at_ (fuseM (addM X C)) k).oddity)
    (hn : ∀ l ∈ partsM (addM X C), ∀ k : Nat, (k : Int) ∈ l → (k : Int) ≠ l.getD 0 0 → (at_ T k).oddity = (at_ (fuseM (addM X C)) k).oddity)
    (hf : ∀ l ∈ partsM (addM X C), ∀ k : Nat, (k : Int) = l.getD 0 0 → ∀ a b, RunL (addM X C) l a b → ((at_ T k).oddity - (at_ (fuseM (addM X C)) k).oddity - 4 * nHit X i a b) % 8 = 0) :
    fuseM (addM (stepM X i) C) = T := by
  have hS := ascI_add hX hC
  have hs1 : sameT (addM (stepM X i) C) (addM X C) := add_same (step_same i1 i2) C
  have hS1 := same_asc hs1 hS
  have o1 := add_okL (step_okH oX i1 i2) oC
  have o0 := add_okL oX oC
  have f1 := fuseM_same (L := addM (stepM X i) C)
  have f0 := fuseM_same (L := addM X C)
  have oF := fuseM_ok o1
  refine list_ext (by rw [f1.1, hs1.1, hT.1, f0.1]) fun k hk => ?_
  have k1 : k < (addM (stepM X i) C).length := by rw [← f1.1]; exact hk
  have k0 : k < (addM X C).length := by rw [← hs1.1]; exact k1
  have kT : k < T.length := by rw [hT.1, f0.1]; exact k0
  have kF : k < (fuseM (addM X C)).length := by rw [f0.1]; exact k0
  have a1 := f1.2 k hk
  have a2 := hs1.2 k k1
  have a3 := f0.2 k kF
  have a4 := hT.2 k kT
  have x1 : (at_ (fuseM (addM (stepM X i) C)) k).exp = (at_ (addM X C) k).exp := by rw [a1.1, a2.1]
  have xT : (at_ T k).exp = (at_ (addM X C) k).exp := by rw [a4.1, a3.1]
  refine con_ext (by rw [x1, xT]) (by rw [a1.2.2, a2.2.2, a4.2.2, a3.2.2]) ?_ (by rw [a1.2.1, a2.2.1, a4.2.1, a3.2.1]) ?_
  · rw [sign_fuseM, ← sgE_at hS1 k1, a2.1, sgE_add, sg_step hX i1 i2, hg k kT, sign_fuseM, ← sgE_at hS k0, sgE_add, xT, Int.mul_assoc]
  · have bF := (oF.at hk).2.2.2
    have bT := (oT.at kT).2.2.2
    cases ho : (at_ (addM X C) k).odd with
    | false =>
      have ho1 : (at_ (addM (stepM X i) C) k).odd = false := by rw [a2.2.1]; exact ho
      have hoT : (at_ T k).odd = false := by rw [a4.2.1, a3.2.1]; exact ho
      rw [fuseM_even (L := addM (stepM X i) C) ho1 k1, he k kT hoT, fuseM_even (L := addM X C) ho k0]
      have hoX : odE X (at_ (addM X C) k).exp = false := by
        have h3 := odE_at hS k0
        rw [ho, odE_add] at h3
        exact (Bool.or_eq_false_iff.1 h3).1
      have e1 := iv_one hS1 k1
      rw [a2.1] at e1
      have e2 := iv_one hS k0
      have e3 := ivS_add (at_ (addM X C) k).exp ((at_ (addM X C) k).exp + 1) (stepM X i) C
      have e4 := ivS_add (at_ (addM X C) k).exp ((at_ (addM X C) k).exp + 1) X C
      rw [step_even hX i1 i2 hoX] at e3
      have b1 := (o1.at k1).2.2.2
      have b2 := (o0.at k0).2.2.2
      omega
    | true =>
      obtain ⟨p1, p2⟩ := partM_odd (L := addM X C) k0 ho
      have p3 : partM (addM X C) (k : Int) ∈ partsM (addM (stepM X i) C) := by rw [parts_same hs1]; exact p1
      have hF1 := fuseM_at p3 p2
      have hF0 := fuseM_at p1 p2
      by_cases hfst : (k : Int) = (partM (addM X C) (k : Int)).getD 0 0
      · rw [if_pos hfst] at hF1 hF0
        obtain ⟨a, b, R⟩ := row_run hS p1
        obtain ⟨a', b', R'⟩ := row_run hS1 p3
        have ea : a = a' := by
          rw [← R.first, ← R'.first, ← hfst, Int.toNat_natCast, a2.1]
        have eb : b = b' := by have := R.len; have := R'.len; omega
        subst ea
        subst eb
        have h8 := hf _ p1 k hfst a b R
        have q1 := row_sum hS p1 R
        have q2 := row_sum hS1 p3 R'
        have q3 := ivS_add a b (stepM X i) C
        have q4 := ivS_add a b X C
        have w1 := R.lo
        have w2 := R.hi
        rw [odE_add] at w1 w2
        have q5 := step_iv hX i1 i2 (Bool.or_eq_false_iff.1 w1).1 (Bool.or_eq_false_iff.1 w2).1
        unfold totM at hF1 hF0
        omega
      · rw [if_neg hfst] at hF1 hF0
        rw [hF1, hn _ p1 k p2 hfst, hF0]
end Go.Proofs.YtkkmlbhmcdoibaaGreatDoor.S

namespace Go.Proofs.YtkkmlbhmcdoibaaGreatDoor.S
open Go.QfSy Go.RowKit
theorem stepO {L : List Con} {i k : Nat} (i1 : 1 ≤ i) (i2 : i < L.length) (hk : k < L.length) : ((at_ (stepM L i) k).oddity - (at_ L k).oddity - 4 * nb (hitB L i k)) % 8 = 0 := by
  rw [step_at i1 i2 hk]
  simp only [stepC]
  have := bif_add (hitB L i k) (at_ L k).oddity
  omega
theorem stepO0 {L : List Con} {i k : Nat} (i1 : 1 ≤ i) (i2 : i < L.length) (hk : k < L.length) (h : hitB L i k = false) : (at_ (stepM L i) k).oddity = (at_ L k).oddity := by
  rw [step_at i1 i2 hk]
  simp only [stepC, h, cond_false]
theorem stepG {L : List Con} {i k : Nat} (i1 : 1 ≤ i) (i2 : i < L.length) (hk : k < L.length) : (at_ (stepM L i) k).sign = (if k = i ∨ k = i - 1 then -1 else 1) * (at_ L k).sign := by
  rw [step_at i1 i2 hk]
  simp only [stepC]
  by_cases c : k = i ∨ k = i - 1
  · rw [if_pos c]
    have : (k == i || k == i - 1) = true := by rcases c with c | c <;> simp [c]
    rw [this]; simp
  · rw [if_neg c]
    have : (k == i || k == i - 1) = false := by simp only [not_or] at c; simp [c.1, c.2]
    rw [this]; simp
theorem hit_run {S F : List Con} (hS : ascI S) (hF : sameT F S) {l : List Int} (hl : l ∈ partsM S) {a b : Int} (R : RunL S l a b) {m k : Nat} (m1 : 1 ≤ m) (m2 : m < S.length) (hk : (k : Int) = l.getD 0 0) :
    hitB F m k = (inI a b (at_ S (m - 1)).exp || inI a b (at_ S m).exp) := by
  have h1 := hit_row (L := F) (l := l) (by rw [parts_same hF]; exact hl) m1 (by rw [hF.1]; exact m2)
  rw [← hk, Int.toNat_natCast] at h1
  rw [h1]
  have c : ((m : Int) - 1) = ((m - 1 : Nat) : Int) := by omega
  rw [c]
  unfold inI
  congr 1
  · congr 1; rw [eq_iff_iff]; exact R.mem (m - 1) (by omega)
  · congr 1; rw [eq_iff_iff]; exact R.mem m m2
theorem hit_not {S F : List Con} (hF : sameT F S) {l : List Int} (hl : l ∈ partsM S) {m k : Nat} (m1 : 1 ≤ m) (m2 : m < S.length) (hk : (k : Int) ∈ l) (hne : (k : Int) ≠ l.getD 0 0) : hitB F m k = false := by
  cases hh : hitB F m k with
  | false => rfl
  | true =>
    exfalso
    obtain ⟨h1, h2, h3⟩ := hit_first (L := F) m1 (by rw [hF.1]; exact m2) hh
    have h4 := (part_first h1 h2).2 h3
    rw [partM_same hF, part_mem hl hk] at h4
    exact hne h4.symm
theorem sgn2_at {X S : List Con} (hS : ascI S) {i m n k : Nat} (hm : m < S.length) (hn : n < S.length) (e1 : (at_ S m).exp = (at_ X i).exp) (e2 : (at_ S n).exp = (at_ X (i - 1)).exp) (hk : k < S.length) :
    sgn2 X i (at_ S k).exp = (if k = m ∨ k = n then -1 else 1) := by
  unfold sgn2
  rw [← e1, ← e2]
  by_cases c1 : k = m
  · subst c1; rw [beq_self_eq_true, if_pos (Or.inl rfl)]; rfl
  · have d1 : ((at_ S k).exp == (at_ S m).exp) = false := beq_eq_false_iff_ne.2 fun h => c1 (asc_inj hS hk hm h)
    by_cases c2 : k = n
    · subst c2; rw [beq_self_eq_true, if_pos (Or.inr rfl), d1]; rfl
    · have d2 : ((at_ S k).exp == (at_ S n).exp) = false := beq_eq_false_iff_ne.2 fun h => c2 (asc_inj hS hk hn h)
      rw [d1, d2, if_neg (by simp only [not_or]; exact ⟨c1, c2⟩)]; rfl
theorem one_step {X C : List Con} (hX : ascI X) (hC : ascI C) (oX : okHL X) (oC : okHL C) {i : Nat} (i1 : 1 ≤ i) (i2 : i < X.length) {m : Nat} (m1 : 1 ≤ m) (m2 : m < (addM X C).length)
    (e1 : (at_ (addM X C) m).exp = (at_ X i).exp) (e2 : (at_ (addM X C) (m - 1)).exp = (at_ X (i - 1)).exp)
    (hp : ∀ l a b, RunL (addM X C) l a b → (nHit X i a b - nb (inI a b (at_ X (i - 1)).exp || inI a b (at_ X i).exp)) % 2 = 0) :
    fuseM (addM (stepM X i) C) = stepM (fuseM (addM X C)) m := by
  have hS := ascI_add hX hC
  have f0 := fuseM_same (L := addM X C)
  have mF : m < (fuseM (addM X C)).length := by rw [f0.1]; exact m2
  have hs := step_same m1 mF
  have o0 := fuseM_ok (add_okL oX oC)
  have hlen : ∀ {l : List Int} {k : Nat}, l ∈ partsM (addM X C) → (k : Int) ∈ l → k < (fuseM (addM X C)).length := fun {_ _} hl hk => by
    have := (parts_rows _ hl).2.1 _ hk; rw [f0.1]; omega
  refine stepped hX hC oX oC i1 i2 (stepM_ok o0 mF) hs (fun k hk => ?_) (fun k hk ho => ?_) (fun l hl k hk hne => ?_) (fun l hl k hk a b R => ?_)
  · have hk0 : k < (fuseM (addM X C)).length := by rw [← hs.1]; exact hk
    rw [stepG m1 mF hk0, (hs.2 k hk).1, (f0.2 k hk0).1, sgn2_at hS m2 (by omega) e1 e2 (by rw [← f0.1]; exact hk0)]
  · have hk0 : k < (fuseM (addM X C)).length := by rw [← hs.1]; exact hk
    exact stepO0 m1 mF hk0 (hit_odd m1 mF (by rw [← (hs.2 k hk).2.1]; exact ho))
  · exact stepO0 m1 mF (hlen hl hk) (hit_not f0 hl m1 m2 hk hne)
  · have hk1 : (k : Int) ∈ l := by rw [hk]; exact first_mem (parts_rows l hl).1
    have h1 := stepO m1 mF (hlen hl hk1)
    rw [hit_run hS f0 hl R m1 m2 hk, e1, e2] at h1
    have h2 := hp l a b R
    omega
theorem two_step {X C : List Con} (hX : ascI X) (hC : ascI C) (oX : okHL X) (oC : okHL C) {i : Nat} (i1 : 1 ≤ i) (i2 : i < X.length) {m : Nat} (m1 : 2 ≤ m) (m2 : m < (addM X C).length)
    (e1 : (at_ (addM X C) m).exp = (at_ X i).exp) (e2 : (at_ (addM X C) (m - 1 - 1)).exp = (at_ X (i - 1)).exp)
    (hp : ∀ l a b, RunL (addM X C) l a b → (nHit X i a b - nb (inI a b (at_ (addM X C) (m - 1)).exp || inI a b (at_ X i).exp) - nb (inI a b (at_ X (i - 1)).exp || inI a b (at_ (addM X C) (m - 1)).exp)) % 2 = 0) :
    fuseM (addM (stepM X i) C) = stepM (stepM (fuseM (addM X C)) m) (m - 1) := by
  have hS := ascI_add hX hC
  have f0 := fuseM_same (L := addM X C)
  have mF : m < (fuseM (addM X C)).length := by rw [f0.1]; exact m2
  have hs := step_same (L := fuseM (addM X C)) (i := m) (by omega) mF
  have mG : m - 1 < (stepM (fuseM (addM X C)) m).length := by rw [hs.1]; omega
  have ht := step_same (L := stepM (fuseM (addM X C)) m) (i := m - 1) (by omega) mG
  have g0 : sameT (stepM (fuseM (addM X C)) m) (addM X C) := hs.trans f0
  have o0 := stepM_ok (fuseM_ok (add_okL oX oC)) mF
  have hlen : ∀ {l : List Int} {k : Nat}, l ∈ partsM (addM X C) → (k : Int) ∈ l → k < (fuseM (addM X C)).length := fun {_ _} hl hk => by
    have := (parts_rows _ hl).2.1 _ hk; rw [f0.1]; omega
  refine stepped hX hC oX oC i1 i2 (stepM_ok o0 mG) (ht.trans hs) (fun k hk => ?_) (fun k hk ho => ?_) (fun l hl k hk hne => ?_) (fun l hl k hk a b R => ?_)
  · have hkG : k < (stepM (fuseM (addM X C)) m).length := by rw [← ht.1]; exact hk
    have hk0 : k < (fuseM (addM X C)).length := by rw [← hs.1]; exact hkG
    rw [stepG (by omega) mG hkG, stepG (by omega) mF hk0, (ht.2 k hk).1, (hs.2 k hkG).1, (f0.2 k hk0).1, sgn2_at hS m2 (by omega) e1 e2 (by rw [← f0.1]; exact hk0), ← Int.mul_assoc]
    congr 1
    by_cases c1 : k = m
    · rw [if_neg (by omega), if_pos (Or.inl c1), if_pos (Or.inl c1)]; rfl
    · by_cases c2 : k = m - 1
      · rw [if_pos (Or.inl c2), if_pos (Or.inr c2), if_neg (by omega)]; rfl
      · by_cases c3 : k = m - 1 - 1
        · rw [if_pos (Or.inr c3), if_neg (by omega), if_pos (Or.inr c3)]; rfl
        · rw [if_neg (by omega), if_neg (by omega), if_neg (by omega)]; rfl
  · have hkG : k < (stepM (fuseM (addM X C)) m).length := by rw [← ht.1]; exact hk
    have hk0 : k < (fuseM (addM X C)).length := by rw [← hs.1]; exact hkG
    have ho1 : (at_ (stepM (fuseM (addM X C)) m) k).odd = false := by rw [← (ht.2 k hk).2.1]; exact ho
    rw [stepO0 (by omega) mG hkG (hit_odd (by omega) mG ho1)]
    exact stepO0 (by omega) mF hk0 (hit_odd (by omega) mF (by rw [← (hs.2 k hkG).2.1]; exact ho1))
  · have hk0 := hlen hl hk
    rw [stepO0 (by omega) mG (by rw [hs.1]; exact hk0) (hit_not g0 hl (by omega) (by omega) hk hne)]
    exact stepO0 (by omega) mF hk0 (hit_not f0 hl (by omega) m2 hk hne)
  · have hk1 : (k : Int) ∈ l := by rw [hk]; exact first_mem (parts_rows l hl).1
    have h1 := stepO (by omega) mF (hlen hl hk1)
    have h2 := stepO (i := m - 1) (by omega) mG (k := k) (by rw [hs.1]; exact hlen hl hk1)
    rw [hit_run hS f0 hl R (by omega) m2 hk, e1] at h1
    rw [hit_run hS g0 hl R (by omega) (by omega) hk, e2] at h2
    have h3 := hp l a b R
    omega
theorem mem_addL (A B : List Con) : ∀ a ∈ A, ∃ c ∈ addM A B, c.exp = a.exp := by
  refine add_ind (motive := fun A B => ∀ a ∈ A, ∃ c ∈ addM A B, c.exp = a.exp) ?_ ?_ ?_ ?_ ?_ A B
  · intro B a ha; simp at ha
  · intro a A x hx; rw [addM_nil]; exact ⟨x, hx, rfl⟩
  · intro a A b B h ih x hx
    rw [adE_lt h]
    rcases List.mem_cons.1 hx with hx | hx
    · exact ⟨a, by simp, by rw [hx]⟩
    · obtain ⟨c, hc, e⟩ := ih x hx; exact ⟨c, by simp [hc], e⟩
  · intro a A b B h ih x hx
    rw [adE_gt h]
    obtain ⟨c, hc, e⟩ := ih x hx; exact ⟨c, by simp [hc], e⟩
  · intro a A b B h ih x hx
    rw [adE_eq h]
    rcases List.mem_cons.1 hx with hx | hx
    · exact ⟨joinM a b, by simp, by rw [hx]; rfl⟩
    · obtain ⟨c, hc, e⟩ := ih x hx; exact ⟨c, by simp [hc], e⟩
theorem mem_addR (A B : List Con) : ∀ b ∈ B, ∃ c ∈ addM A B, c.exp = b.exp := by
  refine add_ind (motive := fun A B => ∀ b ∈ B, ∃ c ∈ addM A B, c.exp = b.exp) ?_ ?_ ?_ ?_ ?_ A B
  · intro B b hb; rw [adE_nil]; exact ⟨b, hb, rfl⟩
  · intro a A x hx; simp at hx
  · intro a A b B h ih x hx
    rw [adE_lt h]
    obtain ⟨c, hc, e⟩ := ih x hx; exact ⟨c, by simp [hc], e⟩
  · intro a A b B h ih x hx
    rw [adE_gt h]
    rcases List.mem_cons.1 hx with hx | hx
    · exact ⟨b, by simp, by rw [hx]⟩
    · obtain ⟨c, hc, e⟩ := ih x hx; exact ⟨c, by simp [hc], e⟩
  · intro a A b B h ih x hx
    rw [adE_eq h]
    rcases List.mem_cons.1 hx with hx | hx
    · exact ⟨joinM a b, by simp, by rw [hx]; exact h⟩
    · obtain ⟨c, hc, e⟩ := ih x hx; exact ⟨c, by simp [hc], e⟩
theorem next_at {S : List Con} (h : ascI S) {j m : Nat} (hj : j < S.length) (hm : m < S.length) (hlt : (at_ S j).exp < (at_ S m).exp) (hno : ∀ q, q < S.length → ¬ ((at_ S j).exp < (at_ S q).exp ∧ (at_ S q).exp < (at_ S m).exp)) : j + 1 = m := by
  have h1 := asc_le h hj (Int.le_of_lt hlt) hm
  have h2 : j ≠ m := fun e => by subst e; omega
  rcases Nat.lt_or_ge (j + 1) m with c | c
  · exact absurd ⟨h j (j + 1) (by omega) (by omega), h (j + 1) m c hm⟩ (hno (j + 1) (by omega))
  · omega
theorem link_cases {L : List Con} {k : Nat} (h : linkM L k = true) :
    ((at_ L k).exp = (at_ L (k - 1)).exp + 1 ∧ ((at_ L (k - 1)).odd = true ∨ (at_ L k).odd = true) ∧ ((at_ L (k - 1)).odd = true → (at_ L k).odd = true → badM L (partM L k) = false)) ∨
    ((at_ L k).exp = (at_ L (k - 1)).exp + 2 ∧ (at_ L (k - 1)).odd = true ∧ (at_ L k).odd = true) := by
  unfold linkM at h
  cases c1 : ((at_ L k).exp - (at_ L (k - 1)).exp == 1) with
  | true =>
    rw [c1] at h
    have e := eq_of_beq c1
    left
    refine ⟨by omega, ?_, ?_⟩
    · revert h
      cases (at_ L (k - 1)).odd <;> cases (at_ L k).odd <;> simp
    · intro h1 h2
      rw [h1, h2] at h
      simpa using h
  | false =>
    rw [c1] at h
    cases c2 : ((at_ L k).exp - (at_ L (k - 1)).exp == 2) with
    | true =>
      rw [c2] at h
      have e := eq_of_beq c2
      right
      simp only [cond_false, cond_true, Bool.and_eq_true] at h
      exact ⟨by omega, h.1, h.2⟩
    | false => rw [c2] at h; cases h
theorem link_one {L : List Con} {k : Nat} (h1 : (at_ L k).exp = (at_ L (k - 1)).exp + 1) (h2 : (at_ L (k - 1)).odd = true ∨ (at_ L k).odd = true) (h3 : (at_ L (k - 1)).odd = true → (at_ L k).odd = true → badM L (partM L k) = false) : linkM L k = true := by
  unfold linkM
  rw [show ((at_ L k).exp - (at_ L (k - 1)).exp == 1) = true by rw [beq_iff_eq]; omega, cond_true]
  cases a : (at_ L (k - 1)).odd <;> cases b : (at_ L k).odd
  · rw [a, b] at h2; rcases h2 with h2 | h2 <;> cases h2
  · rfl
  · rfl
  · rw [h3 a b]; rfl
theorem link_two {L : List Con} {k : Nat} (h1 : (at_ L k).exp = (at_ L (k - 1)).exp + 2) (h2 : (at_ L (k - 1)).odd = true) (h3 : (at_ L k).odd = true) : linkM L k = true := by
  unfold linkM
  rw [show ((at_ L k).exp - (at_ L (k - 1)).exp == 1) = false by rw [beq_eq_false_iff_ne]; omega, cond_false, show ((at_ L k).exp - (at_ L (k - 1)).exp == 2) = true by rw [beq_iff_eq]; omega, cond_true, h2, h3]; rfl
theorem bad_run {S F : List Con} (hS : ascI S) (hF : sameT F S) {m : Nat} (m1 : 1 ≤ m) (m2 : m < S.length) (h1 : (at_ S m).exp = (at_ S (m - 1)).exp + 1) (o1 : (at_ S (m - 1)).odd = true) (o2 : (at_ S m).odd = true)
    (hb : badM F (partM F m) = true) : ∃ l, l ∈ partsM S ∧ partM F m = l ∧ RunL S l (at_ S (m - 1)).exp ((at_ S m).exp + 1) ∧ (at_ S (m - 1)).dim = 1 ∧ (at_ S m).dim = 1 ∧ totM F l % 4 = 0 := by
  obtain ⟨p1, p2⟩ := partM_odd (L := S) m2 o2
  obtain ⟨a, b, R⟩ := row_run hS p1
  rw [partM_same hF] at hb ⊢
  refine ⟨_, p1, rfl, ?_⟩
  generalize hl : partM S (m : Int) = l at *
  unfold badM at hb
  simp only [Bool.and_eq_true, decide_eq_true_eq, beq_iff_eq] at hb
  obtain ⟨b1, b2, b3, b4⟩ := hb
  have hm := (R.mem m m2).1 p2
  have hlo := R.lo
  have hhi := R.hi
  have hlen := R.len
  have ha : a ≤ (at_ S (m - 1)).exp := by
    rcases (show (at_ S (m - 1)).exp < a ∨ a ≤ (at_ S (m - 1)).exp by omega) with c | c
    · have : a - 1 = (at_ S (m - 1)).exp := by omega
      rw [this, odE_at hS (by omega), o1] at hlo; cases hlo
    · exact c
  have ea : a = (at_ S (m - 1)).exp := by omega
  have eb : b = (at_ S m).exp + 1 := by omega
  obtain ⟨s, hs⟩ := R.iv
  rw [b1] at hs
  have hr := (parts_rows l p1).2.1
  have g0 : l.getD 0 0 = (s : Int) := by rw [hs, getD_ivN (by omega)]; simp
  have g1 : l.getD 1 0 = ((s + 1 : Nat) : Int) := by rw [hs, getD_ivN (by omega)]
  have hs1 : s + 1 < S.length := by
    have := hr ((s + 1 : Nat) : Int) (by rw [hs, mem_ivN]; omega)
    omega
  have hf := R.first
  rw [g0, Int.toNat_natCast] at hf
  have e0 : s = m - 1 := asc_inj hS (by omega) (by omega) (by rw [hf, ea])
  rw [g0, Int.toNat_natCast, e0, (hF.2 (m - 1) (by rw [hF.1]; omega)).2.2] at b2
  rw [g1, Int.toNat_natCast, show s + 1 = m by omega, (hF.2 m (by rw [hF.1]; omega)).2.2] at b3
  rw [← ea, ← eb]
  exact ⟨R, b2, b3, b4⟩
end Go.Proofs.YtkkmlbhmcdoibaaGreatDoor.S

namespace Go.Proofs.YtkkmlbhmcdoibaaGreatDoor.S
open Go.QfSy Go.RowKit
theorem dmE_nn {e : Int} : ∀ {L : List Con}, (∀ c ∈ L, 1 ≤ c.dim) → 0 ≤ dmE e L ∧ (dmE e L = 0 → ∀ c ∈ L, c.exp ≠ e)
  | [], _ => ⟨by simp [dmE], by simp⟩
  | c :: l, h => by
    obtain ⟨h1, h2⟩ := dmE_nn (e := e) (L := l) (fun x hx => h x (by simp [hx]))
    have h3 := h c (by simp)
    simp only [dmE]
    by_cases hc : c.exp = e
    · rw [if_pos hc]; exact ⟨by omega, fun h4 => by omega⟩
    · rw [if_neg hc]
      refine ⟨by omega, fun h4 x hx => ?_⟩
      rcases List.mem_cons.1 hx with hx | hx
      · rw [hx]; exact hc
      · exact h2 (by omega) x hx
theorem ivS_none {a b : Int} : ∀ {L : List Con}, (∀ c ∈ L, ¬ (a ≤ c.exp ∧ c.exp < b)) → ivS a b L = 0
  | [], _ => rfl
  | c :: l, h => by simp only [ivS]; rw [if_neg (h c (by simp)), ivS_none (fun x hx => h x (by simp [hx]))]; rfl
theorem odE_none {L : List Con} {e : Int} (h : ∀ c ∈ L, c.exp ≠ e) : odE L e = false := by
  cases h2 : odE L e with
  | false => rfl
  | true => obtain ⟨k, hk, e1, _⟩ := odE_iff.1 h2; exact absurd e1 (h _ (at_mem hk))
theorem run_same {S F : List Con} (hs : sameT F S) {l : List Int} (hl : l ∈ partsM S) {a b : Int} (R : RunL S l a b) : RunL F l a b := by
  have hr := parts_rows l hl
  have h0 := hr.2.1.at (t := 0) (List.length_pos_iff.2 hr.1)
  refine ⟨R.ne, fun k hk => ?_, fun e h1 h2 => ?_, ?_, ?_, ?_, R.len, R.iv⟩
  · rw [(hs.2 k hk).1]; exact R.mem k (by rw [← hs.1]; exact hk)
  · rw [odE_same hs]; exact R.od e h1 h2
  · rw [odE_same hs]; exact R.lo
  · rw [odE_same hs]; exact R.hi
  · rw [(hs.2 _ (by rw [hs.1]; omega)).1]; exact R.first
theorem nb_in (a b x : Int) : (nb (inI a b x) = 1 ∧ a ≤ x ∧ x < b) ∨ (nb (inI a b x) = 0 ∧ ¬ (a ≤ x ∧ x < b)) := by
  unfold nb inI
  by_cases h : a ≤ x ∧ x < b
  · left; rw [decide_eq_true h]; exact ⟨rfl, h⟩
  · right; rw [decide_eq_false h]; exact ⟨rfl, h⟩
theorem nb_or (a b x y : Int) : (nb (inI a b x || inI a b y) = 1 ∧ ((a ≤ x ∧ x < b) ∨ (a ≤ y ∧ y < b))) ∨ (nb (inI a b x || inI a b y) = 0 ∧ ¬ (a ≤ x ∧ x < b) ∧ ¬ (a ≤ y ∧ y < b)) := by
  unfold nb inI
  by_cases h : a ≤ x ∧ x < b
  · left; rw [decide_eq_true h]; exact ⟨rfl, .inl h⟩
  · by_cases k : a ≤ y ∧ y < b
    · left; rw [decide_eq_true k, Bool.or_true]; exact ⟨rfl, .inr k⟩
    · right; rw [decide_eq_false h, decide_eq_false k]; exact ⟨rfl, h, k⟩
theorem nHit_eq {X : List Con} (hX : ascI X) {i : Nat} (i2 : i < X.length) (a b : Int) : nHit X i a b = nb ((at_ X (i - 1)).odd && inI a b (at_ X (i - 1)).exp) + nb ((at_ X i).odd && (!odE X ((at_ X i).exp - 1) && inI a b (at_ X i).exp)) := by
  unfold nHit; rw [join_od hX i2]
theorem link_sum1 {X C : List Con} (hX : ascI X) (hC : ascI C) (oX : okHL X) (oC : okHL C) {i : Nat} (i1 : 1 ≤ i) (i2 : i < X.length)
    (hg : (at_ X i).exp = (at_ X (i - 1)).exp + 1) (hu : (at_ X (i - 1)).odd = true ∨ (at_ X i).odd = true) (hb : (at_ X (i - 1)).odd = true → (at_ X i).odd = true → badM X (partM X i) = false)
    {m : Nat} (m1 : 1 ≤ m) (m2 : m < (addM X C).length) (e1 : (at_ (addM X C) m).exp = (at_ X i).exp) (e2 : (at_ (addM X C) (m - 1)).exp = (at_ X (i - 1)).exp) : linkM (fuseM (addM X C)) m = true := by
  have hS := ascI_add hX hC
  have f0 := fuseM_same (L := addM X C)
  have mF : m < (fuseM (addM X C)).length := by rw [f0.1]; exact m2
  have q1 := f0.2 m mF
  have q2 := f0.2 (m - 1) (by omega)
  have s1 := odE_at hS m2
  have s2 := odE_at hS (show m - 1 < (addM X C).length by omega)
  rw [odE_add, e1, odE_at hX i2] at s1
  rw [odE_add, e2, odE_at hX (show i - 1 < X.length by omega)] at s2
  refine link_one (by rw [q1.1, q2.1, e1, e2, hg]) ?_ (fun h1 h2 => ?_)
  · rw [q1.2.1, q2.2.1, ← s1, ← s2]
    rcases hu with h | h
    · left; rw [h]; rfl
    · right; rw [h]; rfl
  · rw [q2.2.1] at h1
    rw [q1.2.1] at h2
    cases hbad : badM (fuseM (addM X C)) (partM (fuseM (addM X C)) m) with
    | false => rfl
    | true =>
      exfalso
      obtain ⟨l, p1, _, R, d1, d2, ht⟩ := bad_run hS f0 m1 m2 (by rw [e1, e2, hg]) h1 h2 hbad
      have c1 := dmE_nn (e := (at_ X (i - 1)).exp) (L := C) (fun c hc => (oC.2 c hc).2.1.1)
      have c2 := dmE_nn (e := (at_ X i).exp) (L := C) (fun c hc => (oC.2 c hc).2.1.1)
      have g1 := dmE_at hS (show m - 1 < (addM X C).length by omega)
      have g2 := dmE_at hS m2
      have x1 := dmE_at hX (show i - 1 < X.length by omega)
      have x2 := dmE_at hX i2
      have y1 := (oX.2 _ (at_mem (L := X) (k := i - 1) (by omega))).2.1.1
      have y2 := (oX.2 _ (at_mem i2)).2.1.1
      rw [e2, dmE_add] at g1
      rw [e1, dmE_add] at g2
      have n1 := c1.2 (by omega)
      have n2 := c2.2 (by omega)
      rw [odE_none n1, Bool.or_false] at s2
      rw [odE_none n2, Bool.or_false] at s1
      have u1 : (at_ X (i - 1)).odd = true := by rw [s2]; exact h1
      have u2 : (at_ X i).odd = true := by rw [s1]; exact h2
      have hnb := hb u1 u2
      obtain ⟨r1, r2⟩ := partM_odd (L := X) i2 u2
      obtain ⟨a, b, RX⟩ := row_run hX r1
      have hm := (RX.mem i i2).1 r2
      have lo := RX.lo
      have hi := RX.hi
      have slo := R.lo
      have shi := R.hi
      rw [odE_add] at slo shi
      have slo' := (Bool.or_eq_false_iff.1 slo).1
      have shi' := (Bool.or_eq_false_iff.1 shi).1
      have t1 : a = (at_ X (i - 1)).exp := by
        rcases Int.lt_trichotomy a (at_ X (i - 1)).exp with c | c | c
        · rw [e2, RX.od _ (by omega) (by omega)] at slo'; cases slo'
        · exact c
        · have : a - 1 = (at_ X (i - 1)).exp := by omega
          rw [this, odE_at hX (by omega), u1] at lo; cases lo
      have t2 : b = (at_ X i).exp + 1 := by
        rcases (show (at_ X i).exp + 1 < b ∨ b ≤ (at_ X i).exp + 1 by omega) with c | c
        · rw [e1, RX.od _ (by omega) (by omega)] at shi'; cases shi'
        · omega
      have hlen : (partM X (i : Int)).length = 2 := by have := RX.len; omega
      obtain ⟨s, hs⟩ := RX.iv
      rw [hlen] at hs
      have hr := (parts_rows _ r1).2.1
      have g0 : (partM X (i : Int)).getD 0 0 = (s : Int) := by rw [hs, getD_ivN (by omega)]; simp
      have g1' : (partM X (i : Int)).getD 1 0 = ((s + 1 : Nat) : Int) := by rw [hs, getD_ivN (by omega)]
      have hs1 : s + 1 < X.length := by
        have := hr ((s + 1 : Nat) : Int) (by rw [hs, mem_ivN]; omega)
        omega
      have hf := RX.first
      rw [g0, Int.toNat_natCast] at hf
      have e0 : s = i - 1 := asc_inj hX (by omega) (by omega) (by rw [hf, t1])
      have RF := run_same f0 p1 R
      have hF := same_asc f0 hS
      have k1 := row_sum hF (by rw [parts_same f0]; exact p1) RF
      have k2 := row_sum hX r1 RX
      have k3 := iv_fuse hS R.lo R.hi
      have k4 := ivS_add (at_ (addM X C) (m - 1)).exp ((at_ (addM X C) m).exp + 1) X C
      have k5 : ivS (at_ (addM X C) (m - 1)).exp ((at_ (addM X C) m).exp + 1) C = 0 := ivS_none fun c hc h => by
        have := n1 c hc
        have := n2 c hc
        omega
      rw [t1, t2] at k2
      rw [e1, e2] at k1 k3 k4 k5
      have : badM X (partM X i) = true := by
        unfold badM
        rw [decide_eq_true hlen, g0, g1', Int.toNat_natCast, Int.toNat_natCast, e0, show i - 1 + 1 = i by omega]
        rw [show ((at_ X (i - 1)).dim == 1) = true by rw [beq_iff_eq]; omega, show ((at_ X i).dim == 1) = true by rw [beq_iff_eq]; omega]
        simp only [Bool.true_and, beq_iff_eq]
        unfold totM at ht ⊢
        omega
      rw [this] at hnb
      cases hnb
theorem link_three {S F : List Con} (hS : ascI S) (hF : sameT F S) {m : Nat} (m1 : 1 ≤ m) (m2 : m < S.length) (h1 : (at_ S m).exp = (at_ S (m - 1)).exp + 1) (h2 : (at_ S (m - 1)).odd = true ∨ (at_ S m).odd = true)
    (h3 : odE S ((at_ S (m - 1)).exp - 1) = true ∨ odE S ((at_ S m).exp + 1) = true) : linkM F m = true := by
  have q1 := hF.2 m (by rw [hF.1]; exact m2)
  have q2 := hF.2 (m - 1) (by rw [hF.1]; omega)
  refine link_one (by rw [q1.1, q2.1, h1]) (by rw [q1.2.1, q2.2.1]; exact h2) (fun o1 o2 => ?_)
  rw [q2.2.1] at o1
  rw [q1.2.1] at o2
  cases hbad : badM F (partM F m) with
  | false => rfl
  | true =>
    exfalso
    obtain ⟨l, p1, _, R, _⟩ := bad_run hS hF m1 m2 h1 o1 o2 hbad
    rcases h3 with h3 | h3
    · rw [R.lo] at h3; cases h3
    · rw [R.hi] at h3; cases h3
theorem sum_step {X C : List Con} (hX : ascI X) (hC : ascI C) (oX : okHL X) (oC : okHL C) {i : Nat} (i1 : 1 ≤ i) (i2 : i < X.length) (hk : linkM X i = true) :
    canF (fuseM (addM (stepM X i) C)) = canF (fuseM (addM X C)) := by
  have hS := ascI_add hX hC
  have f0 := fuseM_same (L := addM X C)
  have o0 := fuseM_ok (add_okL oX oC)
  obtain ⟨cm, hcm, em⟩ := mem_addL X C _ (at_mem i2)
  obtain ⟨m, m2, rfl⟩ := mem_at hcm
  obtain ⟨cn, hcn, en⟩ := mem_addL X C _ (at_mem (L := X) (k := i - 1) (by omega))
  obtain ⟨n, n2, rfl⟩ := mem_at hcn
  have hlt := hX (i - 1) i (by omega) i2
  have mF : m < (fuseM (addM X C)).length := by rw [f0.1]; exact m2
  rcases link_cases hk with ⟨hg, hu, hb⟩ | ⟨hg, u, v⟩
  · have hnm := next_at hS n2 m2 (by omega) (fun q _ h => by omega)
    have en' : (at_ (addM X C) (m - 1)).exp = (at_ X (i - 1)).exp := by rw [show m - 1 = n by omega]; exact en
    rw [one_step hX hC oX oC i1 i2 (m := m) (by omega) m2 em en' (fun l a b R => ?_)]
    · exact canF_step o0 (by omega) mF (link_sum1 hX hC oX oC i1 i2 hg hu hb (by omega) m2 em en')
    · have lo := R.lo
      have hi := R.hi
      rw [odE_add] at lo hi
      have lo' := (Bool.or_eq_false_iff.1 lo).1
      have hi' := (Bool.or_eq_false_iff.1 hi).1
      have fu : (at_ X (i - 1)).odd = true → a - 1 ≠ (at_ X (i - 1)).exp := fun h e => by
        rw [e, odE_at hX (by omega), h] at lo'; cases lo'
      have fv : (at_ X i).odd = true → b ≠ (at_ X i).exp := fun h e => by
        rw [e, odE_at hX i2, h] at hi'; cases hi'
      have w1 := nb_in a b (at_ X (i - 1)).exp
      have w2 := nb_in a b (at_ X i).exp
      have w3 := nb_or a b (at_ X (i - 1)).exp (at_ X i).exp
      rw [nHit_eq hX i2, show (at_ X i).exp - 1 = (at_ X (i - 1)).exp by omega, odE_at hX (show i - 1 < X.length by omega)]
      cases hu1 : (at_ X (i - 1)).odd with
      | true =>
        have f1 := fu hu1
        simp only [Bool.true_and, Bool.not_true, Bool.false_and, Bool.and_false]
        have z : nb false = 0 := rfl
        rw [z]
        omega
      | false =>
        rw [hu1] at hu
        have hv : (at_ X i).odd = true := by rcases hu with h | h; cases h; exact h
        have f2 := fv hv
        rw [hv]
        simp only [Bool.true_and, Bool.not_false, Bool.false_and]
        have z : nb false = 0 := rfl
        rw [z]
        omega
  · have hno : ∀ c ∈ X, c.exp ≠ (at_ X i).exp - 1 := fun c hc e => by
      obtain ⟨j, hj, rfl⟩ := mem_at hc
      have a1 : i - 1 < j := by
        rcases Nat.lt_or_ge (i - 1) j with c | c
        · exact c
        · rcases Nat.lt_or_ge j (i - 1) with c2 | c2
          · have := hX j (i - 1) c2 (by omega); omega
          · rw [show j = i - 1 by omega] at e; omega
      rcases Nat.lt_or_ge j i with c | c
      · omega
      · rcases Nat.lt_or_ge i j with c2 | c2
        · have := hX i j c2 hj; omega
        · rw [show j = i by omega] at e; omega
    have hod := odE_none hno
    by_cases hc : ∃ c ∈ C, c.exp = (at_ X i).exp - 1
    · obtain ⟨c, hcC, ec⟩ := hc
      obtain ⟨cq, hcq, eq⟩ := mem_addR X C c hcC
      obtain ⟨q, q2, rfl⟩ := mem_at hcq
      have h1 := next_at hS n2 q2 (by omega) (fun j _ h => by omega)
      have h2 := next_at hS q2 m2 (by omega) (fun j _ h => by omega)
      have eq' : (at_ (addM X C) (m - 1)).exp = (at_ X i).exp - 1 := by rw [show m - 1 = q by omega, eq, ec]
      have en' : (at_ (addM X C) (m - 1 - 1)).exp = (at_ X (i - 1)).exp := by rw [show m - 1 - 1 = n by omega]; exact en
      have hsF := step_same (L := fuseM (addM X C)) (i := m) (by omega) mF
      have du : odE (addM X C) (at_ X (i - 1)).exp = true := by rw [odE_add, odE_at hX (by omega), u]; rfl
      have dv : odE (addM X C) (at_ X i).exp = true := by rw [odE_add, odE_at hX i2, v]; rfl
      rw [two_step hX hC oX oC i1 i2 (m := m) (by omega) m2 em en' (fun l a b R => ?_)]
      · have l1 : linkM (fuseM (addM X C)) m = true := link_three hS f0 (by omega) m2 (by rw [em, eq']; omega) (.inr (by rw [← odE_at hS m2, em]; exact dv)) (.inl (by rw [eq', show (at_ X i).exp - 1 - 1 = (at_ X (i - 1)).exp by omega]; exact du))
        have l2 : linkM (fuseM (addM X C)) (m - 1) = true := link_three hS f0 (by omega) (by omega) (by rw [eq', en']; omega) (.inl (by rw [← odE_at hS (by omega), en']; exact du)) (.inr (by rw [eq', show (at_ X i).exp - 1 + 1 = (at_ X i).exp by omega]; exact dv))
        rw [canF_step (stepM_ok o0 mF) (by omega) (by rw [hsF.1]; omega) (by rw [link_step (by omega) mF (by omega)]; exact l2), canF_step o0 (by omega) mF l1]
      · have lo := R.lo
        have hi := R.hi
        have fu : a - 1 ≠ (at_ X (i - 1)).exp := fun e => by rw [e, du] at lo; cases lo
        have fv : b ≠ (at_ X i).exp := fun e => by rw [e, dv] at hi; cases hi
        have fw : (a - 1 ≠ (at_ X i).exp - 1 ∧ b ≠ (at_ X i).exp - 1) ∨ ¬ (a ≤ (at_ X i).exp - 1 ∧ (at_ X i).exp - 1 < b) := by
          cases hw : odE (addM X C) ((at_ X i).exp - 1) with
          | true => left; exact ⟨fun e => (by rw [e, hw] at lo; cases lo), fun e => (by rw [e, hw] at hi; cases hi)⟩
          | false => right; exact fun h => by rw [R.od _ h.1 h.2] at hw; cases hw
        have w1 := nb_in a b (at_ X (i - 1)).exp
        have w2 := nb_in a b (at_ X i).exp
        have w3 := nb_or a b ((at_ X i).exp - 1) (at_ X i).exp
        have w4 := nb_or a b (at_ X (i - 1)).exp ((at_ X i).exp - 1)
        rw [nHit_eq hX i2, hod, u, v, eq']
        simp only [Bool.true_and, Bool.not_false]
        omega
    · have hnone : ∀ c ∈ C, c.exp ≠ (at_ X i).exp - 1 := fun c hcC e => hc ⟨c, hcC, e⟩
      have hSn : odE (addM X C) ((at_ X i).exp - 1) = false := by rw [odE_add, hod, odE_none hnone]; rfl
      have hnm := next_at hS n2 m2 (by omega) (fun q hq h => by
        rcases mem_add _ _ _ (at_mem hq) with ⟨c, hcX, e⟩ | ⟨c, hcC, e⟩
        · exact hno c hcX (by omega)
        · exact hnone c hcC (by omega))
      have en' : (at_ (addM X C) (m - 1)).exp = (at_ X (i - 1)).exp := by rw [show m - 1 = n by omega]; exact en
      have du : odE (addM X C) (at_ X (i - 1)).exp = true := by rw [odE_add, odE_at hX (by omega), u]; rfl
      have dv : odE (addM X C) (at_ X i).exp = true := by rw [odE_add, odE_at hX i2, v]; rfl
      have q1 := f0.2 m mF
      have q2 := f0.2 (m - 1) (by omega)
      rw [one_step hX hC oX oC i1 i2 (m := m) (by omega) m2 em en' (fun l a b R => ?_)]
      · exact canF_step o0 (by omega) mF (link_two (by rw [q1.1, q2.1, em, en', hg]) (by rw [q2.2.1, ← odE_at hS (by omega), en']; exact du) (by rw [q1.2.1, ← odE_at hS m2, em]; exact dv))
      · have fw : ¬ (a ≤ (at_ X i).exp - 1 ∧ (at_ X i).exp - 1 < b) := fun h => by rw [R.od _ h.1 h.2] at hSn; cases hSn
        have w1 := nb_in a b (at_ X (i - 1)).exp
        have w2 := nb_in a b (at_ X i).exp
        have w3 := nb_or a b (at_ X (i - 1)).exp (at_ X i).exp
        rw [nHit_eq hX i2, hod, u, v]
        simp only [Bool.true_and, Bool.not_false]
        omega
theorem canG_sum {C : List Con} (hC : ascI C) (oC : okHL C) : ∀ {k : Nat} {X : List Con}, fusM 2 X = true → okHL X → k < X.length → canF (fuseM (addM (canG X k) C)) = canF (fuseM (addM X C))
  | 0, _, _, _, _ => rfl
  | k + 1, X, hf, oX, hk => by
    simp only [canG]
    have h1 := canS_fus (k := k + 1) hf (by omega) hk
    have hl : (canS X (k + 1)).length = X.length := canS_len
    have key : okHL (canS X (k + 1)) ∧ canF (fuseM (addM (canS X (k + 1)) C)) = canF (fuseM (addM X C)) := by
      unfold canS
      cases hc : ((at_ X (k + 1)).sign == -1 && linkM X (k + 1)) with
      | false => exact ⟨oX, rfl⟩
      | true =>
        simp only [Bool.and_eq_true] at hc
        exact ⟨step_okH oX (by omega) hk, sum_step (fus_asc hf) hC oX oC (by omega) hk hc.2⟩
    rw [canG_sum hC oC h1 key.1 (by omega)]
    exact key.2
theorem val2_okH {L : List Con} (h : val2M 2 L = true) : okHL L := by
  have h1 := val2_ok h
  have h2 := val2_parts h
  refine ⟨by omega, fun c hc => ?_⟩
  obtain ⟨k, hk, rfl⟩ := mem_at hc
  have h3 := h1.1.at hk
  have h4 := h2.2 k hk
  exact ⟨h3.1, ⟨h3.2.1.1, by have := h4.2; unfold legalP at h4; omega⟩, h3.2.2⟩
theorem can_sum {A C : List Con} (hA : val2M 2 A = true) (hC : ascI C) (oC : okHL C) : canM (addM A C) = canF (fuseM (addM (canM A) C)) := by
  have h1 := fus_fuse hA
  have h0 := (fus_parts h1).2.1
  have e : canM A = canG (fuseM A) ((fuseM A).length - 1) := rfl
  rw [e, canG_sum hC oC h1 (fuse_okH (val2_okH hA)) (by omega), fuse_add (val2_asc hA) hC (val2_okH hA) oC]
  rfl
theorem sum_alike {A B C : List Con} (hA : val2M 2 A = true) (hB : val2M 2 B = true) (h : fuseM B = canM A) (hC : ascI C) (oC : okHL C) : canM (addM A C) = canM (addM B C) := by
  rw [can_sum hA hC oC, ← h, fuse_add (val2_asc hB) hC (val2_okH hB) oC]
  rfl
end Go.Proofs.YtkkmlbhmcdoibaaGreatDoor.S

namespace Go.Proofs.YtkkmlbhmcdoibaaGreatDoor.S
open Go.QfSy Go.RowKit
theorem legal_join {a b : Con} (ha : legalP a) (hb : legalP b) (hd : a.dim + b.dim ≤ 8) : legalP (joinM a b) := by
  obtain ⟨e, d, s, o, t⟩ := a
  obtain ⟨e', d', s', o', t'⟩ := b
  obtain ⟨h1, h2, h3, h4, h5, h6⟩ := ha
  obtain ⟨k1, k2, k3, k4, k5, k6⟩ := hb
  simp only at h1 h2 h3 h4 h5 h6 k1 k2 k3 k4 k5 k6 hd
  have hs : s * s' = 1 ∧ s = s' ∨ s * s' = -1 ∧ s = -s' := by
    rcases h3 with rfl | rfl <;> rcases k3 with rfl | rfl <;> decide
  have hp : s * s' = 1 ∨ s * s' = -1 := by rcases hs with h | h; exact .inl h.1; exact .inr h.1
  refine ⟨h1, ⟨show 1 ≤ d + d' by omega, hd⟩, hp, ⟨show 0 ≤ (t + t') % 8 by omega, show (t + t') % 8 ≤ 7 by omega⟩, ?_, ?_⟩
  · intro h
    have h : (o || o') = false := h
    obtain ⟨ho, ho'⟩ := Bool.or_eq_false_iff.1 h
    have a1 := h5 ho
    have a2 := k5 ho'
    exact ⟨show (d + d') % 2 = 0 by omega, show (t + t') % 8 = 0 by omega⟩
  · intro h
    have h : (o || o') = true := h
    show ((t + t') % 8 - (d + d')) % 2 = 0 ∧ (d + d' = 1 → s * s' = 1 → (t + t') % 8 = 1 ∨ (t + t') % 8 = 7) ∧ (d + d' = 1 → s * s' = -1 → (t + t') % 8 = 3 ∨ (t + t') % 8 = 5) ∧ (d + d' = 2 → s * s' = 1 → (t + t') % 8 ≠ 4) ∧ (d + d' = 2 → s * s' = -1 → (t + t') % 8 ≠ 0)
    have hpar : ((t + t') % 8 - (d + d')) % 2 = 0 := by
      cases ho : o <;> cases ho' : o'
      · rw [ho, ho'] at h; cases h
      · have a1 := h5 ho; have a2 := (k6 ho').1; omega
      · have a1 := (h6 ho).1; have a2 := k5 ho'; omega
      · have a1 := (h6 ho).1; have a2 := (k6 ho').1; omega
    have htwo : d + d' = 2 → (s * s' = 1 → (t + t') % 8 ≠ 4) ∧ (s * s' = -1 → (t + t') % 8 ≠ 0) := by
      intro h2
      cases ho : o <;> cases ho' : o'
      · rw [ho, ho'] at h; cases h
      · have a1 := h5 ho; omega
      · have a2 := k5 ho'; omega
      · obtain ⟨_, a1, a2, _⟩ := h6 ho
        obtain ⟨_, b1, b2, _⟩ := k6 ho'
        have c1 := a1 (by omega)
        have c2 := a2 (by omega)
        have c3 := b1 (by omega)
        have c4 := b2 (by omega)
        rcases h3 with h3 | h3 <;> rcases k3 with k3 | k3
        · have q1 := c1 h3
          have q2 := c3 k3
          exact ⟨fun _ => (by omega), fun hh => absurd hh (by rw [h3, k3]; decide)⟩
        · have q1 := c1 h3
          have q2 := c4 k3
          exact ⟨fun hh => absurd hh (by rw [h3, k3]; decide), fun _ => (by omega)⟩
        · have q1 := c2 h3
          have q2 := c3 k3
          exact ⟨fun hh => absurd hh (by rw [h3, k3]; decide), fun _ => (by omega)⟩
        · have q1 := c2 h3
          have q2 := c4 k3
          exact ⟨fun _ => (by omega), fun hh => absurd hh (by rw [h3, k3]; decide)⟩
    exact ⟨hpar, fun h2 => by omega, fun h2 => by omega, fun h2 => (htwo h2).1, fun h2 => (htwo h2).2⟩
theorem dimS_add (A B : List Con) : dimS (addM A B) = dimS A + dimS B := by
  refine add_ind (motive := fun A B => dimS (addM A B) = dimS A + dimS B) ?_ ?_ ?_ ?_ ?_ A B
  · intro B; rw [adE_nil]; simp [dimS]
  · intro a A; rw [addM_nil]; simp [dimS]
  · intro a A b B h ih; rw [adE_lt h]; simp only [dimS] at ih ⊢; omega
  · intro a A b B h ih; rw [adE_gt h]; simp only [dimS] at ih ⊢; omega
  · intro a A b B h ih
    rw [adE_eq h]
    simp only [dimS] at ih ⊢
    have : (joinM a b).dim = a.dim + b.dim := rfl
    omega
theorem dimS_nn : ∀ {L : List Con}, (∀ c ∈ L, 1 ≤ c.dim) → 0 ≤ dimS L
  | [], _ => by simp [dimS]
  | c :: l, h => by have h1 := dimS_nn (L := l) (fun x hx => h x (by simp [hx])); have h2 := h c (by simp); simp only [dimS]; omega
theorem sh_of : ∀ {L : List Con} {last s : Int}, asc L → (∀ c ∈ L, last < c.exp ∧ c.exp ≤ 60 ∧ 1 ≤ c.dim) → s + dimS L ≤ 8 → shL L last s = true
  | [], _, _, _, _, _ => rfl
  | c :: l, last, s, h, hc, hd => by
    have h1 := hc c (by simp)
    simp only [dimS] at hd
    have h2 := dimS_nn (L := l) (fun x hx => (hc x (by simp [hx])).2.2)
    show (shO c last s && shL l c.exp (s + c.dim)) = true
    rw [sh_of h.2 (fun x hx => ⟨h.1 x hx, (hc x (by simp [hx])).2⟩) (by omega), Bool.and_true]
    exact decide_eq_true ⟨h1.1, h1.2.1, h1.2.2, by omega⟩
theorem add_legal (A B : List Con) : (∀ c ∈ A, legalP c) → (∀ c ∈ B, legalP c) → dimS A + dimS B ≤ 8 → ∀ c ∈ addM A B, legalP c := by
  refine add_ind (motive := fun A B => (∀ c ∈ A, legalP c) → (∀ c ∈ B, legalP c) → dimS A + dimS B ≤ 8 → ∀ c ∈ addM A B, legalP c) ?_ ?_ ?_ ?_ ?_ A B
  · intro B _ h _ c hc; rw [adE_nil] at hc; exact h c hc
  · intro a A h _ _ c hc; rw [addM_nil] at hc; exact h c hc
  · intro a A b B h ih hA hB hd c hc
    rw [adE_lt h] at hc
    rcases List.mem_cons.1 hc with hc | hc
    · rw [hc]; exact hA a (by simp)
    · have := (hA a (by simp)).2.1
      simp only [dimS] at hd
      exact ih (fun x hx => hA x (by simp [hx])) hB (by simp only [dimS]; omega) c hc
  · intro a A b B h ih hA hB hd c hc
    rw [adE_gt h] at hc
    rcases List.mem_cons.1 hc with hc | hc
    · rw [hc]; exact hB b (by simp)
    · have := (hB b (by simp)).2.1
      simp only [dimS] at hd
      exact ih hA (fun x hx => hB x (by simp [hx])) (by simp only [dimS]; omega) c hc
  · intro a A b B h ih hA hB hd c hc
    rw [adE_eq h] at hc
    have ha := hA a (by simp)
    have hb := hB b (by simp)
    have n1 := dimS_nn (L := A) (fun x hx => (hA x (by simp [hx])).2.1.1)
    have n2 := dimS_nn (L := B) (fun x hx => (hB x (by simp [hx])).2.1.1)
    simp only [dimS] at hd
    rcases List.mem_cons.1 hc with hc | hc
    · rw [hc]; exact legal_join ha hb (by omega)
    · have m1 := ha.2.1
      have m2 := hb.2.1
      exact ih (fun x hx => hA x (by simp [hx])) (fun x hx => hB x (by simp [hx])) (by omega) c hc
theorem val2_add {A B : List Con} (hA : val2M 2 A = true) (hB : val2M 2 B = true) (hd : dimS A + dimS B ≤ 8) : val2M 2 (addM A B) = true := by
  have a0 := val2_parts hA
  have b0 := val2_parts hB
  have lA : ∀ c ∈ A, legalP c := fun c hc => by obtain ⟨k, hk, rfl⟩ := mem_at hc; exact a0.2 k hk
  have lB : ∀ c ∈ B, legalP c := fun c hc => by obtain ⟨k, hk, rfl⟩ := mem_at hc; exact b0.2 k hk
  have hl := add_legal A B lA lB hd
  have hne := (val2_ok hA).2.2.1
  rw [val2_sh]
  have h1 : (addM A B).isEmpty = false := by
    obtain ⟨c, hc, _⟩ := mem_addL A B _ (at_mem (L := A) (k := 0) hne)
    cases h : addM A B with
    | nil => rw [h] at hc; simp at hc
    | cons x l => rfl
  have h2 : shL (addM A B) (-1) 0 = true := sh_of (at_asc (ascI_add (val2_asc hA) (val2_asc hB))) (fun c hc => by have := hl c hc; unfold legalP at this; omega) (by rw [dimS_add]; omega)
  have h3 : (addM A B).all legalB = true := List.all_eq_true.2 fun c hc => decide_eq_true (hl c hc)
  unfold shapeM
  rw [h1, h2, h3]; rfl
end Go.Proofs.YtkkmlbhmcdoibaaGreatDoor.S

namespace Go.Proofs.YtkkmlbhmcdoibaaGreatDoor.S
open Go.QfSy Go.RowKit
theorem val2_addOk {L : List Con} (h : val2M 2 L = true) : ∀ c ∈ L, addOk c := fun c hc => by
  have h1 := (val2_ok h).1.2 c hc
  exact ⟨by have := h1.2.1; omega, h1.2.2.1, h1.2.2.2⟩
theorem val2_two {p : Int} {L : List Con} (h : val2M p L = true) : val2M 2 L = true := by have e := val2_p h; rw [e] at h; exact h
noncomputable def smV (p q : Int) (A B : List Con) : Bool := val2M p A && (val2M q B && val2M 2 (addM A B))
noncomputable def smE (v : Bool) : Int := bif v then 0 else 22
end Go.Proofs.YtkkmlbhmcdoibaaGreatDoor.S

namespace Go.Proofs.YtkkmlbhmcdoibaaGreatDoor.S
open Go.RowKit Go.QfSy Go.Lib
theorem con_type : ∃ (i : TypeInfo) (z : Value), Tryz.prog.info? 25 = some i ∧ i.zero = some z ∧ i.size = 5 ∧ i.bytes = 40 ∧ z.cells.size = 5 := by
  have hz : zeroA EV.ti 25 = some [.int .i64 0, .int .i64 0, .int .i64 0, .bool false, .int .i64 0] := by kernel_rfl
  obtain ⟨i, z, g1, g2, g3⟩ := zeroA_ok (P := Tryz.prog) (γ := gam0 0 (fun _ => none)) evOk.ti hz
  obtain ⟨i', q1, q2⟩ := info_of_szT evOk.ti (show szT EV.ti 25 = some 5 by kernel_rfl)
  rw [g1] at q1
  cases q1
  exact ⟨i, z, g1, g2, q2, bytes_ok evOk.ti (show bytesT EV.ti 25 = some 40 by kernel_rfl) g1, by have := g3.length; simp at this; omega⟩
set_option maxHeartbeats 2000000 in
set_option maxRecDepth 100000 in
theorem grow_new (k : Nat) (h0 : 0 < k) (hk : k ≤ 1000) : NewC Tryz.prog 25 37 (k : Int) := by
  refine ⟨⟨_, Tryz.func37, by rfl⟩, fun w => ?_⟩
  obtain ⟨i, z, hi, hz, hs, hb, hzc⟩ := con_type
  have h1 : ¬ ((k : Int) < 0) := by omega
  have h3 : (k : Int) > 0 := by omega
  have hrz : ∀ ty, (Builtin.append_ #[28, 3] ty #[.slice none 0 0, .int .i64 (k : Int)]).run Tryz.prog w = _ := fun ty =>
    Lib.run_append_grow_zeros w 28 3 ty 25 i z .i64 .i64 Tryz.underlying28 Tryz.underlying3 hi hz none 0 0 [] (run_firstCells_none w.drew i.size 0 0 0) k h0 (by omega) (by omega) (by omega) (by rw [hb]; omega) (by rw [hb]; exact growslice_fits (by omega) (by omega))
  have hge : 0 + k ≤ grownCap w (0 + k) 0 25 := grownCap_ge w _ _ _
  generalize grownCap w (0 + k) 0 25 = G at hrz hge
  have hex : (([] : List Value).toArray ++ Builtin.zeroCells z.cells k ++ Builtin.zeroCells z.cells (G - (0 + k))).toList.length = G * 5 := by
    rw [Array.length_toList, Array.size_append, Array.size_append, size_zeroCells, size_zeroCells, hzc]
    simp
    omega
  generalize hX : ([] : List Value).toArray ++ Builtin.zeroCells z.cells k ++ Builtin.zeroCells z.cells (G - (0 + k)) = X at hrz hex
  clear hi hz hs hb hzc hX hge
  go_enter Tryz.func37, Tryz.ntmps37
  go_wp2_with (at_builtin; refine Lib.wpList_append_run _ rfl _ _ _ _ rfl _ _ rfl rfl _ _ (hrz _) ?_)
  go_ret
  refine ⟨G, rfl, w.drew, X.toList, ?_, hex, rfl, rfl, rfl, rfl⟩
  rw [Array.toArray_toList]
  rfl
end Go.Proofs.YtkkmlbhmcdoibaaGreatDoor.S

namespace Go.Proofs.YtkkmlbhmcdoibaaGreatDoor.S
open Go.QfSy Go.RowKit
def wasc (S : List Con) : Prop := ∀ i j, i ≤ j → j < S.length → (at_ S i).exp ≤ (at_ S j).exp
def insAt (x : Con) (S R : List Con) (j : Nat) : List Con := S.take j ++ x :: (S.drop j ++ R)
def srt (X : List Con) : List Con := X.foldl (fun acc x => insL x acc) []
def srtS (X : List Con) (i : Nat) : List Con := srt (X.take i) ++ X.drop i
theorem insL_len (x : Con) : ∀ l, (insL x l).length = l.length + 1
  | [] => rfl
  | a :: l => by
    rw [insL]
    split
    · rw [List.length_cons, insL_len x l, List.length_cons]
    · rfl
theorem srt_snoc (X : List Con) (x : Con) : srt (X ++ [x]) = insL x (srt X) := by unfold srt; rw [List.foldl_append]; rfl
theorem snoc_ind {P : List Con → Prop} (h0 : P []) (hs : ∀ l x, P l → P (l ++ [x])) (X : List Con) : P X := by
  rw [← List.reverse_reverse X]
  induction X.reverse with
  | nil => exact h0
  | cons a l ih => rw [List.reverse_cons]; exact hs _ _ ih
theorem srt_len (X : List Con) : (srt X).length = X.length := by
  refine snoc_ind (P := fun X => (srt X).length = X.length) rfl (fun l x ih => ?_) X
  rw [srt_snoc, insL_len, ih]; simp
theorem insAt_len (x : Con) (S R : List Con) {j : Nat} (h : j ≤ S.length) : (insAt x S R j).length = S.length + 1 + R.length := by
  unfold insAt; simp; omega
theorem insAt_at (x : Con) (S R : List Con) {j : Nat} (h : j ≤ S.length) : at_ (insAt x S R j) j = x := by
  unfold insAt at_
  rw [List.getD_eq_getElem?_getD, List.getElem?_append_right (by simp; omega)]
  have : j - (S.take j).length = 0 := by simp; omega
  rw [this]; rfl
theorem insAt_pre (x : Con) (S R : List Con) {j : Nat} (h : j ≤ S.length) (h0 : 0 < j) : at_ (insAt x S R j) (j - 1) = at_ S (j - 1) := by
  unfold insAt at_
  rw [List.getD_eq_getElem?_getD, List.getElem?_append_left (by simp; omega), List.getElem?_take, if_pos (by omega), ← List.getD_eq_getElem?_getD]
theorem set2 {P Q : List Con} {a b c d : Con} : ((P ++ a :: b :: Q).set (P.length + 1) c).set P.length d = P ++ d :: c :: Q := by
  induction P with
  | nil => rfl
  | cons p P ih => simp only [List.cons_append, List.length_cons, List.set_cons_succ]; rw [ih]
theorem insAt_swap (x : Con) (S R : List Con) {j : Nat} (h : j ≤ S.length) (h0 : 0 < j) : ((insAt x S R j).set j (at_ S (j - 1))).set (j - 1) x = insAt x S R (j - 1) := by
  obtain ⟨k, rfl⟩ : ∃ k, j = k + 1 := ⟨j - 1, by omega⟩
  simp only [Nat.add_sub_cancel]
  have hk : k < S.length := by omega
  have e1 : S.take (k + 1) = S.take k ++ [at_ S k] := by
    rw [List.take_add_one]
    simp [at_, hk]
  have e2 : S.drop k = at_ S k :: S.drop (k + 1) := by
    rw [List.drop_eq_getElem_cons hk]
    simp [at_, hk]
  unfold insAt
  rw [e2, e1]
  have l1 : (S.take k).length = k := by simp; omega
  have := set2 (P := S.take k) (Q := S.drop (k + 1) ++ R) (a := at_ S k) (b := x) (c := at_ S k) (d := x)
  rw [l1] at this
  rw [List.append_assoc]
  exact this
theorem insAt_end {x : Con} {S R : List Con} {j : Nat} (h : j ≤ S.length) (hw : wasc S) (hp : j = 0 ∨ (at_ S (j - 1)).exp ≤ x.exp) (hq : ∀ k, j ≤ k → k < S.length → x.exp < (at_ S k).exp) : insAt x S R j = insL x S ++ R := by
  have e : insL x (S.take j ++ S.drop j) = S.take j ++ x :: S.drop j := by
    refine insL_app (fun a ha => ?_) (fun a ha => ?_)
    · obtain ⟨k, hk, rfl⟩ := List.getElem_of_mem ha
      have hk' : j + k < S.length := by simp at hk; omega
      have := hq (j + k) (by omega) hk'
      have e : at_ S (j + k) = (S.drop j)[k] := by simp [at_, hk']
      rw [← e]; exact this
    · obtain ⟨k, hk, rfl⟩ := List.getElem_of_mem ha
      have hk' : k < j := by simp at hk; omega
      have e : at_ S k = (S.take j)[k] := by simp [at_, show k < S.length by omega]
      rw [← e]
      rcases hp with h0 | h0
      · omega
      · have := hw k (j - 1) (by omega) (by omega); omega
  rw [List.take_append_drop] at e
  rw [e]; unfold insAt; simp
theorem insAt_start {x : Con} {S R : List Con} : insAt x S R S.length = S ++ x :: R := by unfold insAt; simp
theorem insL_mem {x y : Con} : ∀ {l : List Con}, y ∈ insL x l → y = x ∨ y ∈ l
  | [], h => by simp [insL] at h; exact .inl h
  | a :: l, h => by
    rw [insL] at h
    split at h
    · rcases List.mem_cons.1 h with rfl | h
      · exact .inr (by simp)
      · rcases insL_mem h with h | h
        · exact .inl h
        · exact .inr (by simp [h])
    · rcases List.mem_cons.1 h with rfl | h
      · exact .inl rfl
      · exact .inr h
def pasc : List Con → Prop
  | [] => True
  | a :: l => (∀ x ∈ l, a.exp ≤ x.exp) ∧ pasc l
theorem pasc_ins {x : Con} : ∀ {l : List Con}, pasc l → pasc (insL x l)
  | [], _ => ⟨by simp, trivial⟩
  | a :: l, h => by
    rw [insL]
    split
    · rename_i hc
      exact ⟨fun y hy => by
        rcases insL_mem hy with rfl | hy
        · exact hc
        · exact h.1 y hy, pasc_ins h.2⟩
    · rename_i hc
      exact ⟨fun y hy => by
        rcases List.mem_cons.1 hy with rfl | hy
        · omega
        · have := h.1 y hy; omega, h⟩
theorem pasc_wasc : ∀ {l : List Con}, pasc l → wasc l
  | [], _ => fun i j _ hj => by simp at hj
  | a :: l, h => fun i j hij hj => by
    cases j with
    | zero => obtain rfl : i = 0 := by omega
              exact Int.le_refl _
    | succ j =>
      have hj' : j < l.length := by simpa using hj
      cases i with
      | zero =>
        have := h.1 (at_ l j) (by simp [at_, hj'])
        simpa [at_] using this
      | succ i =>
        have := pasc_wasc h.2 i j (by omega) hj'
        simpa [at_] using this
theorem pasc_srt (X : List Con) : pasc (srt X) := by
  refine snoc_ind (P := fun X => pasc (srt X)) trivial (fun l x ih => ?_) X
  rw [srt_snoc]; exact pasc_ins ih
theorem wasc_srt (X : List Con) : wasc (srt X) := pasc_wasc (pasc_srt X)
theorem take_snoc {X : List Con} {i : Nat} (h : i < X.length) : X.take (i + 1) = X.take i ++ [at_ X i] := by
  rw [List.take_add_one]; simp [at_, h]
theorem drop_cons {X : List Con} {i : Nat} (h : i < X.length) : X.drop i = at_ X i :: X.drop (i + 1) := by
  rw [List.drop_eq_getElem_cons h]; simp [at_, h]
theorem srtS_at {X : List Con} {i : Nat} (h : i < X.length) : srtS X i = insAt (at_ X i) (srt (X.take i)) (X.drop (i + 1)) i := by
  have hl : (srt (X.take i)).length = i := by rw [srt_len]; simp; omega
  have := insAt_start (x := at_ X i) (S := srt (X.take i)) (R := X.drop (i + 1))
  rw [hl] at this
  rw [this]; unfold srtS; rw [drop_cons h]
theorem srtS_next {X : List Con} {i : Nat} (h : i < X.length) : srtS X (i + 1) = insL (at_ X i) (srt (X.take i)) ++ X.drop (i + 1) := by
  unfold srtS; rw [take_snoc h, srt_snoc]
theorem srtS_one (X : List Con) : srtS X 1 = X := by
  cases X with
  | nil => rfl
  | cons a l => rfl
theorem srtS_end (X : List Con) : srtS X X.length = srt X := by unfold srtS; simp
theorem asc_snoc {l : List Con} {b : Con} (h : asc (l ++ [b])) : asc l ∧ ∀ x ∈ l, x.exp < b.exp := by
  induction l with
  | nil => exact ⟨trivial, by simp⟩
  | cons c l ih =>
    have h2 := ih h.2
    refine ⟨⟨fun x hx => h.1 x (by simp [hx]), h2.1⟩, fun x hx => ?_⟩
    rcases List.mem_cons.1 hx with rfl | hx
    · exact h.1 b (by simp)
    · exact h2.2 x hx
theorem srt_asc {A : List Con} : asc A → srt A = A := by
  refine snoc_ind (P := fun A => asc A → srt A = A) (fun _ => rfl) (fun l b ih h => ?_) A
  have := asc_snoc h
  rw [srt_snoc, ih this.1, insL_top (fun a ha => by have := this.2 a ha; omega)]
theorem srt_mrg {A B : List Con} (hA : asc A) : asc B → srt (A ++ B) = mrg A B := by
  refine snoc_ind (P := fun B => asc B → srt (A ++ B) = mrg A B) (fun _ => by rw [List.append_nil, srt_asc hA, mrg_nil]) (fun l b ih h => ?_) B
  have := asc_snoc h
  rw [← List.append_assoc, srt_snoc, ih this.1, mrg_snoc this.2]
theorem cmp_srt {A B : List Con} (hA : asc A) (hB : asc B) : cmpL (srt (A ++ B)) = addM A B := by rw [srt_mrg hA hB, cmp_mrg hA hB]
end Go.Proofs.YtkkmlbhmcdoibaaGreatDoor.S

namespace Go.Proofs.YtkkmlbhmcdoibaaGreatDoor.S
open Go.QfSy Go.RowKit
noncomputable def soH (X : List Con) : List (Nat × Blk) := [(1002, ⟨.plain [.int .i64 0, .nils], 30, 0, false, true⟩), (1006, ⟨.con X, 25, 5, true, true⟩)]
noncomputable def soT (n : Nat) : List (Nat × AV) := [(0, .lo 1006 n), (1, .int .i64 0), (2, .vint .i64 (n : Int)), (3, .fn 22 [])]
noncomputable def soIn (X : List Con) (i : Nat) : Ann := ⟨⟨soT X.length ++ [(8, .vint .i64 (i : Int)), (9, .vint .i64 (i : Int))], soH (srtS X i), 1100⟩, none, fun _ =>
  (.exit 2, ⟨soT X.length ++ [(8, .vint .i64 (i : Int))], soH (srtS X (i + 1)), 1100⟩)⟩
noncomputable def soOut (X : List Con) : Ann := ⟨⟨soT X.length ++ [(8, .int .i64 1)], soH X, 1100⟩, none, fun _ =>
  (.exit 0, ⟨[], soH (srt X), 1100⟩)⟩
theorem srt_mem {y : Con} (X : List Con) : y ∈ srt X → y ∈ X := by
  refine snoc_ind (P := fun X => y ∈ srt X → y ∈ X) (fun h => h) (fun l x ih h => ?_) X
  rw [srt_snoc] at h
  rcases insL_mem h with rfl | h
  · simp
  · simp [ih h]
theorem srt_okE {X : List Con} (h : okE X) (i : Nat) : okE (srt (X.take i)) := by
  refine ⟨by rw [srt_len]; have := h.1; simp; omega, fun c hc => h.2 c (List.mem_of_mem_take (srt_mem _ hc))⟩
set_option maxRecDepth 100000 in
theorem so_in (X : List Con) (r : Nat) (hX : okE X) (hi : r < X.length) : AnnOk Tryz.prog EV.ng (Nat.max 4 Tryz.f54.ntmps) (bodyAt Tryz.f54 [0, 1, 0, 0, 1, 0, 0, 1]) (soIn X r) := by
  refine ann_of evOk (callF_ok evOk (noOrc_ok _ _) 8) none_ann (by kernel_rfl) (by kernel_rfl) (fun i : Nat => (fun (j : Nat) => (⟨soT X.length ++ [(8, .vint .i64 (r : Int)), (9, .vint .i64 (j : Int))], soH (insAt (at_ X r) (srt (X.take r)) (X.drop (r + 1)) j), 1100⟩ : St)) i) (fun i : Nat => (fun (j : Nat) => (j : Nat)) i) (fun (d : Bool) (i : Nat) => (fun (j : Nat) => (j ≤ r ∧ (∀ k, j ≤ k → k < r → (at_ X r).exp < (at_ (srt (X.take r)) k).exp) : Prop)) i) ?_ ?_
  · intro d hd
    exact ⟨(r), [X.length = X.length, (↑X.length : Int) = (↑X.length : Int), (↑r : Int) = (↑r : Int), (↑r : Int) = (↑r : Int), srtS X r = insAt (at_ X r) (srt (List.take r X)) (List.drop (r + (1 : Nat)) X) r], by kernel_rfl, (by refine ⟨?_, ?_, ?_, ?_, (?_ : srtS X r = insAt (at_ X r) (srt (List.take r X)) (List.drop (r + (1 : Nat)) X) r)⟩ <;> (first | rfl | exact ⟨rfl, rfl⟩ | exact srtS_at hi)), (by exact ⟨Nat.le_refl _, fun k h1 h2 => by omega⟩)⟩
  · rintro d hd j hI
    cases d
    · -- d = false
      exact Bool.noConfusion (show false = true from hd)
    · -- d = true
      obtain ⟨ht, hq⟩ := hI
      have ht : j ≤ r := ht
      have hq : ∀ k, j ≤ k → k < r → (at_ X r).exp < (at_ (srt (X.take r)) k).exp := hq
      have hn := hX.1
      have hs : (srt (X.take r)).length = r := by rw [srt_len]; simp; omega
      have hl : (insAt (at_ X r) (srt (X.take r)) (X.drop (r + 1)) j).length = X.length := by rw [insAt_len _ _ _ (by omega), hs]; simp; omega
      have ej : 0 < j → IntKind.i64.wrap ((j : Int) - 1) = ((j - 1 : Nat) : Int) := fun h => by rw [w64 (by omega) (by omega)]; omega
      have e1 : (insAt (at_ X r) (srt (X.take r)) (X.drop (r + 1)) j).getD j Con.zero = at_ X r := insAt_at _ _ _ (by omega)
      have e2 : 0 < j → (insAt (at_ X r) (srt (X.take r)) (X.drop (r + 1)) j).getD (j - 1) Con.zero = at_ (srt (X.take r)) (j - 1) := fun h => insAt_pre _ _ _ (by omega) h
      have ew : IntKind.i64.wrap ((at_ X r).exp - (at_ (srt (X.take r)) (j - 1)).exp) = (at_ X r).exp - (at_ (srt (X.take r)) (j - 1)).exp := by have a1 := hX.at' r; have a2 := (srt_okE hX r).at' (j - 1); exact w64 (by omega) (by omega)
      refine Or.elim (Bool.eq_false_or_eq_true (decide ((↑j : Int) > (0 : Int)))) (fun d1 => Or.elim (Bool.eq_false_or_eq_true (decide (IntKind.i64.wrap (((insAt (at_ X r) (srt (List.take r X)) (List.drop (r + (1 : Nat)) X) j).getD j Con.zero).exp - ((insAt (at_ X r) (srt (List.take r X)) (List.drop (r + (1 : Nat)) X) j).getD (IntKind.i64.wrap ((↑j : Int) - (1 : Int))).toNat Con.zero).exp) < (0 : Int)))) (fun d2 => ⟨[true, true], .inl ⟨(j - 1), [X.length = X.length, (↑X.length : Int) = (↑X.length : Int), (↑r : Int) = (↑r : Int), IntKind.i64.wrap ((↑j : Int) - (1 : Int)) = (↑(j - (1 : Nat)) : Int), ((insAt (at_ X r) (srt (List.take r X)) (List.drop (r + (1 : Nat)) X) j).set j ((insAt (at_ X r) (srt (List.take r X)) (List.drop (r + (1 : Nat)) X) j).getD (IntKind.i64.wrap ((↑j : Int) - (1 : Int))).toNat Con.zero)).set (IntKind.i64.wrap ((↑j : Int) - (1 : Int))).toNat ((insAt (at_ X r) (srt (List.take r X)) (List.drop (r + (1 : Nat)) X) j).getD j Con.zero) = insAt (at_ X r) (srt (List.take r X)) (List.drop (r + (1 : Nat)) X) (j - (1 : Nat)), (IntKind.i64.wrap ((↑j : Int) - (1 : Int))).toNat < ((insAt (at_ X r) (srt (List.take r X)) (List.drop (r + (1 : Nat)) X) j).set j ((insAt (at_ X r) (srt (List.take r X)) (List.drop (r + (1 : Nat)) X) j).getD (IntKind.i64.wrap ((↑j : Int) - (1 : Int))).toNat Con.zero)).length, (0 : Int) ≤ IntKind.i64.wrap ((↑j : Int) - (1 : Int)) ∧ IntKind.i64.wrap ((↑j : Int) - (1 : Int)) < (↑X.length : Int), j < (insAt (at_ X r) (srt (List.take r X)) (List.drop (r + (1 : Nat)) X) j).length, (0 : Int) ≤ (↑j : Int) ∧ (↑j : Int) < (↑X.length : Int), j < (insAt (at_ X r) (srt (List.take r X)) (List.drop (r + (1 : Nat)) X) j).length, (0 : Int) ≤ (↑j : Int) ∧ (↑j : Int) < (↑X.length : Int), (IntKind.i64.wrap ((↑j : Int) - (1 : Int))).toNat < (insAt (at_ X r) (srt (List.take r X)) (List.drop (r + (1 : Nat)) X) j).length, (0 : Int) ≤ IntKind.i64.wrap ((↑j : Int) - (1 : Int)) ∧ IntKind.i64.wrap ((↑j : Int) - (1 : Int)) < (↑X.length : Int), Dec (decide (IntKind.i64.wrap (((insAt (at_ X r) (srt (List.take r X)) (List.drop (r + (1 : Nat)) X) j).getD j Con.zero).exp - ((insAt (at_ X r) (srt (List.take r X)) (List.drop (r + (1 : Nat)) X) j).getD (IntKind.i64.wrap ((↑j : Int) - (1 : Int))).toNat Con.zero).exp) < (0 : Int))) true, (IntKind.i64.wrap ((↑j : Int) - (1 : Int))).toNat < (insAt (at_ X r) (srt (List.take r X)) (List.drop (r + (1 : Nat)) X) j).length, (0 : Int) ≤ IntKind.i64.wrap ((↑j : Int) - (1 : Int)) ∧ IntKind.i64.wrap ((↑j : Int) - (1 : Int)) < (↑X.length : Int), j < (insAt (at_ X r) (srt (List.take r X)) (List.drop (r + (1 : Nat)) X) j).length, (0 : Int) ≤ (↑j : Int) ∧ (↑j : Int) < (↑X.length : Int), Dec (decide ((↑j : Int) > (0 : Int))) true], by kernel_rfl, ⟨?_, ?_, ?_, ?_, ?_, ?_, ?_, ?_, ?_, ?_, ?_, ?_, ?_, d2, ?_, ?_, ?_, ?_, d1⟩, MuG.out ?_, InG.out ?_⟩⟩)
           (fun d2 => ⟨[true, false], .inr ⟨[X.length = X.length, (↑X.length : Int) = (↑X.length : Int), (↑r : Int) = (↑r : Int), insAt (at_ X r) (srt (List.take r X)) (List.drop (r + (1 : Nat)) X) j = srtS X (r + (1 : Nat)), Dec (decide (IntKind.i64.wrap (((insAt (at_ X r) (srt (List.take r X)) (List.drop (r + (1 : Nat)) X) j).getD j Con.zero).exp - ((insAt (at_ X r) (srt (List.take r X)) (List.drop (r + (1 : Nat)) X) j).getD (IntKind.i64.wrap ((↑j : Int) - (1 : Int))).toNat Con.zero).exp) < (0 : Int))) false, (IntKind.i64.wrap ((↑j : Int) - (1 : Int))).toNat < (insAt (at_ X r) (srt (List.take r X)) (List.drop (r + (1 : Nat)) X) j).length, (0 : Int) ≤ IntKind.i64.wrap ((↑j : Int) - (1 : Int)) ∧ IntKind.i64.wrap ((↑j : Int) - (1 : Int)) < (↑X.length : Int), j < (insAt (at_ X r) (srt (List.take r X)) (List.drop (r + (1 : Nat)) X) j).length, (0 : Int) ≤ (↑j : Int) ∧ (↑j : Int) < (↑X.length : Int), Dec (decide ((↑j : Int) > (0 : Int))) true], by kernel_rfl, ⟨?_, ?_, ?_, ?_, d2, ?_, ?_, ?_, ?_, d1⟩, rfl⟩⟩))
           (fun d1 => ⟨[false], .inr ⟨[X.length = X.length, (↑X.length : Int) = (↑X.length : Int), (↑r : Int) = (↑r : Int), insAt (at_ X r) (srt (List.take r X)) (List.drop (r + (1 : Nat)) X) j = srtS X (r + (1 : Nat)), Dec (decide ((↑j : Int) > (0 : Int))) false], by kernel_rfl, ⟨?_, ?_, ?_, ?_, d1⟩, rfl⟩⟩)
      all_goals first | (refine MuG.mk ?_; (have hj : 0 < j := (by simp only [decide_eq_true_eq] at d1; omega); show j - 1 < j; omega)) | (refine InG.mk ?_; (have hj : 0 < j := (by simp only [decide_eq_true_eq] at d1; omega); have ej' := ej hj; have e2' := e2 hj; simp only [ej', Int.toNat_natCast, e1, e2', ew, decide_eq_true_eq] at d2; exact ⟨by omega, fun k h1 h2 => by rcases Nat.lt_or_ge k j with h | h; have e : k = j - 1 := (by omega); subst e; omega; exact hq k h h2⟩)) | (refine CtG.mk ?_; (simp_all)) | (first | (with_reducible rfl) | exact ⟨by omega, by omega⟩ | (rw [hl]; omega) | (have hj : 0 < j := (by simp only [decide_eq_true_eq] at d1; omega); have ej' := ej hj; have e2' := e2 hj; simp only [ej', Int.toNat_natCast, e1, e2', ew, decide_eq_false_iff_not] at *; first | done | omega | (rw [hl]; omega) | (rw [List.length_set, hl]; omega) | (exact insAt_swap _ _ _ (by omega) hj) | (rw [srtS_next hi]; exact insAt_end (by omega) (wasc_srt _) (Or.inr (by omega)) (fun k h1 h2 => hq k h1 (by omega)))) | (have hj : j = 0 := (by simp only [decide_eq_false_iff_not] at d1; omega); rw [srtS_next hi]; exact insAt_end (by omega) (wasc_srt _) (Or.inl hj) (fun k h1 h2 => hq k h1 (by omega))))
set_option maxRecDepth 100000 in
theorem so_out (X : List Con) (hX : okE X) (h0 : 1 ≤ X.length) : AnnOk Tryz.prog EV.ng (Nat.max 4 Tryz.f54.ntmps) (bodyAt Tryz.f54 [0, 1]) (soOut X) := by
  refine ann_ofI evOk (callF_ok evOk (noOrc_ok _ _) 8) (by kernel_rfl) (by kernel_rfl) (fun i : Nat => (fun (r : Nat) => (⟨soT X.length ++ [(8, .vint .i64 (r : Int))], soH (srtS X r), 1100⟩ : St)) i) (fun i : Nat => (fun (r : Nat) => (X.length - r : Nat)) i) (fun (d : Bool) (i : Nat) => (fun (r : Nat) => (1 ≤ r ∧ r ≤ X.length : Prop)) i) (fun i : Nat => (fun (r : Nat) => ([([0, 1, 0, 0, 1, 0, 0, 1], soIn X (Nat.min r (X.length - 1)))] : List (List Nat × Ann))) i) ?_ ?_ ?_
  · rintro d hd r hI
    exact one_ann (so_in X (Nat.min r (X.length - 1)) hX (by have := Nat.min_le_right r (X.length - 1); show min r (X.length - 1) < _; omega))
  · intro d hd
    exact ⟨(1), [X.length = X.length, (↑X.length : Int) = (↑X.length : Int), (1 : Int) = (↑(1 : Nat) : Int), X = srtS X (1 : Nat)], by kernel_rfl, (by refine ⟨?_, ?_, ?_, (?_ : X = srtS X (1 : Nat))⟩ <;> (first | rfl | exact ⟨rfl, rfl⟩ | exact (srtS_one X).symm)), (by exact ⟨Nat.le_refl _, h0⟩)⟩
  · rintro d hd r hI
    cases d
    · -- d = false
      exact Bool.noConfusion (show false = true from hd)
    · -- d = true
      obtain ⟨h1, h2⟩ := hI
      have h1 : 1 ≤ r := h1
      have h2 : r ≤ X.length := h2
      have hn := hX.1
      have ek : IntKind.i64.wrap ((r : Int) + 1) = ((r + 1 : Nat) : Int) := by rw [w64 (by omega) (by omega)]; omega
      have em : r < X.length → Nat.min r (X.length - 1) = r := fun h => Nat.min_eq_left (by omega)
      refine Or.elim (Bool.eq_false_or_eq_true (decide ((↑r : Int) < (↑X.length : Int)))) (fun d1 => ⟨[true], .inl ⟨(r + 1), [X.length = X.length, (↑X.length : Int) = (↑X.length : Int), IntKind.i64.wrap ((↑(r.min (X.length - (1 : Nat))) : Int) + (1 : Int)) = (↑(r + (1 : Nat)) : Int), srtS X (r.min (X.length - (1 : Nat)) + (1 : Nat)) = srtS X (r + (1 : Nat)), X.length = X.length, (↑X.length : Int) = (↑X.length : Int), (↑r : Int) = (↑(r.min (X.length - (1 : Nat))) : Int), (↑r : Int) = (↑(r.min (X.length - (1 : Nat))) : Int), srtS X r = srtS X (r.min (X.length - (1 : Nat))), Dec (decide ((↑r : Int) < (↑X.length : Int))) true], by kernel_rfl, ⟨?_, ?_, ?_, ?_, ?_, ?_, ?_, ?_, ?_, d1⟩, MuG.out ?_, InG.out ?_⟩⟩)
           (fun d1 => ⟨[false], .inr ⟨[srtS X r = srt X, Dec (decide ((↑r : Int) < (↑X.length : Int))) false], by kernel_rfl, ⟨?_, d1⟩, rfl⟩⟩)
      all_goals first | (refine MuG.mk ?_; (simp only [decide_eq_true_eq] at d1; show X.length - (r + 1) < X.length - r; omega)) | (refine InG.mk ?_; (simp only [decide_eq_true_eq] at d1; exact ⟨by omega, by omega⟩)) | (refine CtG.mk ?_; (simp_all)) | (first | (with_reducible rfl) | exact ⟨by omega, by omega⟩ | (have hr : r < X.length := (by simp only [decide_eq_true_eq] at d1; omega); have em' := em hr; simp only [em', ek]; done) | (have hr : r = X.length := (by simp only [decide_eq_false_iff_not] at d1; omega); rw [hr]; exact srtS_end X))
noncomputable def orcSo (X : List Con) (orc : CallF) : CallF := orcB EV (callF EV noOrc 4) 54 4 [([0, 1], soOut X)] orc
theorem orcSo_ok {X : List Con} (hX : okE X) (h0 : 1 ≤ X.length) {orc : CallF} (ho : CallOk Tryz.prog EV.ng orc) : CallOk Tryz.prog EV.ng (orcSo X orc) := orcB_ok evOk (callF_ok evOk (noOrc_ok _ _) 4) Tryz.func54 (one_ann (so_out X hX h0)) ho
end Go.Proofs.YtkkmlbhmcdoibaaGreatDoor.S

namespace Go.Proofs.YtkkmlbhmcdoibaaGreatDoor.S
open Go.QfSy Go.RowKit
theorem cmpF_cons : ∀ (l : List Con) (d : Con), ∃ a t, cmpF d l = a :: t
  | [], d => ⟨d, [], rfl⟩
  | x :: l, d => by
    rw [cmpF]
    split
    · exact cmpF_cons l _
    · exact ⟨_, _, rfl⟩
def jnL (L : List Con) (c : Con) : List Con := L.set (L.length - 1) (joinM (at_ L (L.length - 1)) c)
theorem cmpF_snoc (c : Con) : ∀ (l : List Con) (d : Con), cmpF d (l ++ [c]) = if (at_ (cmpF d l) ((cmpF d l).length - 1)).exp = c.exp then jnL (cmpF d l) c else cmpF d l ++ [c]
  | [], d => by
    simp only [List.nil_append, cmpF, jnL, List.length_singleton]
    rfl
  | x :: l, d => by
    rw [List.cons_append, cmpF, cmpF]
    by_cases h : d.exp = x.exp
    · rw [if_pos h, if_pos h]; exact cmpF_snoc c l _
    · rw [if_neg h, if_neg h, cmpF_snoc c l x]
      obtain ⟨a, t, e⟩ := cmpF_cons l x
      rw [e]
      have e1 : (d :: a :: t).length - 1 = t.length + 1 := by simp
      have e2 : (a :: t).length - 1 = t.length := by simp
      have e3 : at_ (d :: a :: t) (t.length + 1) = at_ (a :: t) t.length := by simp [at_]
      unfold jnL
      rw [e1, e2, e3]
      split
      · rw [List.set_cons_succ]
      · rfl
theorem cmpL_snoc {l : List Con} (hl : l ≠ []) (c : Con) : cmpL (l ++ [c]) = if (at_ (cmpL l) ((cmpL l).length - 1)).exp = c.exp then jnL (cmpL l) c else cmpL l ++ [c] := by
  cases l with
  | nil => exact absurd rfl hl
  | cons d l => exact cmpF_snoc c l d
theorem cmpL_pos {l : List Con} (hl : l ≠ []) : 0 < (cmpL l).length := by
  cases l with
  | nil => exact absurd rfl hl
  | cons d l => obtain ⟨a, t, e⟩ := cmpF_cons l d; show 0 < (cmpF d l).length; rw [e]; simp
def bdC (m : Int) (c : Con) : Prop := (0 ≤ c.dim ∧ c.dim ≤ m) ∧ (c.sign = 1 ∨ c.sign = -1) ∧ (0 ≤ c.oddity ∧ c.oddity ≤ 7)
theorem cmpF_b : ∀ (l : List Con) (d : Con) (m : Int), (∀ x ∈ l, addOk x) → bdC m d → ∀ x ∈ cmpF d l, bdC (m + 1000 * l.length) x
  | [], d, m, _, hd, x, hx => by
    simp only [cmpF, List.mem_singleton] at hx
    subst hx
    simpa using hd
  | y :: l, d, m, hl, hd, x, hx => by
    have hy := hl y (by simp)
    have e : m + 1000 * ((y :: l).length : Int) = (m + 1000) + 1000 * (l.length : Int) := by simp; omega
    rw [e]
    rw [cmpF] at hx
    split at hx
    · refine cmpF_b l (joinM d y) (m + 1000) (fun z hz => hl z (by simp [hz])) ?_ x hx
      obtain ⟨⟨a1, a2⟩, a3, a4⟩ := hd
      obtain ⟨⟨b1, b2⟩, b3, b4⟩ := hy
      unfold joinM
      refine ⟨⟨?_, ?_⟩, ?_, ?_, ?_⟩
      · show 0 ≤ d.dim + y.dim; omega
      · show d.dim + y.dim ≤ _; omega
      · show d.sign * y.sign = 1 ∨ d.sign * y.sign = -1
        rcases a3 with h | h <;> rcases b3 with k | k <;> rw [h, k] <;> decide
      · show 0 ≤ (d.oddity + y.oddity) % 8; omega
      · show (d.oddity + y.oddity) % 8 ≤ 7; omega
    · rcases List.mem_cons.1 hx with rfl | hx
      · exact ⟨⟨hd.1.1, by have := hd.1.2; omega⟩, hd.2⟩
      · have := cmpF_b l y 1000 (fun z hz => hl z (by simp [hz])) hy x hx
        exact ⟨⟨this.1.1, by have h1 := this.1.2; have h2 := hd.1; omega⟩, this.2⟩
theorem cmpL_b {l : List Con} (hl : ∀ x ∈ l, addOk x) : ∀ x ∈ cmpL l, bdC (1000 * l.length) x := by
  cases l with
  | nil => intro x hx; simp [cmpL] at hx
  | cons d l =>
    intro x hx
    have := cmpF_b l d 1000 (fun z hz => hl z (by simp [hz])) (hl d (by simp)) x hx
    have e : 1000 * ((d :: l).length : Int) = 1000 + 1000 * (l.length : Int) := by simp; omega
    rw [e]; exact this
theorem set_getD {L : List Con} {i : Nat} (h : i < L.length) (a : Con) : (L.set i a).getD i Con.zero = a := by simp [h]
theorem upd_join {L : List Con} {i : Nat} {c : Con} {m : Int} (hi : i < L.length) (hb : bdC m (L.getD i Con.zero)) (hc : addOk c) (hm : m ≤ 1000000) (o : Bool) (ho : o = ((L.getD i Con.zero).odd || c.odd)) :
    updT (updO (updS (updD L i (IntKind.i64.wrap ((L.getD i Con.zero).dim + c.dim))) i (IntKind.i64.wrap (((updD L i (IntKind.i64.wrap ((L.getD i Con.zero).dim + c.dim))).getD i Con.zero).sign * c.sign))) i o) i ((IntKind.i64.wrap (((updO (updS (updD L i (IntKind.i64.wrap ((L.getD i Con.zero).dim + c.dim))) i (IntKind.i64.wrap (((updD L i (IntKind.i64.wrap ((L.getD i Con.zero).dim + c.dim))).getD i Con.zero).sign * c.sign))) i o).getD i Con.zero).oddity + c.oddity)).tmod 8) = L.set i (joinM (L.getD i Con.zero) c) := by
  unfold updT updO updS updD
  simp only [List.set_set, set_getD hi]
  generalize L.getD i Con.zero = d at *
  obtain ⟨⟨a1, a2⟩, a3, a4⟩ := hb
  obtain ⟨⟨b1, b2⟩, b3, b4⟩ := hc
  have e1 : IntKind.i64.wrap (d.dim + c.dim) = d.dim + c.dim := w64 (by omega) (by omega)
  have e2 : IntKind.i64.wrap (d.sign * c.sign) = d.sign * c.sign := by rcases a3 with h | h <;> rcases b3 with k | k <;> rw [h, k] <;> decide
  have e3 : (IntKind.i64.wrap (d.oddity + c.oddity)).tmod 8 = (d.oddity + c.oddity) % 8 := by rw [w64 (by omega) (by omega)]; exact Int.tmod_eq_emod_of_nonneg (by omega)
  rw [e1, e2, e3, ho]
  rfl
end Go.Proofs.YtkkmlbhmcdoibaaGreatDoor.S

namespace Go.Proofs.YtkkmlbhmcdoibaaGreatDoor.S
open Go.QfSy Go.RowKit
noncomputable def suH (Y : List Con) (o : Option (List Con)) : List (Nat × Blk) := match o with
  | none => [(1002, ⟨.plain [.int .i64 0, .nils], 30, 0, false, true⟩), (1006, ⟨.con Y, 25, 5, true, true⟩), (1100, ⟨.plain [.int .i64 2, .nils], 30, 0, false, true⟩)]
  | some L => [(1002, ⟨.plain [.int .i64 0, .nils], 30, 0, false, true⟩), (1006, ⟨.con Y, 25, 5, true, true⟩), (1100, ⟨.plain [.int .i64 2, .lo 1160 L.length], 30, 0, false, true⟩), (1160, ⟨.con L, 25, 5, true, true⟩)]
noncomputable def suT (n : Nat) (k : AV) : List (Nat × AV) := [(4, .ptr 1002 0), (5, .int .i64 0), (7, .ptr 1100 0), (30, .lo 1006 n), (31, .vint .i64 (n : Int)), (32, k)]
noncomputable def suA (Y : List Con) : Ann := ⟨⟨suT Y.length (.int .i64 0), suH Y none, 1150⟩, none, fun _ =>
  (.exit 0, ⟨[(4, .ptr 1002 0), (5, .int .i64 0), (7, .ptr 1100 0)], suH Y (some (cmpL Y)), 1200⟩)⟩
noncomputable def suS (Y : List Con) : Nat × Option (List Con) → St
  | (k, none) => ⟨suT Y.length (.vint .i64 (k : Int)), suH Y none, 1200⟩
  | (k, some L) => ⟨suT Y.length (.vint .i64 (k : Int)), suH Y (some L), 1200⟩
def jnI (Y : List Con) : Nat × Option (List Con) → Prop
  | (k, none) => k = 0
  | (k, some L) => 0 < k ∧ k ≤ Y.length ∧ L = cmpL (Y.take k)
theorem take_ne {Y : List Con} {k : Nat} (h : 0 < k) (h2 : k ≤ Y.length) : Y.take k ≠ [] := by
  intro e
  have := congrArg List.length e
  rw [List.length_take, List.length_nil] at this
  omega
theorem jnI_one {Y : List Con} {k : Nat} (hk : k = 0) (hY : 0 < Y.length) : jnI Y (k + 1, some [at_ Y k]) := by
  subst hk
  refine ⟨by omega, hY, ?_⟩
  rw [take_snoc hY]; rfl
theorem jnI_app {Y L : List Con} {k : Nat} (h : jnI Y (k, some L)) (hk : k < Y.length) (he : (at_ L (L.length - 1)).exp ≠ (at_ Y k).exp) : jnI Y (k + 1, some (L ++ [at_ Y k])) := by
  obtain ⟨h1, h2, rfl⟩ := h
  refine ⟨by omega, hk, ?_⟩
  rw [take_snoc hk, cmpL_snoc (take_ne h1 h2), if_neg he]
theorem jnI_jn {Y L : List Con} {k : Nat} (h : jnI Y (k, some L)) (hk : k < Y.length) (he : (at_ L (L.length - 1)).exp = (at_ Y k).exp) : jnI Y (k + 1, some (jnL L (at_ Y k))) := by
  obtain ⟨h1, h2, rfl⟩ := h
  refine ⟨by omega, hk, ?_⟩
  rw [take_snoc hk, cmpL_snoc (take_ne h1 h2), if_pos he]
theorem jnI_end {Y L : List Con} {k : Nat} (h : jnI Y (k, some L)) (hk : Y.length ≤ k) : L = cmpL Y := by
  obtain ⟨h1, h2, rfl⟩ := h
  rw [List.take_of_length_le hk]
theorem jnI_pos {Y L : List Con} {k : Nat} (h : jnI Y (k, some L)) : 0 < L.length := by
  obtain ⟨h1, h2, rfl⟩ := h
  exact cmpL_pos (take_ne h1 h2)
theorem cmpF_len : ∀ (l : List Con) (d : Con), (cmpF d l).length ≤ l.length + 1
  | [], d => by simp [cmpF]
  | x :: l, d => by
    rw [cmpF]
    split
    · have := cmpF_len l (joinM d x); simp; omega
    · have := cmpF_len l x; simp; omega
theorem cmpL_len (l : List Con) : (cmpL l).length ≤ l.length := by
  cases l with
  | nil => simp [cmpL]
  | cons d l => exact cmpF_len l d
theorem jnI_len {Y L : List Con} {k : Nat} (h : jnI Y (k, some L)) : L.length ≤ Y.length := by
  obtain ⟨h1, h2, rfl⟩ := h
  have := cmpL_len (Y.take k)
  simp at this; omega
theorem jnI_b {Y L : List Con} {k : Nat} (h : jnI Y (k, some L)) (hY : ∀ c ∈ Y, addOk c) (hn : Y.length ≤ 1000) : bdC 1000000 (L.getD (L.length - 1) Con.zero) := by
  have hp := jnI_pos h
  obtain ⟨h1, h2, rfl⟩ := h
  have := cmpL_b (l := Y.take k) (fun x hx => hY x (List.mem_of_mem_take hx)) _ (at_mem (L := cmpL (Y.take k)) (k := (cmpL (Y.take k)).length - 1) (by omega))
  refine ⟨⟨this.1.1, ?_⟩, this.2⟩
  have h3 := this.1.2
  have h4 : (Y.take k).length ≤ 1000 := by simp; omega
  show (at_ (cmpL (Y.take k)) _).dim ≤ _
  omega
theorem jnI_le {Y : List Con} : ∀ {i : Nat × Option (List Con)}, jnI Y i → i.1 ≤ Y.length
  | (k, none), h => by have : k = 0 := h; show k ≤ _; omega
  | (k, some L), h => h.2.1
theorem upd_odd {L : List Con} {i : Nat} (hi : i < L.length) (v w : Int) : ((updS (updD L i v) i w).getD i Con.zero).odd = (L.getD i Con.zero).odd := by
  unfold updS updD
  rw [List.set_set, set_getD hi, set_getD hi]
set_option maxRecDepth 100000 in
theorem su_loop (Y : List Con) (hY : ∀ c ∈ Y, addOk c) (hn : Y.length ≤ 1000) (hne : 0 < Y.length) : AnnOk Tryz.prog EV.ng (Nat.max 2 Tryz.f11.ntmps) (bodyAt Tryz.f11 [0, 1, 0, 1, 1, 1, 1, 1]) (suA Y) := by
  refine ann_of evOk (callF_ok evOk (noOrc_ok _ _) 8) none_ann (by kernel_rfl) (by kernel_rfl) (suS Y) (fun i => Y.length - i.1) (fun _ i => jnI Y i) ?_ ?_
  · intro d hd
    exact ⟨(0, none), [Y.length = Y.length, (↑Y.length : Int) = (↑Y.length : Int), (0 : Int) = (↑(0 : Nat) : Int), Y = Y], by kernel_rfl, (by refine ⟨?_, ?_, ?_, (?_ : Y = Y)⟩ <;> (first | rfl | assumption | omega | simp_all)), (by exact rfl)⟩
  · rintro d hd ⟨k, o⟩ hI
    cases d
    · -- d = false
      exact Bool.noConfusion (show false = true from hd)
    · -- d = true
      have hk : k ≤ Y.length := jnI_le hI
      have ek : IntKind.i64.wrap ((k : Int) + 1) = ((k + 1 : Nat) : Int) := by rw [w64 (by omega) (by omega)]; omega
      rcases o with _ | L
      · -- 1
        refine Or.elim (Bool.eq_false_or_eq_true (decide ((↑k : Int) < (↑Y.length : Int)))) (fun d1 => ⟨[true], .inl ⟨(k + 1, some [at_ Y k]), [Y.length = Y.length, (↑Y.length : Int) = (↑Y.length : Int), IntKind.i64.wrap ((↑k : Int) + (1 : Int)) = (↑(k + (1 : Nat)) : Int), Y = Y, (1 : Nat) = [at_ Y k].length, [Y.getD k Con.zero] = [at_ Y k], (0 : Nat) < (1 : Nat) ∧ (1 : Nat) ≤ (1000000 : Nat), k < Y.length, (0 : Int) ≤ (↑k : Int) ∧ (↑k : Int) < (↑Y.length : Int), Dec (decide ((↑k : Int) < (↑Y.length : Int))) true], by kernel_rfl, ⟨?_, ?_, ?_, ?_, ?_, ?_, ?_, ?_, ?_, d1⟩, MuG.out ?_, InG.out ?_⟩⟩)
           (fun d1 => CtG.no ?_)
        all_goals first | (refine MuG.mk ?_; (simp only [decide_eq_true_eq] at d1; show Y.length - (k + 1) < Y.length - k; omega)) | (refine InG.mk ?_; (first | (exact jnI_one hI hne) | (have hp := jnI_pos hI; have hl := jnI_len hI; have el : IntKind.i64.wrap ((L.length : Int) - 1) = ((L.length - 1 : Nat) : Int) := (by rw [w64 (by omega) (by omega)]; omega); simp only [el, Int.toNat_natCast, decide_eq_true_eq, decide_eq_false_iff_not, beq_iff_eq, beq_eq_false_iff_ne, ne_eq] at *; first | (exfalso; omega) | exact jnI_app hI (by omega) d3 | exact jnI_jn hI (by omega) d3))) | (refine CtG.mk ?_; (have h0 : k = 0 := hI; simp only [decide_eq_false_iff_not] at d1; omega)) | (first | (with_reducible rfl) | exact ⟨rfl, rfl⟩ | decide | (have hp := jnI_pos hI; have hl := jnI_len hI; have el : IntKind.i64.wrap ((L.length : Int) - 1) = ((L.length - 1 : Nat) : Int) := (by rw [w64 (by omega) (by omega)]; omega); (try simp only [el, ek, Int.toNat_natCast, decide_eq_true_eq, decide_eq_false_iff_not, View.num, beq_iff_eq, beq_eq_false_iff_ne, ne_eq] at *) <;> first | omega | exact ⟨by omega, by omega⟩ | exact ⟨trivial, by omega⟩ | (rw [← jnI_end hI (by omega)]; done) | (exact jnI_end hI (by omega)) | (rw [List.length_append]; rfl) | (unfold jnL; rw [List.length_set]; done) | (simp only [updT, updO, updS, updD, List.length_set]; omega) | (rw [upd_odd (by omega)] at d4; exact upd_join (by omega) (jnI_b hI hY hn) (okA hY (by omega)) (by omega) _ (by rw [d4]; rfl)) | (exact (5 : Nat))) | ((try simp only [ek, Int.toNat_natCast, decide_eq_true_eq, decide_eq_false_iff_not] at *) <;> first | omega | exact ⟨by omega, by omega⟩ | rfl))
      · -- 2
        refine Or.elim (Bool.eq_false_or_eq_true (decide ((↑k : Int) < (↑Y.length : Int)))) (fun d1 => Or.elim (Bool.eq_false_or_eq_true (decide (IntKind.i64.wrap ((↑L.length : Int) - (1 : Int)) < (0 : Int)))) (fun d2 => ⟨[true, true], .inl ⟨(k + 1, some (L ++ [at_ Y k])), [Y.length = Y.length, (↑Y.length : Int) = (↑Y.length : Int), IntKind.i64.wrap ((↑k : Int) + (1 : Int)) = (↑(k + (1 : Nat)) : Int), Y = Y, L.length + (1 : Nat) = (L ++ [at_ Y k]).length, L ++ [Y.getD k Con.zero] = L ++ [at_ Y k], (View.con L).num = L.length ∧ L.length + (1 : Nat) ≤ (1000000 : Nat), Dec (decide (IntKind.i64.wrap ((↑L.length : Int) - (1 : Int)) < (0 : Int))) true, k < Y.length, (0 : Int) ≤ (↑k : Int) ∧ (↑k : Int) < (↑Y.length : Int), Dec (decide ((↑k : Int) < (↑Y.length : Int))) true], by kernel_rfl, ⟨?_, ?_, ?_, ?_, ?_, ?_, ?_, d2, ?_, ?_, d1⟩, MuG.out ?_, InG.out ?_⟩⟩)
           (fun d2 => Or.elim (Bool.eq_false_or_eq_true ((L.getD (IntKind.i64.wrap ((↑L.length : Int) - (1 : Int))).toNat Con.zero).exp == (Y.getD k Con.zero).exp)) (fun d3 => Or.elim (Bool.eq_false_or_eq_true (((updS (updD L (IntKind.i64.wrap ((↑L.length : Int) - (1 : Int))).toNat (IntKind.i64.wrap ((L.getD (IntKind.i64.wrap ((↑L.length : Int) - (1 : Int))).toNat Con.zero).dim + (Y.getD k Con.zero).dim))) (IntKind.i64.wrap ((↑L.length : Int) - (1 : Int))).toNat (IntKind.i64.wrap (((updD L (IntKind.i64.wrap ((↑L.length : Int) - (1 : Int))).toNat (IntKind.i64.wrap ((L.getD (IntKind.i64.wrap ((↑L.length : Int) - (1 : Int))).toNat Con.zero).dim + (Y.getD k Con.zero).dim))).getD (IntKind.i64.wrap ((↑L.length : Int) - (1 : Int))).toNat Con.zero).sign * (Y.getD k Con.zero).sign))).getD (IntKind.i64.wrap ((↑L.length : Int) - (1 : Int))).toNat Con.zero).odd)) (fun d4 => ⟨[true, false, false, true], .inl ⟨(k + 1, some (jnL L (at_ Y k))), [Y.length = Y.length, (↑Y.length : Int) = (↑Y.length : Int), IntKind.i64.wrap ((↑k : Int) + (1 : Int)) = (↑(k + (1 : Nat)) : Int), Y = Y, L.length = (jnL L (at_ Y k)).length, updT (updO (updS (updD L (IntKind.i64.wrap ((↑L.length : Int) - (1 : Int))).toNat (IntKind.i64.wrap ((L.getD (IntKind.i64.wrap ((↑L.length : Int) - (1 : Int))).toNat Con.zero).dim + (Y.getD k Con.zero).dim))) (IntKind.i64.wrap ((↑L.length : Int) - (1 : Int))).toNat (IntKind.i64.wrap (((updD L (IntKind.i64.wrap ((↑L.length : Int) - (1 : Int))).toNat (IntKind.i64.wrap ((L.getD (IntKind.i64.wrap ((↑L.length : Int) - (1 : Int))).toNat Con.zero).dim + (Y.getD k Con.zero).dim))).getD (IntKind.i64.wrap ((↑L.length : Int) - (1 : Int))).toNat Con.zero).sign * (Y.getD k Con.zero).sign))) (IntKind.i64.wrap ((↑L.length : Int) - (1 : Int))).toNat true) (IntKind.i64.wrap ((↑L.length : Int) - (1 : Int))).toNat ((IntKind.i64.wrap (((updO (updS (updD L (IntKind.i64.wrap ((↑L.length : Int) - (1 : Int))).toNat (IntKind.i64.wrap ((L.getD (IntKind.i64.wrap ((↑L.length : Int) - (1 : Int))).toNat Con.zero).dim + (Y.getD k Con.zero).dim))) (IntKind.i64.wrap ((↑L.length : Int) - (1 : Int))).toNat (IntKind.i64.wrap (((updD L (IntKind.i64.wrap ((↑L.length : Int) - (1 : Int))).toNat (IntKind.i64.wrap ((L.getD (IntKind.i64.wrap ((↑L.length : Int) - (1 : Int))).toNat Con.zero).dim + (Y.getD k Con.zero).dim))).getD (IntKind.i64.wrap ((↑L.length : Int) - (1 : Int))).toNat Con.zero).sign * (Y.getD k Con.zero).sign))) (IntKind.i64.wrap ((↑L.length : Int) - (1 : Int))).toNat true).getD (IntKind.i64.wrap ((↑L.length : Int) - (1 : Int))).toNat Con.zero).oddity + (Y.getD k Con.zero).oddity)).tmod (8 : Int)) = jnL L (at_ Y k), (IntKind.i64.wrap ((↑L.length : Int) - (1 : Int))).toNat < (updO (updS (updD L (IntKind.i64.wrap ((↑L.length : Int) - (1 : Int))).toNat (IntKind.i64.wrap ((L.getD (IntKind.i64.wrap ((↑L.length : Int) - (1 : Int))).toNat Con.zero).dim + (Y.getD k Con.zero).dim))) (IntKind.i64.wrap ((↑L.length : Int) - (1 : Int))).toNat (IntKind.i64.wrap (((updD L (IntKind.i64.wrap ((↑L.length : Int) - (1 : Int))).toNat (IntKind.i64.wrap ((L.getD (IntKind.i64.wrap ((↑L.length : Int) - (1 : Int))).toNat Con.zero).dim + (Y.getD k Con.zero).dim))).getD (IntKind.i64.wrap ((↑L.length : Int) - (1 : Int))).toNat Con.zero).sign * (Y.getD k Con.zero).sign))) (IntKind.i64.wrap ((↑L.length : Int) - (1 : Int))).toNat true).length, (8 : Int) ≠ (0 : Int), (IntKind.i64.wrap ((↑L.length : Int) - (1 : Int))).toNat < (updO (updS (updD L (IntKind.i64.wrap ((↑L.length : Int) - (1 : Int))).toNat (IntKind.i64.wrap ((L.getD (IntKind.i64.wrap ((↑L.length : Int) - (1 : Int))).toNat Con.zero).dim + (Y.getD k Con.zero).dim))) (IntKind.i64.wrap ((↑L.length : Int) - (1 : Int))).toNat (IntKind.i64.wrap (((updD L (IntKind.i64.wrap ((↑L.length : Int) - (1 : Int))).toNat (IntKind.i64.wrap ((L.getD (IntKind.i64.wrap ((↑L.length : Int) - (1 : Int))).toNat Con.zero).dim + (Y.getD k Con.zero).dim))).getD (IntKind.i64.wrap ((↑L.length : Int) - (1 : Int))).toNat Con.zero).sign * (Y.getD k Con.zero).sign))) (IntKind.i64.wrap ((↑L.length : Int) - (1 : Int))).toNat true).length, (IntKind.i64.wrap ((↑L.length : Int) - (1 : Int))).toNat < (updS (updD L (IntKind.i64.wrap ((↑L.length : Int) - (1 : Int))).toNat (IntKind.i64.wrap ((L.getD (IntKind.i64.wrap ((↑L.length : Int) - (1 : Int))).toNat Con.zero).dim + (Y.getD k Con.zero).dim))) (IntKind.i64.wrap ((↑L.length : Int) - (1 : Int))).toNat (IntKind.i64.wrap (((updD L (IntKind.i64.wrap ((↑L.length : Int) - (1 : Int))).toNat (IntKind.i64.wrap ((L.getD (IntKind.i64.wrap ((↑L.length : Int) - (1 : Int))).toNat Con.zero).dim + (Y.getD k Con.zero).dim))).getD (IntKind.i64.wrap ((↑L.length : Int) - (1 : Int))).toNat Con.zero).sign * (Y.getD k Con.zero).sign))).length, Dec ((updS (updD L (IntKind.i64.wrap ((↑L.length : Int) - (1 : Int))).toNat (IntKind.i64.wrap ((L.getD (IntKind.i64.wrap ((↑L.length : Int) - (1 : Int))).toNat Con.zero).dim + (Y.getD k Con.zero).dim))) (IntKind.i64.wrap ((↑L.length : Int) - (1 : Int))).toNat (IntKind.i64.wrap (((updD L (IntKind.i64.wrap ((↑L.length : Int) - (1 : Int))).toNat (IntKind.i64.wrap ((L.getD (IntKind.i64.wrap ((↑L.length : Int) - (1 : Int))).toNat Con.zero).dim + (Y.getD k Con.zero).dim))).getD (IntKind.i64.wrap ((↑L.length : Int) - (1 : Int))).toNat Con.zero).sign * (Y.getD k Con.zero).sign))).getD (IntKind.i64.wrap ((↑L.length : Int) - (1 : Int))).toNat Con.zero).odd true, (IntKind.i64.wrap ((↑L.length : Int) - (1 : Int))).toNat < (updS (updD L (IntKind.i64.wrap ((↑L.length : Int) - (1 : Int))).toNat (IntKind.i64.wrap ((L.getD (IntKind.i64.wrap ((↑L.length : Int) - (1 : Int))).toNat Con.zero).dim + (Y.getD k Con.zero).dim))) (IntKind.i64.wrap ((↑L.length : Int) - (1 : Int))).toNat (IntKind.i64.wrap (((updD L (IntKind.i64.wrap ((↑L.length : Int) - (1 : Int))).toNat (IntKind.i64.wrap ((L.getD (IntKind.i64.wrap ((↑L.length : Int) - (1 : Int))).toNat Con.zero).dim + (Y.getD k Con.zero).dim))).getD (IntKind.i64.wrap ((↑L.length : Int) - (1 : Int))).toNat Con.zero).sign * (Y.getD k Con.zero).sign))).length, (IntKind.i64.wrap ((↑L.length : Int) - (1 : Int))).toNat < (updD L (IntKind.i64.wrap ((↑L.length : Int) - (1 : Int))).toNat (IntKind.i64.wrap ((L.getD (IntKind.i64.wrap ((↑L.length : Int) - (1 : Int))).toNat Con.zero).dim + (Y.getD k Con.zero).dim))).length, (IntKind.i64.wrap ((↑L.length : Int) - (1 : Int))).toNat < (updD L (IntKind.i64.wrap ((↑L.length : Int) - (1 : Int))).toNat (IntKind.i64.wrap ((L.getD (IntKind.i64.wrap ((↑L.length : Int) - (1 : Int))).toNat Con.zero).dim + (Y.getD k Con.zero).dim))).length, (IntKind.i64.wrap ((↑L.length : Int) - (1 : Int))).toNat < L.length, (IntKind.i64.wrap ((↑L.length : Int) - (1 : Int))).toNat < L.length, (0 : Int) ≤ IntKind.i64.wrap ((↑L.length : Int) - (1 : Int)) ∧ IntKind.i64.wrap ((↑L.length : Int) - (1 : Int)) < (↑L.length : Int), Dec ((L.getD (IntKind.i64.wrap ((↑L.length : Int) - (1 : Int))).toNat Con.zero).exp != (Y.getD k Con.zero).exp) false, (IntKind.i64.wrap ((↑L.length : Int) - (1 : Int))).toNat < L.length, (0 : Int) ≤ IntKind.i64.wrap ((↑L.length : Int) - (1 : Int)) ∧ IntKind.i64.wrap ((↑L.length : Int) - (1 : Int)) < (↑L.length : Int), Dec (decide (IntKind.i64.wrap ((↑L.length : Int) - (1 : Int)) < (0 : Int))) false, k < Y.length, (0 : Int) ≤ (↑k : Int) ∧ (↑k : Int) < (↑Y.length : Int), Dec (decide ((↑k : Int) < (↑Y.length : Int))) true], by kernel_rfl, ⟨?_, ?_, ?_, ?_, ?_, ?_, ?_, ?_, ?_, ?_, d4, ?_, ?_, ?_, ?_, ?_, ?_, (dN d3), ?_, ?_, d2, ?_, ?_, d1⟩, MuG.out ?_, InG.out ?_⟩⟩)
           (fun d4 => ⟨[true, false, false, false], .inl ⟨(k + 1, some (jnL L (at_ Y k))), [Y.length = Y.length, (↑Y.length : Int) = (↑Y.length : Int), IntKind.i64.wrap ((↑k : Int) + (1 : Int)) = (↑(k + (1 : Nat)) : Int), Y = Y, L.length = (jnL L (at_ Y k)).length, updT (updO (updS (updD L (IntKind.i64.wrap ((↑L.length : Int) - (1 : Int))).toNat (IntKind.i64.wrap ((L.getD (IntKind.i64.wrap ((↑L.length : Int) - (1 : Int))).toNat Con.zero).dim + (Y.getD k Con.zero).dim))) (IntKind.i64.wrap ((↑L.length : Int) - (1 : Int))).toNat (IntKind.i64.wrap (((updD L (IntKind.i64.wrap ((↑L.length : Int) - (1 : Int))).toNat (IntKind.i64.wrap ((L.getD (IntKind.i64.wrap ((↑L.length : Int) - (1 : Int))).toNat Con.zero).dim + (Y.getD k Con.zero).dim))).getD (IntKind.i64.wrap ((↑L.length : Int) - (1 : Int))).toNat Con.zero).sign * (Y.getD k Con.zero).sign))) (IntKind.i64.wrap ((↑L.length : Int) - (1 : Int))).toNat (Y.getD k Con.zero).odd) (IntKind.i64.wrap ((↑L.length : Int) - (1 : Int))).toNat ((IntKind.i64.wrap (((updO (updS (updD L (IntKind.i64.wrap ((↑L.length : Int) - (1 : Int))).toNat (IntKind.i64.wrap ((L.getD (IntKind.i64.wrap ((↑L.length : Int) - (1 : Int))).toNat Con.zero).dim + (Y.getD k Con.zero).dim))) (IntKind.i64.wrap ((↑L.length : Int) - (1 : Int))).toNat (IntKind.i64.wrap (((updD L (IntKind.i64.wrap ((↑L.length : Int) - (1 : Int))).toNat (IntKind.i64.wrap ((L.getD (IntKind.i64.wrap ((↑L.length : Int) - (1 : Int))).toNat Con.zero).dim + (Y.getD k Con.zero).dim))).getD (IntKind.i64.wrap ((↑L.length : Int) - (1 : Int))).toNat Con.zero).sign * (Y.getD k Con.zero).sign))) (IntKind.i64.wrap ((↑L.length : Int) - (1 : Int))).toNat (Y.getD k Con.zero).odd).getD (IntKind.i64.wrap ((↑L.length : Int) - (1 : Int))).toNat Con.zero).oddity + (Y.getD k Con.zero).oddity)).tmod (8 : Int)) = jnL L (at_ Y k), (IntKind.i64.wrap ((↑L.length : Int) - (1 : Int))).toNat < (updO (updS (updD L (IntKind.i64.wrap ((↑L.length : Int) - (1 : Int))).toNat (IntKind.i64.wrap ((L.getD (IntKind.i64.wrap ((↑L.length : Int) - (1 : Int))).toNat Con.zero).dim + (Y.getD k Con.zero).dim))) (IntKind.i64.wrap ((↑L.length : Int) - (1 : Int))).toNat (IntKind.i64.wrap (((updD L (IntKind.i64.wrap ((↑L.length : Int) - (1 : Int))).toNat (IntKind.i64.wrap ((L.getD (IntKind.i64.wrap ((↑L.length : Int) - (1 : Int))).toNat Con.zero).dim + (Y.getD k Con.zero).dim))).getD (IntKind.i64.wrap ((↑L.length : Int) - (1 : Int))).toNat Con.zero).sign * (Y.getD k Con.zero).sign))) (IntKind.i64.wrap ((↑L.length : Int) - (1 : Int))).toNat (Y.getD k Con.zero).odd).length, (8 : Int) ≠ (0 : Int), (IntKind.i64.wrap ((↑L.length : Int) - (1 : Int))).toNat < (updO (updS (updD L (IntKind.i64.wrap ((↑L.length : Int) - (1 : Int))).toNat (IntKind.i64.wrap ((L.getD (IntKind.i64.wrap ((↑L.length : Int) - (1 : Int))).toNat Con.zero).dim + (Y.getD k Con.zero).dim))) (IntKind.i64.wrap ((↑L.length : Int) - (1 : Int))).toNat (IntKind.i64.wrap (((updD L (IntKind.i64.wrap ((↑L.length : Int) - (1 : Int))).toNat (IntKind.i64.wrap ((L.getD (IntKind.i64.wrap ((↑L.length : Int) - (1 : Int))).toNat Con.zero).dim + (Y.getD k Con.zero).dim))).getD (IntKind.i64.wrap ((↑L.length : Int) - (1 : Int))).toNat Con.zero).sign * (Y.getD k Con.zero).sign))) (IntKind.i64.wrap ((↑L.length : Int) - (1 : Int))).toNat (Y.getD k Con.zero).odd).length, (IntKind.i64.wrap ((↑L.length : Int) - (1 : Int))).toNat < (updS (updD L (IntKind.i64.wrap ((↑L.length : Int) - (1 : Int))).toNat (IntKind.i64.wrap ((L.getD (IntKind.i64.wrap ((↑L.length : Int) - (1 : Int))).toNat Con.zero).dim + (Y.getD k Con.zero).dim))) (IntKind.i64.wrap ((↑L.length : Int) - (1 : Int))).toNat (IntKind.i64.wrap (((updD L (IntKind.i64.wrap ((↑L.length : Int) - (1 : Int))).toNat (IntKind.i64.wrap ((L.getD (IntKind.i64.wrap ((↑L.length : Int) - (1 : Int))).toNat Con.zero).dim + (Y.getD k Con.zero).dim))).getD (IntKind.i64.wrap ((↑L.length : Int) - (1 : Int))).toNat Con.zero).sign * (Y.getD k Con.zero).sign))).length, Dec ((updS (updD L (IntKind.i64.wrap ((↑L.length : Int) - (1 : Int))).toNat (IntKind.i64.wrap ((L.getD (IntKind.i64.wrap ((↑L.length : Int) - (1 : Int))).toNat Con.zero).dim + (Y.getD k Con.zero).dim))) (IntKind.i64.wrap ((↑L.length : Int) - (1 : Int))).toNat (IntKind.i64.wrap (((updD L (IntKind.i64.wrap ((↑L.length : Int) - (1 : Int))).toNat (IntKind.i64.wrap ((L.getD (IntKind.i64.wrap ((↑L.length : Int) - (1 : Int))).toNat Con.zero).dim + (Y.getD k Con.zero).dim))).getD (IntKind.i64.wrap ((↑L.length : Int) - (1 : Int))).toNat Con.zero).sign * (Y.getD k Con.zero).sign))).getD (IntKind.i64.wrap ((↑L.length : Int) - (1 : Int))).toNat Con.zero).odd false, (IntKind.i64.wrap ((↑L.length : Int) - (1 : Int))).toNat < (updS (updD L (IntKind.i64.wrap ((↑L.length : Int) - (1 : Int))).toNat (IntKind.i64.wrap ((L.getD (IntKind.i64.wrap ((↑L.length : Int) - (1 : Int))).toNat Con.zero).dim + (Y.getD k Con.zero).dim))) (IntKind.i64.wrap ((↑L.length : Int) - (1 : Int))).toNat (IntKind.i64.wrap (((updD L (IntKind.i64.wrap ((↑L.length : Int) - (1 : Int))).toNat (IntKind.i64.wrap ((L.getD (IntKind.i64.wrap ((↑L.length : Int) - (1 : Int))).toNat Con.zero).dim + (Y.getD k Con.zero).dim))).getD (IntKind.i64.wrap ((↑L.length : Int) - (1 : Int))).toNat Con.zero).sign * (Y.getD k Con.zero).sign))).length, (IntKind.i64.wrap ((↑L.length : Int) - (1 : Int))).toNat < (updD L (IntKind.i64.wrap ((↑L.length : Int) - (1 : Int))).toNat (IntKind.i64.wrap ((L.getD (IntKind.i64.wrap ((↑L.length : Int) - (1 : Int))).toNat Con.zero).dim + (Y.getD k Con.zero).dim))).length, (IntKind.i64.wrap ((↑L.length : Int) - (1 : Int))).toNat < (updD L (IntKind.i64.wrap ((↑L.length : Int) - (1 : Int))).toNat (IntKind.i64.wrap ((L.getD (IntKind.i64.wrap ((↑L.length : Int) - (1 : Int))).toNat Con.zero).dim + (Y.getD k Con.zero).dim))).length, (IntKind.i64.wrap ((↑L.length : Int) - (1 : Int))).toNat < L.length, (IntKind.i64.wrap ((↑L.length : Int) - (1 : Int))).toNat < L.length, (0 : Int) ≤ IntKind.i64.wrap ((↑L.length : Int) - (1 : Int)) ∧ IntKind.i64.wrap ((↑L.length : Int) - (1 : Int)) < (↑L.length : Int), Dec ((L.getD (IntKind.i64.wrap ((↑L.length : Int) - (1 : Int))).toNat Con.zero).exp != (Y.getD k Con.zero).exp) false, (IntKind.i64.wrap ((↑L.length : Int) - (1 : Int))).toNat < L.length, (0 : Int) ≤ IntKind.i64.wrap ((↑L.length : Int) - (1 : Int)) ∧ IntKind.i64.wrap ((↑L.length : Int) - (1 : Int)) < (↑L.length : Int), Dec (decide (IntKind.i64.wrap ((↑L.length : Int) - (1 : Int)) < (0 : Int))) false, k < Y.length, (0 : Int) ≤ (↑k : Int) ∧ (↑k : Int) < (↑Y.length : Int), Dec (decide ((↑k : Int) < (↑Y.length : Int))) true], by kernel_rfl, ⟨?_, ?_, ?_, ?_, ?_, ?_, ?_, ?_, ?_, ?_, d4, ?_, ?_, ?_, ?_, ?_, ?_, (dN d3), ?_, ?_, d2, ?_, ?_, d1⟩, MuG.out ?_, InG.out ?_⟩⟩))
           (fun d3 => ⟨[true, false, true], .inl ⟨(k + 1, some (L ++ [at_ Y k])), [Y.length = Y.length, (↑Y.length : Int) = (↑Y.length : Int), IntKind.i64.wrap ((↑k : Int) + (1 : Int)) = (↑(k + (1 : Nat)) : Int), Y = Y, L.length + (1 : Nat) = (L ++ [at_ Y k]).length, L ++ [Y.getD k Con.zero] = L ++ [at_ Y k], (View.con L).num = L.length ∧ L.length + (1 : Nat) ≤ (1000000 : Nat), Dec ((L.getD (IntKind.i64.wrap ((↑L.length : Int) - (1 : Int))).toNat Con.zero).exp != (Y.getD k Con.zero).exp) true, (IntKind.i64.wrap ((↑L.length : Int) - (1 : Int))).toNat < L.length, (0 : Int) ≤ IntKind.i64.wrap ((↑L.length : Int) - (1 : Int)) ∧ IntKind.i64.wrap ((↑L.length : Int) - (1 : Int)) < (↑L.length : Int), Dec (decide (IntKind.i64.wrap ((↑L.length : Int) - (1 : Int)) < (0 : Int))) false, k < Y.length, (0 : Int) ≤ (↑k : Int) ∧ (↑k : Int) < (↑Y.length : Int), Dec (decide ((↑k : Int) < (↑Y.length : Int))) true], by kernel_rfl, ⟨?_, ?_, ?_, ?_, ?_, ?_, ?_, (dN d3), ?_, ?_, d2, ?_, ?_, d1⟩, MuG.out ?_, InG.out ?_⟩⟩)))
           (fun d1 => ⟨[false], .inr ⟨[Y = Y, L.length = (cmpL Y).length, L = cmpL Y, Dec (decide ((↑k : Int) < (↑Y.length : Int))) false], by kernel_rfl, ⟨?_, ?_, ?_, d1⟩, rfl⟩⟩)
        all_goals first | (refine MuG.mk ?_; (simp only [decide_eq_true_eq] at d1; show Y.length - (k + 1) < Y.length - k; omega)) | (refine InG.mk ?_; (first | (exact jnI_one hI hne) | (have hp := jnI_pos hI; have hl := jnI_len hI; have el : IntKind.i64.wrap ((L.length : Int) - 1) = ((L.length - 1 : Nat) : Int) := (by rw [w64 (by omega) (by omega)]; omega); simp only [el, Int.toNat_natCast, decide_eq_true_eq, decide_eq_false_iff_not, beq_iff_eq, beq_eq_false_iff_ne, ne_eq] at *; first | (exfalso; omega) | exact jnI_app hI (by omega) d3 | exact jnI_jn hI (by omega) d3))) | (refine CtG.mk ?_; (have h0 : k = 0 := hI; simp only [decide_eq_false_iff_not] at d1; omega)) | (first | (with_reducible rfl) | exact ⟨rfl, rfl⟩ | decide | (have hp := jnI_pos hI; have hl := jnI_len hI; have el : IntKind.i64.wrap ((L.length : Int) - 1) = ((L.length - 1 : Nat) : Int) := (by rw [w64 (by omega) (by omega)]; omega); (try simp only [el, ek, Int.toNat_natCast, decide_eq_true_eq, decide_eq_false_iff_not, View.num, beq_iff_eq, beq_eq_false_iff_ne, ne_eq] at *) <;> first | omega | exact ⟨by omega, by omega⟩ | exact ⟨trivial, by omega⟩ | (rw [← jnI_end hI (by omega)]; done) | (exact jnI_end hI (by omega)) | (rw [List.length_append]; rfl) | (unfold jnL; rw [List.length_set]; done) | (simp only [updT, updO, updS, updD, List.length_set]; omega) | (rw [upd_odd (by omega)] at d4; exact upd_join (by omega) (jnI_b hI hY hn) (okA hY (by omega)) (by omega) _ (by rw [d4]; rfl)) | (exact (5 : Nat))) | ((try simp only [ek, Int.toNat_natCast, decide_eq_true_eq, decide_eq_false_iff_not] at *) <;> first | omega | exact ⟨by omega, by omega⟩ | rfl))
end Go.Proofs.YtkkmlbhmcdoibaaGreatDoor.S

namespace Go.Proofs.YtkkmlbhmcdoibaaGreatDoor.S
open Go.QfSy Go.RowKit
noncomputable def orcSu (X : List Con) : CallF := orcSo X (orcN 25 37 1000 (orcOf EV.ng entsVW))
theorem orcSu_ok {X : List Con} (hX : okE X) (h0 : 1 ≤ X.length) : CallOk Tryz.prog EV.ng (orcSu X) := orcSo_ok hX h0 (orcN_ok (fun n h1 h2 => by
  obtain ⟨k, rfl⟩ : ∃ k : Nat, n = (k : Int) := ⟨n.toNat, by omega⟩
  exact grow_new k (by omega) (by omega)) (orcOf_ok entsVW_ok))
theorem val2_up {L : List Con} (h : val2M 2 L = true) : asc L := at_asc (val2_asc h)
theorem val2_le {L : List Con} (h : val2M 2 L = true) : L.length ≤ 8 := by have := (val2_ok h).2.2.2; omega
theorem pair_okE {A B : List Con} (hA : val2M 2 A = true) (hB : val2M 2 B = true) : okE (A ++ B) := by
  have a := (val2_ok hA).1.e; have b := (val2_ok hB).1.e
  refine ⟨by have := val2_le hA; have := val2_le hB; rw [List.length_append]; omega, fun c hc => ?_⟩
  rcases List.mem_append.1 hc with h | h
  · exact a.2 c h
  · exact b.2 c h
theorem pair_addOk {A B : List Con} (hA : val2M 2 A = true) (hB : val2M 2 B = true) : ∀ c ∈ srt (A ++ B), addOk c := fun c hc => by
  rcases List.mem_append.1 (srt_mem _ hc) with h | h
  · exact val2_addOk hA c h
  · exact val2_addOk hB c h
set_option maxHeartbeats 1000000 in
set_option maxRecDepth 100000 in
theorem sum_yes (p q : Int) (A B : List Con) (hA : val2M p A = true) (hB : val2M q B = true) : PureC Tryz.prog [] 11 [.agg [.int .i64 p, roC A], .agg [.int .i64 q, roC B]] (.tup [.agg [.int .i64 (bP (smV p q A B)), roC (bL (smV p q A B) (addM A B))], .int .i64 (smE (smV p q A B))]) := by
  have vA := val2_two hA; have vB := val2_two hB; have lA := val2_le vA; have lB := val2_le vB; have pA := (val2_ok vA).2.2.1; have hX := pair_okE vA vB; have hs : (srt (A ++ B)).length = A.length + B.length := (by rw [srt_len, List.length_append]); have hs2 : (A ++ B).length = A.length + B.length := List.length_append; have h0 : 1 ≤ (A ++ B).length := (by omega); have hY := pair_addOk vA vB; have hn : (srt (A ++ B)).length ≤ 1000 := (by omega); have hne : 0 < (srt (A ++ B)).length := (by omega); have he : addM A B = cmpL (srt (A ++ B)) := (cmp_srt (val2_up vA) (val2_up vB)).symm; have hV : smV p q A B = val2M 2 (cmpL (srt (A ++ B))) := (by unfold smV; rw [hA, hB, he]; rfl); have e1 : IntKind.i64.wrap (0 + (A.length : Int)) = (A.length : Int) := (by rw [w64 (by omega) (by omega)]; omega); have e2 : IntKind.i64.wrap (IntKind.i64.wrap (0 + (A.length : Int)) + (B.length : Int)) = (A.length : Int) + (B.length : Int) := (by rw [e1, w64 (by omega) (by omega)]); have k1 : val2M p (consR A.length fun i => (A.getD i Con.zero).rvs) = true := (by rw [consR_ro]; exact hA); have k2 : val2M q (consR B.length fun i => (B.getD i Con.zero).rvs) = true := (by rw [consR_ro]; exact hB); have k3 : decide (IntKind.i64.wrap ((0 : Int) + (↑A.length : Int)) < (0 : Int)) = false := decide_eq_false (by rw [e1]; omega); have k4 : decide (IntKind.i64.wrap (IntKind.i64.wrap ((0 : Int) + (↑A.length : Int)) + (↑B.length : Int)) < (0 : Int)) = false := decide_eq_false (by rw [e2]; omega); have k5 : decide ((20 : Int) ≤ (↑((0 : Nat) + A.length + B.length) : Int)) = false := decide_eq_false (by omega); have k6 : decide ((20 : Int) < (↑((0 : Nat) + A.length + B.length) : Int)) = false := decide_eq_false (by omega); have lC := cmpL_len (srt (A ++ B))
  have rr := fun (tp : List Bool) (ms : List Prop) h hm => pure_run evOk (callF_ok evOk (orcSu_ok hX h0) 8) Tryz.func11 (A := [.agg [.int .i64 p, roC A], .agg [.int .i64 q, roC B]]) (N := Nat.max 1 Tryz.f11.ntmps) rfl (one_ann (su_loop _ hY hn hne)) rfl rfl evNg (tabs := []) (R := .tup [.agg [.int .i64 (bP (smV p q A B)), roC (bL (smV p q A B) (addM A B))], .int .i64 (smE (smV p q A B))]) (tp := tp) (ms := ms) h hm
  refine Or.elim (Bool.eq_false_or_eq_true (val2M (2 : Int) (consR (cmpL (srt (A ++ B))).length fun i => ((cmpL (srt (A ++ B))).getD i Con.zero).rvs))) (fun d1 => rr [false, false, false, false, false, false, false] [(2 : Int) = bP (smV p q A B), (cmpL (srt (A ++ B))).length = (bL (smV p q A B) (addM A B)).length ∧ (cmpL (srt (A ++ B))).length = (cmpL (srt (A ++ B))).length ∧ ∀ (i : Nat), i < (cmpL (srt (A ++ B))).length → (fun i => ((bL (smV p q A B) (addM A B)).getD i Con.zero).rvs) i = ((cmpL (srt (A ++ B))).getD i Con.zero).rvs, (0 : Int) = smE (smV p q A B), Dec (!val2M (2 : Int) (consR (cmpL (srt (A ++ B))).length fun i => ((cmpL (srt (A ++ B))).getD i Con.zero).rvs)) false, (cmpL (srt (A ++ B))).length = (cmpL (srt (A ++ B))).length, (∀ (i : Nat), i < (cmpL (srt (A ++ B))).length → (fun i => ((cmpL (srt (A ++ B))).getD i Con.zero).rvs) i = (Con.ofR ((fun i => ((cmpL (srt (A ++ B))).getD i Con.zero).rvs) i)).rvs) ∧ (cmpL (srt (A ++ B))).length ≤ (1000 : Nat), (0 : Nat) + A.length + B.length = (srt (A ++ B)).length, (↑((0 : Nat) + A.length + B.length) : Int) = (↑(srt (A ++ B)).length : Int), srt (A ++ B) = srt (A ++ B), Dec (decide ((20 : Int) < (↑((0 : Nat) + A.length + B.length) : Int))) false, (0 : Nat) + A.length + B.length = (A ++ B).length, (↑((0 : Nat) + A.length + B.length) : Int) = (↑(A ++ B).length : Int), (([] ++ consR A.length fun i => (A.getD i Con.zero).rvs) ++ consR B.length fun i => (B.getD i Con.zero).rvs) = A ++ B, Dec (decide ((20 : Int) ≤ (↑((0 : Nat) + A.length + B.length) : Int))) false, (View.con ([] ++ consR A.length fun i => (A.getD i Con.zero).rvs)).num = (0 : Nat) + A.length ∧ (0 : Nat) + A.length + B.length ≤ (1000000 : Nat), ∀ (i : Nat), i < B.length → (fun i => (B.getD i Con.zero).rvs) i = (Con.ofR ((fun i => (B.getD i Con.zero).rvs) i)).rvs, (View.con []).num = (0 : Nat) ∧ (0 : Nat) + A.length ≤ (1000000 : Nat), ∀ (i : Nat), i < A.length → (fun i => (A.getD i Con.zero).rvs) i = (Con.ofR ((fun i => (A.getD i Con.zero).rvs) i)).rvs, (0 : Int) < IntKind.i64.wrap (IntKind.i64.wrap ((0 : Int) + (↑A.length : Int)) + (↑B.length : Int)) ∧ IntKind.i64.wrap (IntKind.i64.wrap ((0 : Int) + (↑A.length : Int)) + (↑B.length : Int)) ≤ (1000 : Int), Dec (decide (IntKind.i64.wrap (IntKind.i64.wrap ((0 : Int) + (↑A.length : Int)) + (↑B.length : Int)) < (0 : Int))) false, Dec (decide (IntKind.i64.wrap ((0 : Int) + (↑A.length : Int)) < (0 : Int))) false, Dec (!val2M q (consR B.length fun i => (B.getD i Con.zero).rvs)) false, (∀ (i : Nat), i < B.length → (fun i => (B.getD i Con.zero).rvs) i = (Con.ofR ((fun i => (B.getD i Con.zero).rvs) i)).rvs) ∧ B.length ≤ (1000 : Nat), Dec (!val2M p (consR A.length fun i => (A.getD i Con.zero).rvs)) false, (∀ (i : Nat), i < A.length → (fun i => (A.getD i Con.zero).rvs) i = (Con.ofR ((fun i => (A.getD i Con.zero).rvs) i)).rvs) ∧ A.length ≤ (1000 : Nat)] (by kernel_rfl) ⟨?_, ?_, ?_, (dN d1), ?_, ?_, ?_, ?_, ?_, k6, ?_, ?_, ?_, k5, ?_, ?_, ?_, ?_, ?_, k4, k3, (dN k2), ?_, (dN k1), (?_ : (∀ (i : Nat), i < A.length → (fun i => (A.getD i Con.zero).rvs) i = (Con.ofR ((fun i => (A.getD i Con.zero).rvs) i)).rvs) ∧ A.length ≤ (1000 : Nat))⟩)
           (fun d1 => rr [false, false, false, false, false, false, true] [(0 : Int) = bP (smV p q A B), (bL (smV p q A B) (addM A B)).length = (0 : Nat), (22 : Int) = smE (smV p q A B), Dec (!val2M (2 : Int) (consR (cmpL (srt (A ++ B))).length fun i => ((cmpL (srt (A ++ B))).getD i Con.zero).rvs)) true, (cmpL (srt (A ++ B))).length = (cmpL (srt (A ++ B))).length, (∀ (i : Nat), i < (cmpL (srt (A ++ B))).length → (fun i => ((cmpL (srt (A ++ B))).getD i Con.zero).rvs) i = (Con.ofR ((fun i => ((cmpL (srt (A ++ B))).getD i Con.zero).rvs) i)).rvs) ∧ (cmpL (srt (A ++ B))).length ≤ (1000 : Nat), (0 : Nat) + A.length + B.length = (srt (A ++ B)).length, (↑((0 : Nat) + A.length + B.length) : Int) = (↑(srt (A ++ B)).length : Int), srt (A ++ B) = srt (A ++ B), Dec (decide ((20 : Int) < (↑((0 : Nat) + A.length + B.length) : Int))) false, (0 : Nat) + A.length + B.length = (A ++ B).length, (↑((0 : Nat) + A.length + B.length) : Int) = (↑(A ++ B).length : Int), (([] ++ consR A.length fun i => (A.getD i Con.zero).rvs) ++ consR B.length fun i => (B.getD i Con.zero).rvs) = A ++ B, Dec (decide ((20 : Int) ≤ (↑((0 : Nat) + A.length + B.length) : Int))) false, (View.con ([] ++ consR A.length fun i => (A.getD i Con.zero).rvs)).num = (0 : Nat) + A.length ∧ (0 : Nat) + A.length + B.length ≤ (1000000 : Nat), ∀ (i : Nat), i < B.length → (fun i => (B.getD i Con.zero).rvs) i = (Con.ofR ((fun i => (B.getD i Con.zero).rvs) i)).rvs, (View.con []).num = (0 : Nat) ∧ (0 : Nat) + A.length ≤ (1000000 : Nat), ∀ (i : Nat), i < A.length → (fun i => (A.getD i Con.zero).rvs) i = (Con.ofR ((fun i => (A.getD i Con.zero).rvs) i)).rvs, (0 : Int) < IntKind.i64.wrap (IntKind.i64.wrap ((0 : Int) + (↑A.length : Int)) + (↑B.length : Int)) ∧ IntKind.i64.wrap (IntKind.i64.wrap ((0 : Int) + (↑A.length : Int)) + (↑B.length : Int)) ≤ (1000 : Int), Dec (decide (IntKind.i64.wrap (IntKind.i64.wrap ((0 : Int) + (↑A.length : Int)) + (↑B.length : Int)) < (0 : Int))) false, Dec (decide (IntKind.i64.wrap ((0 : Int) + (↑A.length : Int)) < (0 : Int))) false, Dec (!val2M q (consR B.length fun i => (B.getD i Con.zero).rvs)) false, (∀ (i : Nat), i < B.length → (fun i => (B.getD i Con.zero).rvs) i = (Con.ofR ((fun i => (B.getD i Con.zero).rvs) i)).rvs) ∧ B.length ≤ (1000 : Nat), Dec (!val2M p (consR A.length fun i => (A.getD i Con.zero).rvs)) false, (∀ (i : Nat), i < A.length → (fun i => (A.getD i Con.zero).rvs) i = (Con.ofR ((fun i => (A.getD i Con.zero).rvs) i)).rvs) ∧ A.length ≤ (1000 : Nat)] (by kernel_rfl) ⟨?_, ?_, ?_, (dN d1), ?_, ?_, ?_, ?_, ?_, k6, ?_, ?_, ?_, k5, ?_, ?_, ?_, ?_, ?_, k4, k3, (dN k2), ?_, (dN k1), (?_ : (∀ (i : Nat), i < A.length → (fun i => (A.getD i Con.zero).rvs) i = (Con.ofR ((fun i => (A.getD i Con.zero).rvs) i)).rvs) ∧ A.length ≤ (1000 : Nat))⟩)
  all_goals first | (first | (with_reducible rfl) | (with_reducible exact ⟨rfl, rfl⟩) | exact fun _ _ => rfl | omega | exact ⟨fun _ _ => rfl, by omega⟩ | (rw [e2]; exact ⟨by omega, by omega⟩) | exact ⟨rfl, by omega⟩ | exact ⟨by show (([] : List Con) ++ consR A.length _).length = _; rw [consR_ro]; simp, by omega⟩ | (rw [consR_ro, consR_ro]; rfl) | (rw [consR_ro] at d1; first | (rw [hV, d1]; rfl) | (rw [hV, he, d1]; exact ⟨rfl, rfl, fun _ _ => rfl⟩)) | (exact (5 : Nat)))
set_option maxRecDepth 100000 in
theorem sum_n1 (p q : Int) (A B : List Con) (hA : val2M p A = false) (lA : A.length ≤ 1000) : PureC Tryz.prog [] 11 [.agg [.int .i64 p, roC A], .agg [.int .i64 q, roC B]] (.tup [.agg [.int .i64 0, roC []], .int .i64 22]) := by
  have k1 : val2M p (consR A.length fun i => (A.getD i Con.zero).rvs) = false := (by rw [consR_ro]; exact hA)
  have rr := fun (tp : List Bool) (ms : List Prop) h hm => pure_run evOk (callF_ok evOk (orcOf_ok entsVW_ok) 8) Tryz.func11 (A := [.agg [.int .i64 p, roC A], .agg [.int .i64 q, roC B]]) rfl none_ann rfl rfl evNg (tabs := []) (R := .tup [.agg [.int .i64 0, roC []], .int .i64 22]) (tp := tp) (ms := ms) h hm
  refine rr [true] [(0 : Int) = (0 : Int), (0 : Nat) = (0 : Nat), (22 : Int) = (22 : Int), Dec (!val2M p (consR A.length fun i => (A.getD i Con.zero).rvs)) true, (∀ (i : Nat), i < A.length → (fun i => (A.getD i Con.zero).rvs) i = (Con.ofR ((fun i => (A.getD i Con.zero).rvs) i)).rvs) ∧ A.length ≤ (1000 : Nat)] (by kernel_rfl) ⟨?_, ?_, ?_, (dN k1), (?_ : (∀ (i : Nat), i < A.length → (fun i => (A.getD i Con.zero).rvs) i = (Con.ofR ((fun i => (A.getD i Con.zero).rvs) i)).rvs) ∧ A.length ≤ (1000 : Nat))⟩
  all_goals first | (first | rfl | exact ⟨rfl, rfl⟩ | exact ⟨fun _ _ => rfl, lA⟩)
set_option maxRecDepth 100000 in
theorem sum_n2 (p q : Int) (A B : List Con) (hA : val2M p A = true) (hB : val2M q B = false) (lA : A.length ≤ 1000) (lB : B.length ≤ 1000) : PureC Tryz.prog [] 11 [.agg [.int .i64 p, roC A], .agg [.int .i64 q, roC B]] (.tup [.agg [.int .i64 0, roC []], .int .i64 22]) := by
  have k1 : val2M p (consR A.length fun i => (A.getD i Con.zero).rvs) = true := (by rw [consR_ro]; exact hA); have k2 : val2M q (consR B.length fun i => (B.getD i Con.zero).rvs) = false := (by rw [consR_ro]; exact hB)
  have rr := fun (tp : List Bool) (ms : List Prop) h hm => pure_run evOk (callF_ok evOk (orcOf_ok entsVW_ok) 8) Tryz.func11 (A := [.agg [.int .i64 p, roC A], .agg [.int .i64 q, roC B]]) rfl none_ann rfl rfl evNg (tabs := []) (R := .tup [.agg [.int .i64 0, roC []], .int .i64 22]) (tp := tp) (ms := ms) h hm
  refine rr [false, true] [(0 : Int) = (0 : Int), (0 : Nat) = (0 : Nat), (22 : Int) = (22 : Int), Dec (!val2M q (consR B.length fun i => (B.getD i Con.zero).rvs)) true, (∀ (i : Nat), i < B.length → (fun i => (B.getD i Con.zero).rvs) i = (Con.ofR ((fun i => (B.getD i Con.zero).rvs) i)).rvs) ∧ B.length ≤ (1000 : Nat), Dec (!val2M p (consR A.length fun i => (A.getD i Con.zero).rvs)) false, (∀ (i : Nat), i < A.length → (fun i => (A.getD i Con.zero).rvs) i = (Con.ofR ((fun i => (A.getD i Con.zero).rvs) i)).rvs) ∧ A.length ≤ (1000 : Nat)] (by kernel_rfl) ⟨?_, ?_, ?_, (dN k2), ?_, (dN k1), (?_ : (∀ (i : Nat), i < A.length → (fun i => (A.getD i Con.zero).rvs) i = (Con.ofR ((fun i => (A.getD i Con.zero).rvs) i)).rvs) ∧ A.length ≤ (1000 : Nat))⟩
  all_goals first | (first | rfl | exact ⟨rfl, rfl⟩ | exact ⟨fun _ _ => rfl, lA⟩ | exact ⟨fun _ _ => rfl, lB⟩)
theorem tsum_pure (p q : Int) (A B : List Con) (lA : A.length ≤ 1000) (lB : B.length ≤ 1000) : PureC Tryz.prog [] 11 [.agg [.int .i64 p, roC A], .agg [.int .i64 q, roC B]] (.tup [.agg [.int .i64 (bP (smV p q A B)), roC (bL (smV p q A B) (addM A B))], .int .i64 (smE (smV p q A B))]) := by
  cases hA : val2M p A with
  | false =>
    have h : smV p q A B = false := by unfold smV; rw [hA]; rfl
    rw [h]; exact sum_n1 p q A B hA lA
  | true => cases hB : val2M q B with
    | false =>
      have h : smV p q A B = false := by unfold smV; rw [hA, hB]; rfl
      rw [h]; exact sum_n2 p q A B hA hB lA lB
    | true => exact sum_yes p q A B hA hB
end Go.Proofs.YtkkmlbhmcdoibaaGreatDoor.S

namespace Go.Proofs.YtkkmlbhmcdoibaaGreatDoor.S
open Go.QfSy Go.RowKit
set_option maxRecDepth 100000 in
theorem rawM (kx : Int) (X : List Prt) (most : Int) (hX : ∀ p ∈ X, p.ok) (hn : X.length ≤ 900) (h1 : 1 ≤ most) (h2 : most ≤ 8) : PureC Tryz.prog [] 10 [.agg [.int .u8 kx, roP X], .int .i64 most] (.agg [.int .i64 2, roC (listV most true X)]) := by
  have rr := fun (tp : List Bool) (ms : List Prop) h hm => pure_run evOk (callF_ok evOk (orcOf_ok entsLi_ok) 8) Tryz.func10 (A := [.agg [.int .u8 kx, roP X], .int .i64 most]) rfl none_ann rfl rfl evNg (tabs := []) (R := .agg [.int .i64 2, roC (listV most true X)]) (tp := tp) (ms := ms) h hm
  refine rr [] [(2 : Int) = (2 : Int), (listV most true (prtR X.length fun i => (X.getD i Prt.zero).rvs)).length = (listV most true X).length ∧ (fun i => ((listV most true (prtR X.length fun i => (X.getD i Prt.zero).rvs)).getD i Con.zero).rvs) = fun i => ((listV most true X).getD i Con.zero).rvs, (∀ (i : Nat), i < X.length → (fun i => (X.getD i Prt.zero).rvs) i = (Prt.ofR ((fun i => (X.getD i Prt.zero).rvs) i)).rvs) ∧ (∀ (p : Prt), (p ∈ prtR X.length fun i => (X.getD i Prt.zero).rvs) → p.ok) ∧ (1 : Int) ≤ most ∧ most ≤ (100 : Int) ∧ X.length ≤ (1000 : Nat)] (by kernel_rfl) ⟨?_, ?_, (?_ : (∀ (i : Nat), i < X.length → (fun i => (X.getD i Prt.zero).rvs) i = (Prt.ofR ((fun i => (X.getD i Prt.zero).rvs) i)).rvs) ∧ (∀ (p : Prt), (p ∈ prtR X.length fun i => (X.getD i Prt.zero).rvs) → p.ok) ∧ (1 : Int) ≤ most ∧ most ≤ (100 : Int) ∧ X.length ≤ (1000 : Nat))⟩
  all_goals first | (first | (with_reducible rfl) | exact ⟨rfl, rfl⟩ | exact ⟨fun _ _ => rfl, by rw [prtR_ro]; exact hX, by omega, by omega, by omega⟩ | (rw [prtR_ro]; exact ⟨rfl, rfl⟩))
end Go.Proofs.YtkkmlbhmcdoibaaGreatDoor.S

