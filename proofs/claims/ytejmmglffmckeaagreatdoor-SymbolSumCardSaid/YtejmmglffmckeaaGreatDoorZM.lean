/- Regions that draw their order: what the pass over the text gives. -/
import Derived.Test.YtejmmglffmckeaaGreatDoorZL
set_option linter.unusedSimpArgs false
set_option linter.unusedVariables false
namespace Go.QfSy

/- what op o sees in a heap -/
def SeeP (E : Env) (all : Array Oper) (o : Oper) (T : Tr AV) (v : AV) (m : Tr Blk) : Prop :=
  ∃ u ms, evS E.ti E.lz m (evoR E.ng T (o.looksAt all)) o.op o.type = some (u, ms) ∧ (∀ p ∈ ms, p) ∧ Imp u v
theorem seesV_ok {E : Env} {all : Array Oper} {o : Oper} {T : Tr AV} {v : AV} {m : Tr Blk} {ms : List Prop} (h : seesV E all o T v m = some ms) (hm : ∀ p ∈ ms, p) : SeeP E all o T v m := by
  unfold seesV at h
  split at h
  · cases h
  · rename_i u m1 h1
    split at h
    · cases h
    · rename_i m2 h2
      cases h
      obtain ⟨hm1, hm2⟩ := split2 hm
      exact ⟨u, m1, h1, hm1, sameS_ok h2 hm2⟩

section
variable (E : Env) (call : CallF) (all : Array Oper) (A : Tr Nat) (N i0 : Nat) (st : Nat → DSt)

def IsAct (i : Nat) : Prop := ∃ o, all[i]? = some o ∧ wantedA all N (st i).T o = true ∧ kindOf o.op = .act
def IsMk (i : Nat) : Prop := ∃ o, all[i]? = some o ∧ wantedA all N (st i).T o = true ∧ kindOf o.op = .make

def SkipR (i : Nat) (o : Oper) (v : AV) : Prop :=
  wantedA all N (st i).T o = false ∧ v = .tup [] ∧ (st (i + 1)).H = (st i).H ∧ (st (i + 1)).last = (st i).last ∧ (st (i + 1)).pend = (st i).pend ∧ (st (i + 1)).hist = (st i).hist ∧ (st (i + 1)).seen = (st i).seen

def QuietR (i : Nat) (o : Oper) (v : AV) : Prop :=
  wantedA all N (st i).T o = true ∧ kindOf o.op = .quiet ∧ SeeP E all o (st i).T v (st i).H.m ∧
  (looksIn o.op = true → ∃ ms, seesBack E all A i o (st i).T v (st i).hist = some ms ∧ ∀ p ∈ ms, p) ∧
  (st (i + 1)).H = (st i).H ∧ (st (i + 1)).last = (st i).last ∧ (st (i + 1)).pend = (st i).pend ∧ (st (i + 1)).hist = (st i).hist ∧
  (st (i + 1)).seen = (bif looksIn o.op then ⟨i, o, (st i).T, v⟩ :: (st i).seen else (st i).seen)

def MakeR (i : Nat) (o : Oper) (v : AV) (kb : Blk) : Prop :=
  wantedA all N (st i).T o = true ∧ kindOf o.op = .make ∧ evA E.ti (evoR E.ng (st i).T (o.looksAt all)) o.op (i0 + i) = some ⟨v, kb⟩ ∧
  (st (i + 1)).H = (st i).H ∧ (st (i + 1)).last = (st i).last ∧ (st (i + 1)).pend = (i, i0 + i, kb) :: (st i).pend ∧ (st (i + 1)).hist = (st i).hist ∧ (st (i + 1)).seen = (st i).seen

def ActR (i : Nat) (o : Oper) (v : AV) : Prop :=
  wantedA all N (st i).T o = true ∧ kindOf o.op = .act ∧ (∀ e, (st i).last = some e → ancBit A i e = true) ∧
  (∃ m, merge A i (st i).pend (st i).H.m = some (m, (st (i + 1)).pend) ∧ ∃ tp ms u H', evAct E call (evoR E.ng (st i).T (o.looksAt all)) o.op ⟨m, (st i).H.nx, tp, ms⟩ = some (u, H') ∧ (∀ p ∈ H'.ms, p) ∧ (st (i + 1)).H = ⟨H'.m, H'.nx⟩ ∧ Imp u v) ∧
  (∃ ms, seesOn E all A i (st (i + 1)).H.m (st i).seen = some ms ∧ ∀ p ∈ ms, p) ∧
  (st (i + 1)).last = some i ∧ (st (i + 1)).hist = (i, (st i).H.m) :: (st i).hist ∧ (st (i + 1)).seen = (st i).seen

def StepR (i : Nat) (o : Oper) (v : AV) (kb : Blk) : Prop :=
  (knownG all (st i).T o = true ∧ putA N (st i).T o.dst v = some (st (i + 1)).T) ∧ (SkipR all N st i o v ∨ QuietR E all A N st i o v ∨ MakeR E all N i0 st i o v kb ∨ ActR E call all A N st i o v)

theorem stepR_of (i : Nat) (o : Oper) (h : dStep E call all A N i0 o i (st i) = some (st (i + 1))) (hm : ∀ p ∈ (st (i + 1)).ms, p) : ∃ v kb, StepR E call all A N i0 st i o v kb := by
  unfold dStep at h
  have hkn := (bif_some h).1
  replace h := (bif_some h).2
  cases hw : wantedA all N (st i).T o with
  | true =>
    simp only [hw, cond_true] at h
    split at h
    · rename_i hk
      split at h
      · cases h
      · rename_i v m1 hv
        generalize hfo : forceV (guardsAt all o.dst) v (st i).tp = r at h
        obtain ⟨u, tp, m2⟩ := r
        simp only at h
        split at h
        · cases h
        · rename_i m3 hsb
          split at h
          · cases h
          · rename_i T' hT
            simp only [Option.some.injEq] at h
            have hms : ∀ p ∈ m1 ++ m2 ++ m3, p := fun p hp => hm p (by rw [← h]; simp only [List.mem_append] at hp ⊢; exact .inl hp)
            obtain ⟨hm12, hm3⟩ := split2 hms
            obtain ⟨hm1, hm2⟩ := split2 hm12
            refine ⟨u, ⟨.plain [], 0, 0, false, false⟩, ⟨hkn, by rw [← h]; exact hT⟩, .inr (.inl ⟨hw, hk, ⟨v, m1, hv, hm1, forceV_ok hfo hm2⟩, fun hl => ?_, ?_⟩)⟩
            · rw [hl] at hsb; exact ⟨m3, hsb, hm3⟩
            · rw [← h]; exact ⟨rfl, rfl, rfl, rfl, rfl⟩
    · rename_i hk
      split at h
      · cases h
      · rename_i k hv
        split at h
        · cases h
        · rename_i T' hT
          simp only [Option.some.injEq] at h
          refine ⟨k.v, k.blk, ⟨hkn, by rw [← h]; exact hT⟩, .inr (.inr (.inl ⟨hw, hk, hv, ?_⟩))⟩
          rw [← h]; exact ⟨rfl, rfl, rfl, rfl, rfl⟩
    · rename_i hk
      obtain ⟨hl, h⟩ := bif_some h
      split at h
      · cases h
      · rename_i m pend hmm
        split at h
        · cases h
        · rename_i v H' hv
          generalize hfo : forceV (guardsAt all o.dst) v H'.tp = r at h
          obtain ⟨u, tp, m2⟩ := r
          simp only at h
          split at h
          · cases h
          · rename_i m3 hso
            split at h
            · cases h
            · rename_i T' hT
              simp only [Option.some.injEq] at h
              have hms : ∀ p ∈ m2 ++ m3 ++ H'.ms, p := fun p hp => hm p (by rw [← h]; exact hp)
              obtain ⟨hm23, hmH⟩ := split2 hms
              obtain ⟨hm2, hm3⟩ := split2 hm23
              refine ⟨u, ⟨.plain [], 0, 0, false, false⟩, ⟨hkn, by rw [← h]; exact hT⟩, .inr (.inr (.inr ⟨hw, hk, fun e he => ?_, ⟨m, by rw [← h]; exact hmm, _, _, v, H', hv, hmH, by rw [← h], forceV_ok hfo hm2⟩, ⟨m3, by rw [← h]; exact hso, hm3⟩, ?_⟩))⟩
              · rw [he] at hl; exact hl
              · rw [← h]; exact ⟨rfl, rfl, rfl⟩
  | false =>
    simp only [hw, cond_false] at h
    split at h
    · cases h
    · rename_i T' hT
      simp only [Option.some.injEq] at h
      refine ⟨.tup [], ⟨.plain [], 0, 0, false, false⟩, ⟨hkn, by rw [← h]; exact hT⟩, .inl ⟨hw, rfl, ?_⟩⟩
      rw [← h]; exact ⟨rfl, rfl, rfl, rfl, rfl⟩

end

/- the blocks that an act needs -/
theorem merge_ok (A : Tr Nat) (i : Nat) : ∀ (l : List (Nat × Nat × Blk)) (m m' : Tr Blk) (l' : List (Nat × Nat × Blk)), merge A i l m = some (m', l') →
    (∀ j n k j' k', (j, n, k) ∈ l → (j', n, k') ∈ l → j = j' ∧ k = k') →
    (∀ j n k, (j, n, k) ∈ l → ancBit A i j = true → m'.get n = some k) ∧ (∀ b, (∀ j k, (j, b, k) ∈ l → ancBit A i j = false) → m'.get b = m.get b) ∧ (∀ x, x ∈ l' ↔ x ∈ l ∧ ancBit A i x.1 = false) := by
  intro l
  induction l with
  | nil =>
    intro m m' l' h _
    simp only [merge, Option.some.injEq, Prod.mk.injEq] at h
    obtain ⟨rfl, rfl⟩ := h
    exact ⟨by simp, fun _ _ => rfl, by simp⟩
  | cons x l ih =>
    intro m m' l' h hu
    obtain ⟨j, n, k⟩ := x
    have hu' : ∀ j n k j' k', (j, n, k) ∈ l → (j', n, k') ∈ l → j = j' ∧ k = k' := fun j n k j' k' h1 h2 => hu j n k j' k' (by simp [h1]) (by simp [h2])
    simp only [merge] at h
    cases hb : ancBit A i j with
    | true =>
      simp only [hb, cond_true] at h
      split at h
      · cases h
      · rename_i m1 hm1
        obtain ⟨g1, g2, g3⟩ := ih m1 m' l' h hu'
        have hg := get_set_upd hm1
        refine ⟨?_, ?_, ?_⟩
        · intro j2 n2 k2 hmem hb2
          rcases List.mem_cons.1 hmem with heq | hmem
          · cases heq
            by_cases hin : ∃ j3 k3, (j3, n, k3) ∈ l
            · obtain ⟨j3, k3, h3⟩ := hin
              obtain ⟨e1, e2⟩ := hu j n k j3 k3 (by simp) (by simp [h3])
              subst e1 e2
              exact g1 _ _ _ h3 hb
            · rw [g2 n (fun j3 k3 h3 => (hin ⟨j3, k3, h3⟩).elim), hg, upd_same]
          · exact g1 _ _ _ hmem hb2
        · intro b hbn
          rw [g2 b (fun j2 k2 h2 => hbn j2 k2 (by simp [h2])), hg]
          by_cases e : b = n
          · subst e
            have := hbn j k (by simp)
            rw [hb] at this
            cases this
          · rw [upd_other _ _ e]
        · intro x
          rw [g3 x]
          constructor
          · rintro ⟨h1, h2⟩; exact ⟨by simp [h1], h2⟩
          · rintro ⟨h1, h2⟩
            rcases List.mem_cons.1 h1 with rfl | h1
            · rw [hb] at h2; cases h2
            · exact ⟨h1, h2⟩
    | false =>
      simp only [hb, cond_false] at h
      split at h
      · cases h
      · rename_i m1 l1 hm1
        simp only [Option.some.injEq, Prod.mk.injEq] at h
        obtain ⟨rfl, rfl⟩ := h
        obtain ⟨g1, g2, g3⟩ := ih m m1 l1 hm1 hu'
        refine ⟨?_, ?_, ?_⟩
        · intro j2 n2 k2 hmem hb2
          rcases List.mem_cons.1 hmem with heq | hmem
          · cases heq; rw [hb] at hb2; cases hb2
          · exact g1 _ _ _ hmem hb2
        · intro b hbn
          exact g2 b (fun j2 k2 h2 => hbn j2 k2 (by simp [h2]))
        · intro x
          simp only [List.mem_cons, g3 x]
          constructor
          · rintro (rfl | ⟨h1, h2⟩)
            · exact ⟨.inl rfl, hb⟩
            · exact ⟨.inr h1, h2⟩
          · rintro ⟨h1 | h1, h2⟩
            · exact .inl h1
            · exact .inr ⟨h1, h2⟩

theorem mergeAll_ok : ∀ (l : List (Nat × Nat × Blk)) (m m' : Tr Blk), mergeAll l m = some m' → (∀ j n k j' k', (j, n, k) ∈ l → (j', n, k') ∈ l → j = j' ∧ k = k') →
    (∀ j n k, (j, n, k) ∈ l → m'.get n = some k) ∧ (∀ b, (∀ j k, (j, b, k) ∉ l) → m'.get b = m.get b) := by
  intro l
  induction l with
  | nil =>
    intro m m' h _
    simp only [mergeAll, Option.some.injEq] at h
    subst h
    exact ⟨by simp, fun _ _ => rfl⟩
  | cons x l ih =>
    intro m m' h hu
    obtain ⟨j, n, k⟩ := x
    simp only [mergeAll] at h
    split at h
    · cases h
    · rename_i m1 hm1
      obtain ⟨g1, g2⟩ := ih m1 m' h (fun j n k j' k' h1 h2 => hu j n k j' k' (by simp [h1]) (by simp [h2]))
      have hg := get_set_upd hm1
      refine ⟨?_, ?_⟩
      · intro j2 n2 k2 hmem
        rcases List.mem_cons.1 hmem with heq | hmem
        · cases heq
          by_cases hin : ∃ j3 k3, (j3, n, k3) ∈ l
          · obtain ⟨j3, k3, h3⟩ := hin
            obtain ⟨e1, e2⟩ := hu j n k j3 k3 (by simp) (by simp [h3])
            subst e1 e2
            exact g1 _ _ _ h3
          · rw [g2 n (fun j3 k3 h3 => hin ⟨j3, k3, h3⟩), hg, upd_same]
        · exact g1 _ _ _ hmem
      · intro b hb
        rw [g2 b (fun j2 k2 h2 => hb j2 k2 (by simp [h2])), hg, upd_other]
        intro e
        exact hb j k (by simp [e])

theorem seesBack_ok {E : Env} {all : Array Oper} {A : Tr Nat} {i : Nat} {o : Oper} {T : Tr AV} {v : AV} {e : Nat} {m : Tr Blk} {l2 : List (Nat × Tr Blk)} : ∀ (l1 : List (Nat × Tr Blk)) (ms : List Prop), seesBack E all A i o T v (l1 ++ (e, m) :: l2) = some ms → (∀ p ∈ ms, p) →
    (∀ p ∈ l1, ancBit A i p.1 = false) → ancBit A i e = false → SeeP E all o T v m := by
  intro l1
  induction l1 with
  | nil =>
    intro ms h hm _ he
    simp only [List.nil_append, seesBack, he, cond_false] at h
    split at h
    · cases h
    · rename_i m1 h1
      split at h
      · cases h
      · cases h
        exact seesV_ok h1 (split2 hm).1
  | cons p l1 ih =>
    intro ms h hm hl he
    obtain ⟨e1, m1⟩ := p
    have h1 := hl (e1, m1) (by simp)
    simp only [] at h1
    simp only [List.cons_append, seesBack, h1, cond_false] at h
    split at h
    · cases h
    · split at h
      · cases h
      · rename_i m2 h2
        cases h
        exact ih _ h2 (split2 hm).2 (fun p hp => hl p (by simp [hp])) he

theorem seesOn_ok {E : Env} {all : Array Oper} {A : Tr Nat} {e : Nat} {m : Tr Blk} : ∀ (l : List Seen) (ms : List Prop), seesOn E all A e m l = some ms → (∀ p ∈ ms, p) → ∀ s ∈ l, ancBit A e s.i = false → SeeP E all s.o s.T s.v m := by
  intro l
  induction l with
  | nil => intro ms _ _ s hs; simp at hs
  | cons x l ih =>
    intro ms h hm s hs hb
    simp only [seesOn] at h
    split at h
    · cases h
    · rename_i m1 h1
      split at h
      · cases h
      · rename_i m2 h2
        cases h
        rcases List.mem_cons.1 hs with rfl | hs
        · rw [hb] at h1
          exact seesV_ok h1 (split2 hm).1
        · exact ih _ h2 (split2 hm).2 s hs hb

/- the pass over the text -/
structure Pass (E : Env) (call : CallF) (all : Array Oper) (A : Tr Nat) (N i0 : Nat) (st : Nat → DSt) (val : Nat → AV) (mk : Nat → Blk) : Prop where
  static : Static all A
  last0 : (st 0).last = none
  pend0 : (st 0).pend = []
  hist0 : (st 0).hist = []
  step : ∀ (i : Nat) (o : Oper), all[i]? = some o → StepR E call all A N i0 st i o (val i) (mk i)

section
variable {E : Env} {call : CallF} {all : Array Oper} {A : Tr Nat} {N i0 : Nat} {st : Nat → DSt} {val : Nat → AV} {mk : Nat → Blk} (hp : Pass E call all A N i0 st val mk)
include hp

theorem Pass.actR {i : Nat} (h : IsAct all N st i) : ∃ o, all[i]? = some o ∧ ActR E call all A N st i o (val i) := by
  obtain ⟨o, ho, hw, hk⟩ := h
  obtain ⟨_, h | h | h | h⟩ := hp.step i o ho
  · rw [h.1] at hw; cases hw
  · rw [h.2.1] at hk; cases hk
  · rw [h.2.1] at hk; cases hk
  · exact ⟨o, ho, h⟩

theorem Pass.mkR {i : Nat} (h : IsMk all N st i) : ∃ o, all[i]? = some o ∧ MakeR E all N i0 st i o (val i) (mk i) := by
  obtain ⟨o, ho, hw, hk⟩ := h
  obtain ⟨_, h | h | h | h⟩ := hp.step i o ho
  · rw [h.1] at hw; cases hw
  · rw [h.2.1] at hk; cases hk
  · exact ⟨o, ho, h⟩
  · rw [h.2.1] at hk; cases hk

theorem Pass.still {i : Nat} (hi : i < all.size) (h : ¬ IsAct all N st i) : (st (i + 1)).H = (st i).H ∧ (st (i + 1)).last = (st i).last ∧ (st (i + 1)).hist = (st i).hist := by
  have ho : all[i]? = some all[i] := by simp [hi]
  obtain ⟨_, g | g | g | g⟩ := hp.step i _ ho
  · exact ⟨g.2.2.1, g.2.2.2.1, g.2.2.2.2.2.1⟩
  · exact ⟨g.2.2.2.2.1, g.2.2.2.2.2.1, g.2.2.2.2.2.2.2.1⟩
  · exact ⟨g.2.2.2.1, g.2.2.2.2.1, g.2.2.2.2.2.2.1⟩
  · exact (h ⟨_, ho, g.1, g.2.1⟩).elim

theorem Pass.stillTo {c d : Nat} (hd : d ≤ all.size) (hcd : c ≤ d) (h : ∀ e, c ≤ e → e < d → ¬ IsAct all N st e) : (st d).H = (st c).H := by
  induction d with
  | zero => have : c = 0 := by omega
            rw [this]
  | succ d ih =>
    by_cases e : c = d + 1
    · rw [e]
    · rw [(hp.still (by omega) (h d (by omega) (by omega))).1]
      exact ih (by omega) (by omega) (fun e h1 h2 => h e h1 (by omega))

theorem Pass.lastOk (i : Nat) (hi : i ≤ all.size) : match (st i).last with
    | none => ∀ e, e < i → ¬ IsAct all N st e
    | some e0 => e0 < i ∧ IsAct all N st e0 ∧ ∀ e, e0 < e → e < i → ¬ IsAct all N st e := by
  induction i with
  | zero => rw [hp.last0]; intro e he; omega
  | succ i ih =>
    have ih := ih (by omega)
    by_cases ha : IsAct all N st i
    · obtain ⟨o, ho, hr⟩ := hp.actR ha
      rw [hr.2.2.2.2.2.1]
      exact ⟨by omega, ha, fun e h1 h2 => by omega⟩
    · rw [(hp.still (by omega) ha).2.1]
      split at ih
      · rename_i hl
        intro e he
        by_cases e1 : e = i
        · rw [e1]; exact ha
        · exact ih e (by omega)
      · rename_i e0 hl
        refine ⟨by omega, ih.2.1, fun e h1 h2 => ?_⟩
        by_cases e1 : e = i
        · rw [e1]; exact ha
        · exact ih.2.2 e h1 (by omega)

/- acts that have come up: all that stand before one of them have -/
theorem Pass.before {L : Nat → Prop} (hcl : ∀ j, L j → ∀ i, ancBit A j i = true → L i) : ∀ (i : Nat), IsAct all N st i → (∀ j, ancBit A i j = true → L j) → ∀ e, e < i → IsAct all N st e → L e := by
  intro i
  induction i using Nat.strongRecOn with
  | _ i ih =>
    intro ha hanc e he hae
    obtain ⟨o, ho, hr⟩ := hp.actR ha
    have hlt : i < all.size := (Array.getElem?_eq_some_iff.1 ho).1
    have hl := hp.lastOk i (by omega)
    split at hl
    · exact (hl e he hae).elim
    · rename_i e0 hl0
      have hL0 : L e0 := hanc e0 (hr.2.2.1 e0 hl0)
      by_cases e1 : e = e0
      · rw [e1]; exact hL0
      · by_cases e2 : e0 < e
        · exact (hl.2.2 e e2 he hae).elim
        · exact ih e0 hl.1 hl.2.1 (hcl e0 hL0) e (by omega) hae

theorem Pass.histOk (i : Nat) (hi : i ≤ all.size) : ∀ e, e < i → IsAct all N st e → ∃ l1 l2, (st i).hist = l1 ++ (e, (st e).H.m) :: l2 ∧ ∀ p ∈ l1, IsAct all N st p.1 ∧ e < p.1 ∧ p.1 < i := by
  induction i with
  | zero => intro e he; omega
  | succ i ih =>
    intro e he hae
    have ih := ih (by omega)
    by_cases ha : IsAct all N st i
    · obtain ⟨o, ho, hr⟩ := hp.actR ha
      have hh := hr.2.2.2.2.2.2.1
      by_cases e1 : e = i
      · subst e1
        exact ⟨[], (st e).hist, by rw [hh]; rfl, by simp⟩
      · obtain ⟨l1, l2, h1, h2⟩ := ih e (by omega) hae
        refine ⟨(i, (st i).H.m) :: l1, l2, by rw [hh, h1]; rfl, ?_⟩
        intro p hp'
        rcases List.mem_cons.1 hp' with rfl | hp'
        · exact ⟨ha, by simp; omega, by simp⟩
        · obtain ⟨q1, q2, q3⟩ := h2 p hp'
          exact ⟨q1, q2, by omega⟩
    · rw [(hp.still (by omega) ha).2.2]
      have e1 : e ≠ i := by intro e1; rw [e1] at hae; exact ha hae
      obtain ⟨l1, l2, h1, h2⟩ := ih e (by omega) hae
      exact ⟨l1, l2, h1, fun p hp' => by obtain ⟨q1, q2, q3⟩ := h2 p hp'; exact ⟨q1, q2, by omega⟩⟩

theorem Pass.seenOk {i : Nat} {o : Oper} (ho : all[i]? = some o) (hw : wantedA all N (st i).T o = true) (hk : kindOf o.op = .quiet) (hl : looksIn o.op = true) : ∀ d, i < d → d ≤ all.size → (⟨i, o, (st i).T, val i⟩ : Seen) ∈ (st d).seen := by
  intro d
  induction d with
  | zero => intro h; omega
  | succ d ih =>
    intro hd hds
    by_cases e : d = i
    · subst e
      obtain ⟨_, g | g | g | g⟩ := hp.step d o ho
      · rw [g.1] at hw; cases hw
      · rw [g.2.2.2.2.2.2.2.2, hl]; simp
      · rw [g.2.1] at hk; cases hk
      · rw [g.2.1] at hk; cases hk
    · have ih := ih (by omega) (by omega)
      have ho' : all[d]? = some all[d] := by simp [show d < all.size by omega]
      obtain ⟨_, g | g | g | g⟩ := hp.step d _ ho'
      · rw [g.2.2.2.2.2.2]; exact ih
      · rw [g.2.2.2.2.2.2.2.2]
        cases looksIn all[d].op
        · exact ih
        · simp [ih]
      · rw [g.2.2.2.2.2.2.2]; exact ih
      · rw [g.2.2.2.2.2.2.2]; exact ih

/- a quiet operation sees the same in every heap that may stand -/
theorem Pass.sees {i : Nat} {o : Oper} (ho : all[i]? = some o) (hw : wantedA all N (st i).T o = true) (hk : kindOf o.op = .quiet) {c : Nat} (hc : c ≤ all.size)
    (hb : ∀ e, IsAct all N st e → c ≤ e → e < i → ancBit A i e = false) (hf : ∀ e, IsAct all N st e → i < e → e < c → ancBit A e i = false) :
    SeeP E all o (st i).T (val i) (st c).H.m := by
  have hlt : i < all.size := (Array.getElem?_eq_some_iff.1 ho).1
  obtain ⟨_, g | g | g | g⟩ := hp.step i o ho
  · rw [g.1] at hw; cases hw
  · have hq := g.2.2.1
    cases hl : looksIn o.op with
    | false =>
      obtain ⟨u, ms, q1, q2, q3⟩ := hq
      exact ⟨u, ms, by rw [evS_still (st c).H.m (st i).H.m _ _ _ hl]; exact q1, q2, q3⟩
    | true =>
      by_cases hci : c ≤ i
      · by_cases hex : ∃ e, c ≤ e ∧ e < i ∧ IsAct all N st e
        · -- the first act from c on
          have hmin : ∃ e, (c ≤ e ∧ e < i ∧ IsAct all N st e) ∧ ∀ e', c ≤ e' → e' < e → ¬ IsAct all N st e' := by
            obtain ⟨e, he⟩ := hex
            induction e using Nat.strongRecOn with
            | _ e ih =>
              by_cases h2 : ∃ e', c ≤ e' ∧ e' < e ∧ IsAct all N st e'
              · obtain ⟨e', q1, q2, q3⟩ := h2
                exact ih e' q2 ⟨q1, by omega, q3⟩
              · exact ⟨e, he, fun e' q1 q2 q3 => h2 ⟨e', q1, q2, q3⟩⟩
          obtain ⟨e, ⟨he1, he2, he3⟩, hfirst⟩ := hmin
          obtain ⟨l1, l2, h1, h2⟩ := hp.histOk i (by omega) e he2 he3
          obtain ⟨msb, hsb, hmb⟩ := g.2.2.2.1 hl
          rw [h1] at hsb
          have hst := hp.stillTo (c := c) (d := e) (by omega) he1 (fun e' q1 q2 => hfirst e' q1 q2)
          rw [← hst]
          exact seesBack_ok l1 msb hsb hmb (fun p hp' => by
            obtain ⟨q1, q2, q3⟩ := h2 p hp'
            exact hb p.1 q1 (by omega) q3) (hb e he3 he1 he2)
        · have hst := hp.stillTo (c := c) (d := i) (by omega) hci (fun e q1 q2 q3 => hex ⟨e, q1, q2, q3⟩)
          rw [← hst]; exact hq
      · -- forward
        have key : ∀ d, i < d → d ≤ c → SeeP E all o (st i).T (val i) (st d).H.m := by
          intro d
          induction d with
          | zero => intro h; omega
          | succ d ih =>
            intro hd hdc
            by_cases e : d = i
            · subst e; rw [g.2.2.2.2.1]; exact hq
            · by_cases ha : IsAct all N st d
              · obtain ⟨od, hod, hr⟩ := hp.actR ha
                obtain ⟨mso, hs, hmo⟩ := hr.2.2.2.2.1
                have := seesOn_ok _ mso hs hmo _ (hp.seenOk ho hw hk hl d (by omega) (by omega)) (hf d ha (by omega) (by omega))
                exact this
              · rw [(hp.still (by omega) ha).1]
                exact ih (by omega) (by omega)
        exact key c (by omega) (Nat.le_refl _)
  · rw [g.2.1] at hk; cases hk
  · rw [g.2.1] at hk; cases hk

/- no act before c has needed the block of op j -/
def Um (all : Array Oper) (A : Tr Nat) (N : Nat) (st : Nat → DSt) (c j : Nat) : Prop := ∀ e, e < c → IsAct all N st e → ancBit A e j = false

theorem Pass.pendOk (i : Nat) (hi : i ≤ all.size) : ∀ j n k, (j, n, k) ∈ (st i).pend ↔ (IsMk all N st j ∧ j < i ∧ Um all A N st i j ∧ n = i0 + j ∧ k = mk j) := by
  induction i with
  | zero => intro j n k; rw [hp.pend0]; simp
  | succ i ih =>
    have ih := ih (by omega)
    intro j n k
    have hlt : i < all.size := by omega
    have ho : all[i]? = some all[i] := by simp [hlt]
    have umStep : ¬ IsAct all N st i → (Um all A N st (i + 1) j ↔ Um all A N st i j) := by
      intro hna
      constructor
      · intro h e he ha; exact h e (by omega) ha
      · intro h e he ha
        by_cases e1 : e = i
        · rw [e1] at ha; exact (hna ha).elim
        · exact h e (by omega) ha
    have notMk : ¬ IsMk all N st i → ((IsMk all N st j ∧ j < i + 1) ↔ (IsMk all N st j ∧ j < i)) := by
      intro hnm
      constructor
      · rintro ⟨h1, h2⟩
        refine ⟨h1, ?_⟩
        have : j ≠ i := by intro e; rw [e] at h1; exact hnm h1
        omega
      · rintro ⟨h1, h2⟩; exact ⟨h1, by omega⟩
    have uniq : ∀ o', all[i]? = some o' → o' = all[i] := fun o' h' => by rw [ho] at h'; exact (Option.some.inj h').symm
    obtain ⟨_, g | g | g | g⟩ := hp.step i _ ho
    · have hna : ¬ IsAct all N st i := by rintro ⟨o', h1, h2, h3⟩; rw [uniq o' h1] at h2; rw [g.1] at h2; cases h2
      have hnm : ¬ IsMk all N st i := by rintro ⟨o', h1, h2, h3⟩; rw [uniq o' h1] at h2; rw [g.1] at h2; cases h2
      rw [g.2.2.2.2.1, ih j n k, umStep hna]
      constructor
      · rintro ⟨h1, h2, h3, h4, h5⟩; exact ⟨h1, by omega, h3, h4, h5⟩
      · rintro ⟨h1, h2, h3, h4, h5⟩; exact ⟨h1, ((notMk hnm).1 ⟨h1, h2⟩).2, h3, h4, h5⟩
    · have hna : ¬ IsAct all N st i := by rintro ⟨o', h1, h2, h3⟩; rw [uniq o' h1] at h3; rw [g.2.1] at h3; cases h3
      have hnm : ¬ IsMk all N st i := by rintro ⟨o', h1, h2, h3⟩; rw [uniq o' h1] at h3; rw [g.2.1] at h3; cases h3
      rw [g.2.2.2.2.2.2.1, ih j n k, umStep hna]
      constructor
      · rintro ⟨h1, h2, h3, h4, h5⟩; exact ⟨h1, by omega, h3, h4, h5⟩
      · rintro ⟨h1, h2, h3, h4, h5⟩; exact ⟨h1, ((notMk hnm).1 ⟨h1, h2⟩).2, h3, h4, h5⟩
    · have hna : ¬ IsAct all N st i := by rintro ⟨o', h1, h2, h3⟩; rw [uniq o' h1] at h3; rw [g.2.1] at h3; cases h3
      rw [g.2.2.2.2.2.1, List.mem_cons, ih j n k, umStep hna]
      constructor
      · rintro (h | ⟨h1, h2, h3, h4, h5⟩)
        · simp only [Prod.mk.injEq] at h
          obtain ⟨rfl, rfl, rfl⟩ := h
          refine ⟨⟨_, ho, g.1, g.2.1⟩, by omega, ?_, rfl, rfl⟩
          intro e he ha
          cases hb : ancBit A e j with
          | false => rfl
          | true =>
            exfalso
            -- an ancestor stands before
            have hbk : ∀ a b, ancBit A a b = true → b < a := by
              intro a
              induction a using Nat.strongRecOn with
              | _ a iha =>
                intro b hab
                obtain ⟨o', ho', ed, hed, hbd, hor⟩ := hp.static.anc b a hab
                have := hp.static.back a o' ho' ed hed hbd
                rcases hor with rfl | hor
                · exact this
                · have := iha ed.on this b hor; omega
            have := hbk e j hb
            omega
        · exact ⟨h1, by omega, h3, h4, h5⟩
      · rintro ⟨h1, h2, h3, h4, h5⟩
        by_cases e : j = i
        · subst e; left; rw [h4, h5]
        · exact .inr ⟨h1, by omega, h3, h4, h5⟩
    · have ha : IsAct all N st i := ⟨_, ho, g.1, g.2.1⟩
      have hnm : ¬ IsMk all N st i := by rintro ⟨o', h1, h2, h3⟩; rw [uniq o' h1] at h3; rw [g.2.1] at h3; cases h3
      obtain ⟨m, hm, _⟩ := g.2.2.2.1
      have hu : ∀ j n k j' k', (j, n, k) ∈ (st i).pend → (j', n, k') ∈ (st i).pend → j = j' ∧ k = k' := by
        intro j n k j' k' h1 h2
        obtain ⟨_, _, _, q1, q2⟩ := (ih j n k).1 h1
        obtain ⟨_, _, _, r1, r2⟩ := (ih j' n k').1 h2
        have : j = j' := by omega
        subst this
        exact ⟨rfl, by rw [q2, r2]⟩
      have hm3 := (merge_ok A i _ _ _ _ hm hu).2.2 (j, n, k)
      rw [hm3, ih j n k]
      constructor
      · rintro ⟨⟨h1, h2, h3, h4, h5⟩, h6⟩
        refine ⟨h1, by omega, ?_, h4, h5⟩
        intro e he hae
        by_cases e1 : e = i
        · rw [e1]; exact h6
        · exact h3 e (by omega) hae
      · rintro ⟨h1, h2, h3, h4, h5⟩
        have : j ≠ i := by intro e; rw [e] at h1; exact hnm h1
        exact ⟨⟨h1, by omega, fun e he hae => h3 e (by omega) hae, h4, h5⟩, h3 i (by omega) ha⟩

theorem Pass.ancLt : ∀ a b, ancBit A a b = true → b < a := by
  intro a
  induction a using Nat.strongRecOn with
  | _ a iha =>
    intro b hab
    obtain ⟨o', ho', ed, hed, hbd, hor⟩ := hp.static.anc b a hab
    have := hp.static.back a o' ho' ed hed hbd
    rcases hor with rfl | hor
    · exact this
    · have := iha ed.on this b hor; omega

theorem Pass.pendUniq (i : Nat) (hi : i ≤ all.size) : ∀ j n k j' k', (j, n, k) ∈ (st i).pend → (j', n, k') ∈ (st i).pend → j = j' ∧ k = k' := by
  intro j n k j' k' h1 h2
  obtain ⟨_, _, _, q1, q2⟩ := (hp.pendOk i hi j n k).1 h1
  obtain ⟨_, _, _, r1, r2⟩ := (hp.pendOk i hi j' n k').1 h2
  have : j = j' := by omega
  subst this
  exact ⟨rfl, by rw [q2, r2]⟩

/- who writes to a place -/
theorem Pass.writer {w1 w2 t : Nat} {o1 o2 : Oper} (h1 : all[w1]? = some o1) (h2 : all[w2]? = some o2) (d1 : o1.dst = some t) (d2 : o2.dst = some t) : w1 = w2 := by
  have key : ∀ (a b : Nat) (oa ob : Oper), a < b → all[a]? = some oa → all[b]? = some ob → oa.dst = some t → ob.dst = some t → False := by
    intro a b oa ob hab ha hb da db
    rcases hp.static.pair a b oa ob hab ha hb with h | ⟨_, h⟩
    · exact (Oper.apart_spec h).2.1 t da db
    · exact h t da db
  rcases Nat.lt_trichotomy w1 w2 with h | h | h
  · exact (key _ _ _ _ h h1 h2 d1 d2).elim
  · exact h
  · exact (key _ _ _ _ h h2 h1 d2 d1).elim

theorem Pass.tlook (i : Nat) (hi : i ≤ all.size) (t : Nat) : (∀ w o, all[w]? = some o → o.dst = some t → w < i → (st i).T.get t = some (val w)) ∧ ((∀ w o, all[w]? = some o → o.dst = some t → ¬ w < i) → (st i).T.get t = (st 0).T.get t) := by
  induction i with
  | zero => exact ⟨fun w o _ _ h => by omega, fun _ => rfl⟩
  | succ i ih =>
    obtain ⟨ih1, ih2⟩ := ih (by omega)
    have hlt : i < all.size := by omega
    have ho : all[i]? = some all[i] := by simp [hlt]
    have hput := (hp.step i _ ho).1.2
    have hget : (st (i + 1)).T.get t = if all[i].dst = some t then some (val i) else (st i).T.get t := by
      cases hd : all[i].dst with
      | none =>
        rw [hd] at hput
        simp only [putA, Option.some.injEq] at hput
        rw [← hput]; simp
      | some d =>
        rw [hd] at hput
        simp only [putA] at hput
        cases hb : Nat.blt d N with
        | false => simp [hb] at hput
        | true =>
          simp only [hb, cond_true] at hput
          rw [Tr.get_set hput t]
          by_cases e : t = d
          · simp [e]
          · have : d ≠ t := fun h => e h.symm
            simp [e, this]
    refine ⟨fun w o hw hd hlt' => ?_, fun hno => ?_⟩
    · rw [hget]
      by_cases e : w = i
      · subst e
        rw [ho] at hw
        cases hw
        rw [if_pos hd]
      · have hne : all[i].dst ≠ some t := by
          intro h
          exact e (hp.writer hw ho hd h)
        rw [if_neg hne]
        exact ih1 w o hw hd (by omega)
    · rw [hget, if_neg (fun h => hno i _ ho h (by omega))]
      exact ih2 (fun w o hw hd hlt' => hno w o hw hd (by omega))
end

end Go.QfSy
