/- Regions that draw their order: what the look at the edges gives. -/
import Derived.Test.YtejmmglffmckeaaGreatDoorZK
set_option linter.unusedSimpArgs false
set_option linter.unusedVariables false
namespace Go.QfSy

def maskOf (o : Oper) (A : Tr Nat) : Nat := o.after.toList.foldl (fun s e => bif Region.binds .any e then s ||| (2 ^ e.on) ||| ((A.get e.on).getD 0) else s) 0

theorem mask_bit (A : Tr Nat) (i : Nat) : ∀ (l : List Edge) (s : Nat), (l.foldl (fun s e => bif Region.binds .any e then s ||| (2 ^ e.on) ||| ((A.get e.on).getD 0) else s) s).testBit i = true →
    s.testBit i = true ∨ ∃ e ∈ l, Region.binds .any e = true ∧ (e.on = i ∨ ((A.get e.on).getD 0).testBit i = true) := by
  intro l
  induction l with
  | nil => intro s h; exact .inl h
  | cons e l ih =>
    intro s h
    simp only [List.foldl_cons] at h
    rcases ih _ h with h | ⟨e', he', hb⟩
    · cases hbd : Region.binds .any e with
      | false => simp only [hbd, cond_false] at h; exact .inl h
      | true =>
        simp only [hbd, cond_true, Nat.testBit_or, Bool.or_eq_true, Nat.testBit_two_pow, decide_eq_true_eq] at h
        rcases h with (h | h) | h
        · exact .inl h
        · exact .inr ⟨e, by simp, hbd, .inl h⟩
        · exact .inr ⟨e, by simp, hbd, .inr h⟩
    · exact .inr ⟨e', by simp [he'], hb⟩

theorem ancGo_old : ∀ (l : List Oper) (i : Nat) (A : Tr Nat) (k : Nat), k < i → i + l.length < 1000000 → (ancGo l i A).get k = A.get k := by
  intro l
  induction l with
  | nil => intro i A k hk _; rfl
  | cons o l ih =>
    intro i A k hk hl
    simp only [List.length_cons] at hl
    simp only [ancGo]
    rw [ih (i + 1) _ k (by omega) (by omega), Tr.get_setF 40 A i k _ (by omega), if_neg (by omega)]

theorem ancGo_at : ∀ (l : List Oper) (i : Nat) (A : Tr Nat) (k : Nat) (o : Oper), l[k]? = some o → i + l.length < 1000000 →
    ∃ A', (ancGo l i A).get (i + k) = some (maskOf o A') ∧ ∀ m, m < i + k → A'.get m = (ancGo l i A).get m := by
  intro l
  induction l with
  | nil => intro i A k o h; simp at h
  | cons o' l ih =>
    intro i A k o h hl
    simp only [List.length_cons] at hl
    cases k with
    | zero =>
      simp only [List.getElem?_cons_zero, Option.some.injEq] at h
      subst h
      refine ⟨A, ?_, fun m hm => ?_⟩
      · simp only [ancGo, Nat.add_zero]
        rw [ancGo_old l (i + 1) _ i (by omega) (by omega), Tr.get_setF 40 A i i _ (by omega), if_pos rfl]
        rfl
      · simp only [ancGo]
        rw [ancGo_old l (i + 1) _ m (by omega) (by omega), Tr.get_setF 40 A i m _ (by omega), if_neg (by omega)]
    | succ k =>
      simp only [List.getElem?_cons_succ] at h
      obtain ⟨A', h1, h2⟩ := ih (i + 1) (Tr.setF 40 A i (some (maskOf o' A))) k o h (by omega)
      refine ⟨A', ?_, fun m hm => ?_⟩
      · rw [show i + (k + 1) = i + 1 + k by omega]; exact h1
      · exact h2 m (by omega)

structure Static (all : Array Oper) (A : Tr Nat) : Prop where
  small : all.size < 1000
  back : ∀ (i : Nat) (o : Oper), all[i]? = some o → ∀ e ∈ o.after, Region.binds .any e = true → e.on < i
  nosel : ∀ (i : Nat) (o : Oper) cs b, all[i]? = some o → o.op ≠ .select cs b
  pair : ∀ (i j : Nat) (oi oj : Oper), i < j → all[i]? = some oi → all[j]? = some oj → oi.apart all oj = true ∨ (ancBit A j i = true ∧ ∀ d, oi.dst = some d → oj.dst ≠ some d)
  anc : ∀ (i j : Nat), ancBit A j i = true → ∃ o, all[j]? = some o ∧ ∃ e ∈ o.after, Region.binds .any e = true ∧ (e.on = i ∨ ancBit A e.on i = true)

theorem edgesGo_ok : ∀ (l : List Oper) (i : Nat), edgesGo l i = true → ∀ (k : Nat) (o : Oper), l[k]? = some o → (∀ e ∈ o.after, Region.binds .any e = true → e.on < i + k) ∧ noSelect o.op = true := by
  intro l
  induction l with
  | nil => intro i _ k o h; simp at h
  | cons o' l ih =>
    intro i h k o hk
    simp only [edgesGo, Bool.and_eq_true] at h
    obtain ⟨⟨h1, h2⟩, h3⟩ := h
    cases k with
    | zero =>
      simp only [List.getElem?_cons_zero, Option.some.injEq] at hk
      subst hk
      refine ⟨fun e he hb => ?_, h2⟩
      have := List.all_eq_true.1 h1 e (by simpa using he)
      simp only [hb, Bool.not_true, Bool.false_or] at this
      exact Nat.le_of_ble_eq_true this
    | succ k =>
      simp only [List.getElem?_cons_succ] at hk
      obtain ⟨g1, g2⟩ := ih (i + 1) h3 k o hk
      exact ⟨fun e he hb => by have := g1 e he hb; omega, g2⟩

theorem pairsGo_ok (all : Array Oper) (A : Tr Nat) (oj : Oper) (j : Nat) : ∀ (l : List Oper) (i : Nat), pairsGo all A oj j l i = true → ∀ (k : Nat) (o : Oper), l[k]? = some o → i + k < j → pairOk all A o (i + k) oj j = true := by
  intro l
  induction l with
  | nil => intro i _ k o h; simp at h
  | cons o' l ih =>
    intro i h k o hk hlt
    simp only [pairsGo] at h
    have hb : Nat.blt i j = true := Nat.ble_eq_true_of_le (by omega)
    simp only [hb, cond_true, Bool.and_eq_true] at h
    cases k with
    | zero =>
      simp only [List.getElem?_cons_zero, Option.some.injEq] at hk
      subst hk
      exact h.1
    | succ k =>
      simp only [List.getElem?_cons_succ] at hk
      have := ih (i + 1) h.2 k o hk (by omega)
      rw [show i + (k + 1) = i + 1 + k by omega]; exact this

theorem orderGo_ok (all : Array Oper) (ops : List Oper) (A : Tr Nat) : ∀ (l : List Oper) (j : Nat), orderGo all ops A l j = true → ∀ (k : Nat) (o : Oper), l[k]? = some o → pairsGo all A o (j + k) ops 0 = true := by
  intro l
  induction l with
  | nil => intro j _ k o h; simp at h
  | cons o' l ih =>
    intro j h k o hk
    simp only [orderGo, Bool.and_eq_true] at h
    cases k with
    | zero =>
      simp only [List.getElem?_cons_zero, Option.some.injEq] at hk
      subst hk
      exact h.1
    | succ k =>
      simp only [List.getElem?_cons_succ] at hk
      have := ih (j + 1) h.2 k o hk
      rw [show j + (k + 1) = j + 1 + k by omega]; exact this

theorem static_of {all : Array Oper} (h : orderOk all = true) : Static all (ancs all.toList) := by
  unfold orderOk at h
  simp only [Bool.and_eq_true] at h
  obtain ⟨⟨h1, h2⟩, h3⟩ := h
  have hsm : all.size < 1000 := Nat.le_of_ble_eq_true h1
  have hE := edgesGo_ok all.toList 0 h2
  have hback : ∀ (i : Nat) (o : Oper), all[i]? = some o → ∀ e ∈ o.after, Region.binds .any e = true → e.on < i := by
    intro i o ho e he hb
    have := (hE i o (by simpa using ho)).1 e he hb
    omega
  refine ⟨hsm, hback, ?_, ?_, ?_⟩
  · intro i o cs b ho hs
    have := (hE i o (by simpa using ho)).2
    rw [hs] at this
    cases this
  · intro i j oi oj hij hi hj
    have h4 := orderGo_ok all all.toList _ all.toList 0 h3 j oj (by simpa using hj)
    have h5 := pairsGo_ok all _ oj (0 + j) all.toList 0 h4 i oi (by simpa using hi) (by omega)
    simp only [Nat.zero_add] at h5
    unfold pairOk at h5
    simp only [Bool.or_eq_true, Bool.and_eq_true] at h5
    rcases h5 with h5 | ⟨h5, h6⟩
    · exact .inl h5
    · refine .inr ⟨h5, fun d hd he => ?_⟩
      rw [hd, he] at h6
      simp at h6
  · intro i j hj
    unfold ancBit at hj
    split at hj
    · cases hj
    · rename_i m hm
      have hlen : all.toList.length < 1000 := by simpa using hsm
      have hlt : j < all.size := by
        rcases Nat.lt_or_ge j all.size with h' | h'
        · exact h'
        · exfalso
          have : ∀ (l : List Oper) (i : Nat) (A : Tr Nat) (k : Nat), i + l.length ≤ k → i + l.length < 1000000 → (ancGo l i A).get k = A.get k := by
            intro l
            induction l with
            | nil => intro i A k _ _; rfl
            | cons o l ih =>
              intro i A k hk hl
              simp only [List.length_cons] at hk hl
              simp only [ancGo]
              rw [ih (i + 1) _ k (by omega) (by omega), Tr.get_setF 40 A i k _ (by omega), if_neg (by omega)]
          have h0 := this all.toList 0 .nil j (by simpa using h') (by omega)
          unfold ancs at hm
          rw [h0] at hm
          cases hm
      obtain ⟨A', g1, g2⟩ := ancGo_at all.toList 0 .nil j all[j] (by simp [hlt]) (by omega)
      rw [Nat.zero_add] at g1 g2
      unfold ancs at hm
      rw [g1] at hm
      cases hm
      rcases mask_bit A' i _ 0 hj with h0 | ⟨e, he, hb, hor⟩
      · simp at h0
      · refine ⟨all[j], by simp [hlt], e, by simpa using he, hb, ?_⟩
        have hlt' := hback j all[j] (by simp [hlt]) e (by simpa using he) hb
        rcases hor with rfl | hor
        · exact .inl rfl
        · right
          rw [g2 e.on hlt'] at hor
          unfold ancBit ancs
          cases hx : (ancGo all.toList 0 .nil).get e.on with
          | none => rw [hx] at hor; simp at hor
          | some m' => rw [hx] at hor; simpa using hor

/- the states that the text passes -/
theorem states_of {E : Env} {call : CallF} {all : Array Oper} {A : Tr Nat} {N i0 : Nat} : ∀ (l : List Oper) (i : Nat) (s s' : DSt), evDrawGo E call all A N i0 l i s = some s' →
    ∃ st : Nat → DSt, st 0 = s ∧ st l.length = s' ∧ ∀ (k : Nat) (o : Oper), l[k]? = some o → dStep E call all A N i0 o (i + k) (st k) = some (st (k + 1)) := by
  intro l
  induction l with
  | nil =>
    intro i s s' h
    simp only [evDrawGo, Option.some.injEq] at h
    subst h
    exact ⟨fun _ => s, rfl, rfl, by intro k o h; simp at h⟩
  | cons o l ih =>
    intro i s s' h
    simp only [evDrawGo] at h
    split at h
    · cases h
    · rename_i s1 h1
      obtain ⟨st, g0, g1, g2⟩ := ih (i + 1) s1 s' h
      refine ⟨fun k => match k with | 0 => s | k + 1 => st k, rfl, g1, ?_⟩
      intro k o' hk
      cases k with
      | zero =>
        simp only [List.getElem?_cons_zero, Option.some.injEq] at hk
        subst hk
        simp only [Nat.add_zero]
        rw [h1, g0]
      | succ k =>
        simp only [List.getElem?_cons_succ] at hk
        have := g2 k o' hk
        rw [show i + (k + 1) = i + 1 + k by omega]
        exact this

/- equality -/
mutual
theorem beqV_eq : ∀ {x y : AV}, beqV x y = true → x = y := by
  intro x y h
  cases x <;> cases y <;> simp only [beqV, Bool.false_eq_true, Bool.and_eq_true, decide_eq_true_eq, beq_iff_eq] at h
  all_goals first
    | rfl
    | (rw [h]; done)
    | (obtain ⟨h1, h2⟩ := h; rw [h1, h2]; done)
    | (obtain ⟨h1, h2⟩ := h; rw [beq_eq h1, beq_eq h2]; done)
    | (obtain ⟨⟨⟨h1, h2⟩, h3⟩, h4⟩ := h; rw [beq_eq h1, beq_eq h2, beq_eq h3, beq_eq h4]; done)
    | (obtain ⟨h1, h2⟩ := h; rw [beq_eq h1, beqVs_eq h2]; done)
    | (obtain ⟨h1, h2⟩ := h; rw [beq_eq h1, beqV_eq h2]; done)
    | (rw [beqVs_eq h]; done)
theorem beqVs_eq : ∀ {xs ys : List AV}, beqVs xs ys = true → xs = ys := by
  intro xs ys h
  cases xs with
  | nil => cases ys with
    | nil => rfl
    | cons y ys => simp [beqVs] at h
  | cons x xs => cases ys with
    | nil => simp [beqVs] at h
    | cons y ys =>
      simp only [beqVs, Bool.and_eq_true] at h
      rw [beqV_eq h.1, beqVs_eq h.2]
end


mutual
theorem sameS_ok : ∀ {x y : AV} {ms : List Prop}, sameS x y = some ms → (∀ p ∈ ms, p) → Imp x y := by
  intro x y ms h hm
  unfold sameS at h
  split at h
  · obtain ⟨hk, h'⟩ := bif_some h
    have hk := of_decide_eq_true hk
    clear h; subst hk; cases h'
    have := all_one hm; subst this; exact Imp.refl _
  · obtain ⟨hk, h'⟩ := bif_some h
    have hk := of_decide_eq_true hk
    clear h; subst hk; cases h'
    have := all_one hm; subst this; intro γ V hV; cases hV; exact .vint _ _
  · obtain ⟨hk, h'⟩ := bif_some h
    have hk := of_decide_eq_true hk
    clear h; subst hk; cases h'
    have := all_one hm; subst this; intro γ V hV; cases hV; exact .int _ _
  · cases h; have := all_one hm; subst this; exact Imp.refl _
  · cases h; have := all_one hm; subst this; intro γ V hV; cases hV; exact .bool _
  · cases h; have := all_one hm; subst this; intro γ V hV; cases hV; exact .vbool _
  · cases h; have := all_one hm; subst this; exact Imp.refl _
  · cases h; have := all_one hm; subst this; intro γ V hV; cases hV; exact .vstr _
  · obtain ⟨hk, h'⟩ := bif_some h
    have hk := beq_eq hk
    clear h; subst hk; cases h'
    obtain ⟨rfl, rfl⟩ := all_one hm; exact Imp.refl _
  · obtain ⟨hk, h'⟩ := bif_some h
    have hk := beq_eq hk
    clear h; subst hk; cases h'
    have := all_one hm; subst this; exact Imp.refl _
  · obtain ⟨hk, h'⟩ := bif_some h
    have hk := beq_eq hk
    clear h; subst hk; cases h'
    have := all_one hm; subst this; exact Imp.refl _
  · obtain ⟨hk, h'⟩ := bif_some h
    clear h
    simp only [Bool.and_eq_true] at hk
    obtain ⟨⟨h1, h2⟩, h3⟩ := hk
    have h1 := beq_eq h1
    have h2 := beq_eq h2
    have h3 := beq_eq h3
    subst h1 h2 h3
    cases h'
    have := all_one hm; subst this; exact Imp.refl _
  · intro γ V hV
    cases hV with
    | agg hv => exact .agg (sameSs_ok h hm γ _ hv)
  · intro γ V hV
    cases hV with
    | tup hv => exact .tup (sameSs_ok h hm γ _ hv)
  · obtain ⟨hk, h'⟩ := bif_some h
    have hk := beq_eq hk
    clear h; subst hk
    intro γ V hV
    cases hV with
    | fn _ hv => exact .fn _ (sameSs_ok h' hm γ _ hv)
  · obtain ⟨hk, h'⟩ := bif_some h
    rw [beqV_eq hk]
    exact Imp.refl _
theorem sameSs_ok : ∀ {xs ys : List AV} {ms : List Prop}, sameSs xs ys = some ms → (∀ p ∈ ms, p) → ∀ γ Vs, VsRel γ xs Vs → VsRel γ ys Vs := by
  intro xs ys ms h hm γ Vs hV
  unfold sameSs at h
  split at h
  · exact hV
  · split at h
    · cases h
    · rename_i m1 h1
      split at h
      · cases h
      · rename_i m2 h2
        cases h
        obtain ⟨hm1, hm2⟩ := split2 hm
        cases hV with
        | cons hv ht => exact .cons (sameS_ok h1 hm1 γ _ hv) (sameSs_ok h2 hm2 γ _ ht)
  · cases h
end

/- what does not look into memory is the same in every heap -/
theorem evS_still {ti : Tr TypeInfo} {lz : Nat → Nat → Nat → Nat → Bool} (h h' : Tr Blk) (ρ : Operand → Option AV) (op : Op) (ty : Nat) (hl : looksIn op = false) : evS ti lz h ρ op ty = evS ti lz h' ρ op ty := by
  have h1 : evO1 ti h ρ op ty = evO1 ti h' ρ op ty := by
    unfold evO1
    split <;> first | rfl | (simp [looksIn] at hl; done)
  have h2 : evQ ti lz h ρ op ty = evQ ti lz h' ρ op ty := by
    unfold evQ
    split <;> first | rfl | (simp [looksIn] at hl; done)
  unfold evS
  rw [h1, h2]

end Go.QfSy
