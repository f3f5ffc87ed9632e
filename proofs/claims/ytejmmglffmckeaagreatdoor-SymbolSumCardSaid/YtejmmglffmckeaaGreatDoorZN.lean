/- Regions that draw their order: one pass over the text serves every order. -/
import Derived.Test.YtejmmglffmckeaaGreatDoorZM
set_option linter.unusedSimpArgs false
set_option linter.unusedVariables false
namespace Go.QfSy

theorem evA_own {ti : Tr TypeInfo} {ρ : Operand → Option AV} {op : Op} {i : Nat} {m : Made} (h : evA ti ρ op i = some m) : m.blk.own = true := by
  unfold evA at h
  split at h
  · split at h
    · cases h
    · cases h; rfl
  · split at h
    · cases h
    · cases h; rfl
  · split at h
    · cases h
    · unfold eBuildSlice at h
      split at h
      · split at h
        · obtain ⟨_, h⟩ := bif_some h
          split at h
          · cases h
          · cases h; rfl
        · cases h
      · cases h
  · split at h
    · cases h
    · split at h
      · cases h
      · unfold eMake at h
        split at h
        · split at h
          · split at h
            · obtain ⟨_, h⟩ := bif_some h
              cases h; rfl
            · cases h
          · cases h
        · cases h
  · cases h

open Classical in
noncomputable def Uf (all : Array Oper) (A : Tr Nat) (N i0 : Nat) (st : Nat → DSt) (mk : Nat → Blk) (L : Nat → Prop) (c : Nat) : Hf := fun b =>
  if i0 ≤ b ∧ IsMk all N st (b - i0) ∧ L (b - i0) ∧ Um all A N st c (b - i0) then some (mk (b - i0)) else (st c).H.m.get b

open Classical in
noncomputable def Pf (all : Array Oper) (A : Tr Nat) (N i0 : Nat) (st : Nat → DSt) (mk : Nat → Blk) (L : Nat → Prop) (c i : Nat) : Hf := fun b =>
  if i0 ≤ b ∧ IsMk all N st (b - i0) ∧ L (b - i0) ∧ Um all A N st c (b - i0) ∧ ancBit A i (b - i0) = false then some (mk (b - i0)) else none

structure Inv (E : Env) (all : Array Oper) (A : Tr Nat) (N i0 : Nat) (st : Nat → DSt) (val : Nat → AV) (mk : Nat → Blk) (γ0 : Gm) (f0 : Hf) (w0 : World) (L : Nat → Prop) (c : Nat) (γ : Gm) (a : Act) (w : World) : Prop where
  closed : ∀ j, L j → ∀ i, ancBit A j i = true → L i
  bound : ∀ j, L j → j < all.size
  cle : c ≤ all.size
  stage : ∀ e, IsAct all N st e → (L e ↔ e < c)
  defers : a.defers = []
  size : a.tmps.size = N
  glob : Glob E.ng γ
  wr : ∀ t w o, all[w]? = some o → o.dst = some t → L w → VRel γ (val w) (a.tmps.getD t undef)
  un : ∀ t, (∀ w o, all[w]? = some o → o.dst = some t → ¬ L w) → ∀ v, (st 0).T.get t = some v → VRel γ v (a.tmps.getD t undef)
  stp : Stp γ0 f0 w0 γ (Uf all A N i0 st mk L c) (st c).H.nx w
  keep : ∀ b, b < i0 → γ b = γ0 b
  fresh : ∀ j, j < all.size → ¬ L j → γ (i0 + j) = none
  empty : ∀ j, j < all.size → Um all A N st c j → (st c).H.m.get (i0 + j) = none
  nx : i0 + all.size ≤ (st c).H.nx

section
variable {P : Program} {E : Env} (hE : EnvOk P E) {call : CallF} (hc : CallOk P E.ng call)
variable {all : Array Oper} {A : Tr Nat} {N i0 : Nat} {st : Nat → DSt} {val : Nat → AV} {mk : Nat → Blk} (hp : Pass E call all A N i0 st val mk)
variable {γ0 : Gm} {f0 : Hf} {w0 : World} {L : Nat → Prop} {c : Nat} {γ : Gm} {a : Act} {w : World}

theorem Inv.agree (hp : Pass E call all A N i0 st val mk) (hv : Inv E all A N i0 st val mk γ0 f0 w0 L c γ a w) {i : Nat} {o : Oper} (ho : all[i]? = some o) (hL : ¬ L i) (hanc : ∀ j, ancBit A i j = true → L j) {t : Nat} (ht : t ∈ o.looksAt all) {v : AV} (hTv : (st i).T.get t = some v) : VRel γ v (a.tmps.getD t undef) := by
  have hlt : i < all.size := (Array.getElem?_eq_some_iff.1 ho).1
  obtain ⟨h1, h2⟩ := hp.tlook i (by omega) t
  by_cases hex : ∃ (w : Nat) (o' : Oper), all[w]? = some o' ∧ o'.dst = some t
  · obtain ⟨wi, o', hw, hd⟩ := hex
    rcases Nat.lt_trichotomy wi i with h | h | h
    · rw [h1 wi o' hw hd h] at hTv
      cases hTv
      refine hv.wr t wi o' hw hd ?_
      rcases hp.static.pair wi i o' o h hw ho with hap | ⟨hb, _⟩
      · exact ((Oper.apart_spec hap).1 t hd ht).elim
      · exact hanc wi hb
    · subst h
      rw [h2 (fun w2 o2 hw2 hd2 => by have := hp.writer hw2 hw hd2 hd; omega)] at hTv
      exact hv.un t (fun w2 o2 hw2 hd2 => by have := hp.writer hw2 hw hd2 hd; rw [this]; exact hL) v hTv
    · rw [h2 (fun w2 o2 hw2 hd2 => by have := hp.writer hw2 hw hd2 hd; omega)] at hTv
      refine hv.un t (fun w2 o2 hw2 hd2 hL2 => ?_) v hTv
      have := hp.writer hw2 hw hd2 hd
      subst this
      rcases hp.static.pair i w2 o o' h ho hw with hap | ⟨hb, _⟩
      · exact (Oper.apart_spec hap).2.2 t hd ht
      · exact hL (hv.closed w2 hL2 i hb)
  · rw [h2 (fun w2 o2 hw2 hd2 => (hex ⟨w2, o2, hw2, hd2⟩).elim)] at hTv
    exact hv.un t (fun w2 o2 hw2 hd2 => (hex ⟨w2, o2, hw2, hd2⟩).elim) v hTv

theorem Inv.rho (hp : Pass E call all A N i0 st val mk) (hv : Inv E all A N i0 st val mk γ0 f0 w0 L c γ a w) {i : Nat} {o : Oper} (ho : all[i]? = some o) (hL : ¬ L i) (hanc : ∀ j, ancBit A i j = true → L j) (x : Operand) (v : AV)
    (hq : evoR E.ng (st i).T (o.looksAt all) x = some v) : VRel γ v (a.eval x) := by
  cases x with
  | tmp t =>
    simp only [evoR] at hq
    obtain ⟨hb, hq⟩ := bif_some hq
    have ht : t ∈ o.looksAt all := by
      obtain ⟨u, hu, he⟩ := List.any_eq_true.1 hb
      rw [← beq_eq he]; exact hu
    exact hv.agree hp ho hL hanc ht hq
  | const V => exact ofVal_ok γ hq
  | global g =>
    simp only [evoR, evo] at hq
    obtain ⟨hb, hq⟩ := bif_some hq
    cases hq
    exact .ptr 0 (hv.glob g (Nat.le_of_ble_eq_true hb))
  | func f => simp only [evoR, evo, Option.some.injEq] at hq; subst hq; exact .fn f .nil

theorem Inv.want (hp : Pass E call all A N i0 st val mk) (hv : Inv E all A N i0 st val mk γ0 f0 w0 L c γ a w) {i : Nat} {o : Oper} (ho : all[i]? = some o) (hL : ¬ L i) (hanc : ∀ j, ancBit A i j = true → L j) : Region.wanted o (yielded all a.tmps) = wantedA all N (st i).T o := by
  unfold Region.wanted wantedA
  cases hg : o.guard with
  | none => rfl
  | some p =>
    obtain ⟨j, want⟩ := p
    simp only
    have hy : yielded all a.tmps j = yieldA all N (st i).T j := by
      unfold yielded yieldA
      cases hoj : all[j]? with
      | none => rfl
      | some oj =>
        simp only [Option.bind_some]
        cases hd : oj.dst with
        | none => rfl
        | some d =>
          simp only [Option.bind_some]
          have hmem : d ∈ o.looksAt all := by
            unfold Oper.looksAt
            rw [hg]
            simp [hoj, hd]
          obtain ⟨x, hx⟩ := Option.isSome_iff_exists.1 (known_at (hp.step i o ho).1.1 hg oj d hoj hd)
          have ht := hv.agree hp ho hL hanc hmem hx
          have hsz := hv.size
          cases hb : Nat.blt d N with
          | true =>
            have hlt' : d < a.tmps.size := by rw [hsz]; exact Nat.le_of_ble_eq_true hb
            rw [Array.getElem?_eq_getElem hlt']
            have e : a.tmps.getD d undef = a.tmps[d] := by simp [Array.getD, hlt']
            rw [e] at ht
            simp only [cond_true]
            rw [hx]
            exact yield_known ht
          | false =>
            have hge : a.tmps.size ≤ d := by
              rw [hsz]
              rcases Nat.lt_or_ge d N with h' | h'
              · have : Nat.blt d N = true := Nat.ble_eq_true_of_le h'
                rw [this] at hb; cases hb
              · exact h'
            rw [Array.getElem?_eq_none hge]
            rfl
    rw [hy]
    cases yieldA all N (st i).T j with
    | none => rfl
    | some b => cases want <;> cases b <;> rfl

/- the frame behind one more operation -/
theorem Inv.put (hp : Pass E call all A N i0 st val mk) (hv : Inv E all A N i0 st val mk γ0 f0 w0 L c γ a w) {i : Nat} {o : Oper} (ho : all[i]? = some o) (hL : ¬ L i) {γ' : Gm} (hle : γ.le γ') {V : Value} (hV : VRel γ' (val i) V) :
    (a.put o.dst V).defers = [] ∧ (a.put o.dst V).tmps.size = N ∧ Glob E.ng γ' ∧
    (∀ t w o', all[w]? = some o' → o'.dst = some t → (L w ∨ w = i) → VRel γ' (val w) ((a.put o.dst V).tmps.getD t undef)) ∧
    (∀ t, (∀ w o', all[w]? = some o' → o'.dst = some t → ¬ (L w ∨ w = i)) → ∀ v, (st 0).T.get t = some v → VRel γ' v ((a.put o.dst V).tmps.getD t undef)) := by
  have hput := (hp.step i o ho).1.2
  have hget : ∀ t, (a.put o.dst V).tmps.getD t undef = if o.dst = some t then V else a.tmps.getD t undef := by
    intro t
    cases hd : o.dst with
    | none => simp [Act.put]
    | some d =>
      rw [hd] at hput
      simp only [putA] at hput
      obtain ⟨hb, _⟩ := bif_some hput
      have hlt : d < a.tmps.size := by rw [hv.size]; exact Nat.le_of_ble_eq_true hb
      by_cases e : d = t
      · subst e
        simp [Act.put, Array.getD, hlt]
      · have := Act.eval_put (a := a) (dst := some d) (v := V) (x := .tmp t) (by intro d' hd'; cases hd'; intro h; cases h; exact e rfl)
        have h2 : ¬ (some d = some t) := by intro h; cases h; exact e rfl
        rw [if_neg h2]
        exact this
  have hdef : (a.put o.dst V).defers = a.defers := by cases o.dst <;> rfl
  have hsz : (a.put o.dst V).tmps.size = a.tmps.size := by cases o.dst <;> simp [Act.put]
  refine ⟨by rw [hdef]; exact hv.defers, by rw [hsz]; exact hv.size, fun g hg => hle.nm _ _ (hv.glob g hg), ?_, ?_⟩
  · intro t wi o' hw hd hLw
    rw [hget t]
    by_cases e : wi = i
    · subst e
      rw [ho] at hw
      cases hw
      rw [if_pos hd]
      exact hV
    · have hne : ¬ (o.dst = some t) := fun h => e (hp.writer hw ho hd h)
      rw [if_neg hne]
      exact (hv.wr t wi o' hw hd (hLw.resolve_right e)).mono hle
  · intro t hno v hTv
    rw [hget t]
    have hne : ¬ (o.dst = some t) := fun h => hno i o ho h (.inr rfl)
    rw [if_neg hne]
    exact (hv.un t (fun w2 o2 h1 h2 h3 => hno w2 o2 h1 h2 (.inl h3)) v hTv).mono hle

theorem Inv.sub (hv : Inv E all A N i0 st val mk γ0 f0 w0 L c γ a w) : ∀ b k, (st c).H.m.get b = some k → Uf all A N i0 st mk L c b = some k := by
  intro b k hb
  unfold Uf
  split
  · rename_i h
    obtain ⟨h1, h2, h3, h4⟩ := h
    have := hv.empty (b - i0) (hv.bound _ h3) h4
    rw [show i0 + (b - i0) = b by omega, hb] at this
    cases this
  · exact hb

/- an operation that neither makes a block nor acts -/
theorem Inv.quietStep (hp : Pass E call all A N i0 st val mk) (hv : Inv E all A N i0 st val mk γ0 f0 w0 L c γ a w) {i : Nat} {o : Oper} (ho : all[i]? = some o) (hL : ¬ L i) (hanc : ∀ j, ancBit A i j = true → L j) (hna : ¬ IsAct all N st i) (hnm : ¬ IsMk all N st i) {V : Value} (hV : VRel γ (val i) V) :
    Inv E all A N i0 st val mk γ0 f0 w0 (fun j => L j ∨ j = i) c γ (a.put o.dst V) w := by
  obtain ⟨p1, p2, p3, p4, p5⟩ := hv.put hp ho hL (Gm.le_refl γ) hV
  have hlt : i < all.size := (Array.getElem?_eq_some_iff.1 ho).1
  refine ⟨?_, ?_, hv.cle, ?_, p1, p2, p3, p4, p5, ?_, hv.keep, ?_, hv.empty, hv.nx⟩
  · rintro j (hj | rfl) i' hb
    · exact .inl (hv.closed j hj i' hb)
    · exact .inl (hanc i' hb)
  · rintro j (hj | rfl)
    · exact hv.bound j hj
    · exact hlt
  · intro e he
    have : e ≠ i := by intro h; rw [h] at he; exact hna he
    rw [← hv.stage e he]
    exact ⟨fun h => h.resolve_right this, .inl⟩
  · have : Uf all A N i0 st mk (fun j => L j ∨ j = i) c = Uf all A N i0 st mk L c := by
      funext b
      unfold Uf
      have hiff : (i0 ≤ b ∧ IsMk all N st (b - i0) ∧ (L (b - i0) ∨ b - i0 = i) ∧ Um all A N st c (b - i0)) ↔ (i0 ≤ b ∧ IsMk all N st (b - i0) ∧ L (b - i0) ∧ Um all A N st c (b - i0)) := by
        constructor
        · rintro ⟨h1, h2, h3, h4⟩
          refine ⟨h1, h2, h3.resolve_right (fun e => ?_), h4⟩
          rw [e] at h2; exact hnm h2
        · rintro ⟨h1, h2, h3, h4⟩; exact ⟨h1, h2, .inl h3, h4⟩
      by_cases hcnd : i0 ≤ b ∧ IsMk all N st (b - i0) ∧ L (b - i0) ∧ Um all A N st c (b - i0)
      · rw [if_pos (hiff.2 hcnd), if_pos hcnd]
      · rw [if_neg (fun h => hcnd (hiff.1 h)), if_neg hcnd]
    rw [this]
    exact hv.stp
  · intro j hj hnL
    exact hv.fresh j hj (fun h => hnL (.inl h))

end

section
variable {P : Program} {E : Env} (hE : EnvOk P E) {call : CallF} (hc : CallOk P E.ng call)
variable {all : Array Oper} {A : Tr Nat} {N i0 : Nat} {st : Nat → DSt} {val : Nat → AV} {mk : Nat → Blk} (hp : Pass E call all A N i0 st val mk)
variable {γ0 : Gm} {f0 : Hf} {w0 : World} {L : Nat → Prop} {c : Nat} {γ : Gm} {a : Act} {w : World}
include hE hc hp

/- one operation that may come up now -/
theorem Inv.step (hv : Inv E all A N i0 st val mk γ0 f0 w0 L c γ a w) {i : Nat} {o : Oper} (ho : all[i]? = some o) (hL : ¬ L i) (hanc : ∀ j, ancBit A i j = true → L j) {K : Act → World → Prop} {Q : Exit → Act → World → Prop}
    (hK : ∀ c' γ' a' w', Inv E all A N i0 st val mk γ0 f0 w0 (fun j => L j ∨ j = i) c' γ' a' w' → K a' w') : wpOp P all Q i K a w := by
  have hlt : i < all.size := (Array.getElem?_eq_some_iff.1 ho).1
  have uniq : ∀ o', all[i]? = some o' → o' = o := fun o' h' => by rw [ho] at h'; exact (Option.some.inj h').symm
  unfold wpOp
  simp only [ho]
  rw [hv.want hp ho hL hanc]
  have hrel : HRel γ (st c).H.m.get (st c).H.nx w := hv.stp.rel.sub hv.sub
  obtain ⟨hput, g | g | g | g⟩ := hp.step i o ho
  · -- skipped
    have hna : ¬ IsAct all N st i := by rintro ⟨o', h1, h2, h3⟩; rw [uniq o' h1, g.1] at h2; cases h2
    have hnm : ¬ IsMk all N st i := by rintro ⟨o', h1, h2, h3⟩; rw [uniq o' h1, g.1] at h2; cases h2
    rw [g.1]
    simp only [Bool.false_eq_true, if_false]
    exact hK c γ _ w (hv.quietStep hp ho hL hanc hna hnm (by rw [g.2.1]; exact .tup .nil))
  · -- quiet
    have hna : ¬ IsAct all N st i := by rintro ⟨o', h1, h2, h3⟩; rw [uniq o' h1, g.2.1] at h3; cases h3
    have hnm : ¬ IsMk all N st i := by rintro ⟨o', h1, h2, h3⟩; rw [uniq o' h1, g.2.1] at h3; cases h3
    rw [g.1]
    simp only [if_true]
    have hsee := hp.sees ho g.1 g.2.1 hv.cle
      (fun e he h1 h2 => by
        cases hb : ancBit A i e with
        | false => rfl
        | true => have := (hv.stage e he).1 (hanc e hb); omega)
      (fun e he h1 h2 => by
        cases hb : ancBit A e i with
        | false => rfl
        | true => exact (hL (hv.closed e ((hv.stage e he).2 h2) i hb)).elim)
    obtain ⟨u, ms, s1, s2, s3⟩ := hsee
    obtain ⟨V, h1, h2⟩ := evS_ok (P := P) hE.ti hE.lz hrel (hv.rho hp ho hL hanc) s1 s2
    left
    unfold Oper.wp
    rw [h1, Oper.upon_value]
    exact hK c γ _ w (hv.quietStep hp ho hL hanc hna hnm (s3 γ V h2))
  · -- a new block
    have hmk : IsMk all N st i := ⟨o, ho, g.1, g.2.1⟩
    have hna : ¬ IsAct all N st i := by rintro ⟨o', h1, h2, h3⟩; rw [uniq o' h1, g.2.1] at h3; cases h3
    rw [g.1]
    simp only [if_true]
    have hfr := hv.fresh i hlt hL
    have hnx := hv.nx
    obtain ⟨V, w', h1, h2, h3⟩ := evA_ok (P := P) hE.ti hv.stp.rel (hv.rho hp ho hL hanc) (i := i0 + i) (nx' := (st c).H.nx) hfr (by omega) (Nat.le_refl _) g.2.2.1
    left
    unfold Oper.wp
    rw [h1, Oper.upon_value]
    obtain ⟨p1, p2, p3, p4, p5⟩ := hv.put hp ho hL h2.le h3
    refine hK c _ _ w' ⟨?_, ?_, hv.cle, ?_, p1, p2, p3, p4, p5, ?_, ?_, ?_, hv.empty, hv.nx⟩
    · rintro j (hj | rfl) i' hb
      · exact .inl (hv.closed j hj i' hb)
      · exact .inl (hanc i' hb)
    · rintro j (hj | rfl)
      · exact hv.bound j hj
      · exact hlt
    · intro e he
      have : e ≠ i := by intro h; rw [h] at he; exact hna he
      rw [← hv.stage e he]
      exact ⟨fun h => h.resolve_right this, .inl⟩
    · have hum : Um all A N st c i := by
        intro e he hae
        cases hb : ancBit A e i with
        | false => rfl
        | true => exact (hL (hv.closed e ((hv.stage e hae).2 he) i hb)).elim
      have : Uf all A N i0 st mk (fun j => L j ∨ j = i) c = upd (Uf all A N i0 st mk L c) (i0 + i) (some (mk i)) := by
        funext b
        by_cases e : b = i0 + i
        · subst e
          rw [upd_same]
          unfold Uf
          rw [if_pos ⟨by omega, by rw [Nat.add_sub_cancel_left]; exact hmk, by rw [Nat.add_sub_cancel_left]; exact .inr rfl, by rw [Nat.add_sub_cancel_left]; exact hum⟩, Nat.add_sub_cancel_left]
        · rw [upd_other _ _ e]
          unfold Uf
          have hiff : (i0 ≤ b ∧ IsMk all N st (b - i0) ∧ (L (b - i0) ∨ b - i0 = i) ∧ Um all A N st c (b - i0)) ↔ (i0 ≤ b ∧ IsMk all N st (b - i0) ∧ L (b - i0) ∧ Um all A N st c (b - i0)) := by
            constructor
            · rintro ⟨h1, h2, h3, h4⟩
              exact ⟨h1, h2, h3.resolve_right (fun e2 => e (by omega)), h4⟩
            · rintro ⟨h1, h2, h3, h4⟩; exact ⟨h1, h2, .inl h3, h4⟩
          by_cases hcnd : i0 ≤ b ∧ IsMk all N st (b - i0) ∧ L (b - i0) ∧ Um all A N st c (b - i0)
          · rw [if_pos (hiff.2 hcnd), if_pos hcnd]
          · rw [if_neg (fun h => hcnd (hiff.1 h)), if_neg hcnd]
      rw [this]
      exact hv.stp.trans h2
    · intro b hb
      rw [Gm.put_other _ _ (by omega)]
      exact hv.keep b hb
    · intro j hj hnL
      rw [Gm.put_other _ _ (by intro h; exact hnL (.inr (by omega)))]
      exact hv.fresh j hj (fun h => hnL (.inl h))
  · -- an act
    have hact : IsAct all N st i := ⟨o, ho, g.1, g.2.1⟩
    have hnm : ¬ IsMk all N st i := by rintro ⟨o', h1, h2, h3⟩; rw [uniq o' h1, g.2.1] at h3; cases h3
    rw [g.1]
    simp only [if_true]
    obtain ⟨m, hm, tp, ms, u, H', hev, hmH, hH', himp⟩ := g.2.2.2.1
    have hbef := hp.before (L := L) hv.closed i hact hanc
    have hci : c ≤ i := by
      rcases Nat.lt_or_ge i c with h | h
      · exact (hL ((hv.stage i hact).2 h)).elim
      · exact h
    have hno : ∀ e, c ≤ e → e < i → ¬ IsAct all N st e := by
      intro e h1 h2 h3
      have := (hv.stage e h3).1 (hbef e h2 h3)
      omega
    have hH : (st i).H = (st c).H := hp.stillTo (by omega) hci hno
    have hUm : ∀ j, Um all A N st i j ↔ Um all A N st c j := by
      intro j
      constructor
      · intro h e he hae; exact h e (by omega) hae
      · intro h e he hae
        rcases Nat.lt_or_ge e c with h' | h'
        · exact h e h' hae
        · exact (hno e h' he hae).elim
    have hpend := hp.pendOk i (by omega)
    obtain ⟨m1, m2, m3⟩ := merge_ok A i _ _ _ _ hm (hp.pendUniq i (by omega))
    have hbk : ∀ a b, ancBit A a b = true → b < a := hp.ancLt
    -- what stays behind
    generalize hpdef : Pf all A N i0 st mk L c i = p
    have hpPos : ∀ b, (i0 ≤ b ∧ IsMk all N st (b - i0) ∧ L (b - i0) ∧ Um all A N st c (b - i0) ∧ ancBit A i (b - i0) = false) → p b = some (mk (b - i0)) := by
      intro b h
      rw [← hpdef]; unfold Pf; rw [if_pos h]
    have hpNeg : ∀ b, ¬ (i0 ≤ b ∧ IsMk all N st (b - i0) ∧ L (b - i0) ∧ Um all A N st c (b - i0) ∧ ancBit A i (b - i0) = false) → p b = none := by
      intro b h
      rw [← hpdef]; unfold Pf; rw [if_neg h]
    have hnoP : ∀ j, ancBit A i j = false → m.get (i0 + j) = (st c).H.m.get (i0 + j) := by
      intro j hb
      rw [m2 (i0 + j) (fun j' k' h' => by
        obtain ⟨_, _, _, q, _⟩ := (hpend j' (i0 + j) k').1 h'
        have : j' = j := by omega
        rw [this]; exact hb), hH]
    have hU : Uf all A N i0 st mk L c = orH p m.get := by
      funext b
      by_cases hcond : i0 ≤ b ∧ IsMk all N st (b - i0) ∧ L (b - i0) ∧ Um all A N st c (b - i0)
      · obtain ⟨q1, q2, q3, q4⟩ := hcond
        have e1 : Uf all A N i0 st mk L c b = some (mk (b - i0)) := by unfold Uf; rw [if_pos ⟨q1, q2, q3, q4⟩]
        rw [e1]
        cases hb : ancBit A i (b - i0) with
        | true =>
          have hpn : p b = none := hpNeg b (by rintro ⟨_, _, _, _, h⟩; rw [hb] at h; cases h)
          rw [orH_none hpn]
          have := m1 (b - i0) (i0 + (b - i0)) (mk (b - i0)) ((hpend _ _ _).2 ⟨q2, hbk _ _ hb, (hUm _).2 q4, rfl, rfl⟩) hb
          rw [show i0 + (b - i0) = b by omega] at this
          exact this.symm
        | false =>
          rw [orH_some (hpPos b ⟨q1, q2, q3, q4, hb⟩)]
      · have e1 : Uf all A N i0 st mk L c b = (st c).H.m.get b := by unfold Uf; rw [if_neg hcond]
        have hpn : p b = none := hpNeg b (by rintro ⟨h1, h2, h3, h4, _⟩; exact hcond ⟨h1, h2, h3, h4⟩)
        rw [e1, orH_none hpn]
        rw [m2 b (fun j' k' h' => by
          obtain ⟨r1, r2, r3, r4, r5⟩ := (hpend j' b k').1 h'
          cases hb : ancBit A i j' with
          | false => rfl
          | true =>
            exfalso
            apply hcond
            have : b - i0 = j' := by omega
            rw [this]
            exact ⟨by omega, r1, hanc j' hb, (hUm j').1 r3⟩), hH]
    have hpOk : ∀ b k, p b = some k → k.own = true ∧ m.get b = none := by
      intro b k hb
      by_cases h : i0 ≤ b ∧ IsMk all N st (b - i0) ∧ L (b - i0) ∧ Um all A N st c (b - i0) ∧ ancBit A i (b - i0) = false
      · rw [hpPos b h] at hb
        cases hb
        obtain ⟨q1, q2, q3, q4, q5⟩ := h
        obtain ⟨o', ho', hr'⟩ := hp.mkR q2
        refine ⟨evA_own hr'.2.2.1, ?_⟩
        have := hnoP (b - i0) q5
        rw [show i0 + (b - i0) = b by omega] at this
        rw [this]
        have := hv.empty (b - i0) (hv.bound _ q3) q4
        rw [show i0 + (b - i0) = b by omega] at this
        exact this
      · rw [hpNeg b h] at hb; cases hb
    have hrelU : HRel γ (orH p m.get) (st c).H.nx w := by rw [← hU]; exact hv.stp.rel
    have hrelm : HRel γ m.get (st i).H.nx w := by
      rw [hH]
      refine hrelU.sub (fun b k hb => ?_)
      cases hpb : p b with
      | none => rw [orH_none hpb]; exact hb
      | some k' => rw [(hpOk b k' hpb).2] at hb; cases hb
    left
    refine evAct_ok hE hc (H := ⟨m, (st i).H.nx, tp, ms⟩) hrelm (hv.rho hp ho hL hanc) hv.glob hev hmH ?_
    intro V w' γ' hV hrun
    have hV := himp γ' V hV
    have hHm : H'.m = (st (i + 1)).H.m := by rw [hH']
    have hHn : H'.nx = (st (i + 1)).H.nx := by rw [hH']
    have hfr := HRel.frame hrelU hpOk hrun.stp
    rw [← hU, hHm, hHn] at hfr
    obtain ⟨p1, p2, p3, p4, p5⟩ := hv.put hp ho hL hrun.stp.le hV
    have hnx := hv.nx
    have hkeep : ∀ b, b < (st c).H.nx → γ' b = γ b := by
      intro b hb
      have := hrun.keep b (by rw [hH]; exact hb)
      exact this
    refine hK (i + 1) γ' _ w' ⟨?_, ?_, by omega, ?_, p1, p2, p3, p4, p5, ?_, ?_, ?_, ?_, ?_⟩
    · rintro j (hj | rfl) i' hb
      · exact .inl (hv.closed j hj i' hb)
      · exact .inl (hanc i' hb)
    · rintro j (hj | rfl)
      · exact hv.bound j hj
      · exact hlt
    · intro e he
      constructor
      · rintro (h | rfl)
        · rcases Nat.lt_or_ge e (i + 1) with h' | h'
          · exact h'
          · exfalso
            have := hp.before (L := L) hv.closed e he (hv.closed e h) i (by omega) hact
            exact hL this
        · omega
      · intro h
        by_cases e1 : e = i
        · exact .inr e1
        · exact .inl (hbef e (by omega) he)
    · have : Uf all A N i0 st mk (fun j => L j ∨ j = i) (i + 1) = orH p (st (i + 1)).H.m.get := by
        funext b
        have hiff : (i0 ≤ b ∧ IsMk all N st (b - i0) ∧ (L (b - i0) ∨ b - i0 = i) ∧ Um all A N st (i + 1) (b - i0)) ↔ (i0 ≤ b ∧ IsMk all N st (b - i0) ∧ L (b - i0) ∧ Um all A N st c (b - i0) ∧ ancBit A i (b - i0) = false) := by
          constructor
          · rintro ⟨h1, h2, h3, h4⟩
            refine ⟨h1, h2, h3.resolve_right (fun e => by rw [e] at h2; exact hnm h2), (hUm _).1 (fun e he hae => h4 e (by omega) hae), h4 i (by omega) hact⟩
          · rintro ⟨h1, h2, h3, h4, h5⟩
            refine ⟨h1, h2, .inl h3, fun e he hae => ?_⟩
            by_cases e1 : e = i
            · rw [e1]; exact h5
            · exact (hUm _).2 h4 e (by omega) hae
        by_cases hcond : i0 ≤ b ∧ IsMk all N st (b - i0) ∧ L (b - i0) ∧ Um all A N st c (b - i0) ∧ ancBit A i (b - i0) = false
        · rw [orH_some (hpPos b hcond)]
          unfold Uf
          rw [if_pos (hiff.2 hcond)]
        · rw [orH_none (hpNeg b hcond)]
          unfold Uf
          rw [if_neg (fun h => hcond (hiff.1 h))]
      rw [this]
      exact hv.stp.trans hfr
    · intro b hb
      rw [hkeep b (by omega)]
      exact hv.keep b hb
    · intro j hj hnL
      rw [hkeep (i0 + j) (by omega)]
      exact hv.fresh j hj (fun h => hnL (.inl h))
    · intro j hj hum
      cases hg : (st (i + 1)).H.m.get (i0 + j) with
      | none => rfl
      | some k =>
        exfalso
        rw [← hHm] at hg
        obtain ⟨B, x, cs, ex, r1, _⟩ := hrun.stp.rel.blk _ _ hg
        have hk' := hkeep (i0 + j) (by omega)
        rw [r1] at hk'
        rcases hrun.stp.dom _ _ hg with ⟨k', hk2⟩ | hn
        · have hk3 : m.get (i0 + j) = some k' := hk2
          rw [hnoP j (hum i (by omega) hact), hv.empty j hj (fun e he hae => hum e (by omega) hae)] at hk3
          cases hk3
        · rw [hn] at hk'; cases hk'
    · have h1 := hrun.nx
      have h2 : (st c).H.nx ≤ (st (i + 1)).H.nx := by rw [← hH, ← hHn]; exact h1
      omega

end
end Go.QfSy
