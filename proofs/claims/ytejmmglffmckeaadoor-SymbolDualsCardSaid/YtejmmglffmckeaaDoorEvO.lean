/- A run of the abstract machine is a run of the model: drawn regions, code, calls. -/
import Derived.Test.YtejmmglffmckeaaDoorEvN
import Derived.Below
set_option linter.unusedSimpArgs false
set_option linter.unusedVariables false
namespace Go.QfEv

def unlisted (n : Nat) (listed : Array Bool) : Nat := ((List.range n).filter fun i => !listed.getD i false).length

theorem unlisted_set {n i : Nat} {listed : Array Bool} (hi : i < n) (hs : listed.size = n) (h : listed.getD i false = false) : unlisted n (listed.setIfInBounds i true) + 1 = unlisted n listed := by
  unfold unlisted
  have key : ∀ (l : List Nat), l.Nodup → (i ∈ l → ((l.filter fun j => !(listed.setIfInBounds i true).getD j false).length + 1 = (l.filter fun j => !listed.getD j false).length)) ∧ (i ∉ l → (l.filter fun j => !(listed.setIfInBounds i true).getD j false).length = (l.filter fun j => !listed.getD j false).length) := by
    intro l
    induction l with
    | nil => intro _; exact ⟨by simp, by simp⟩
    | cons j l ih =>
      intro hnd
      obtain ⟨hj, hnd'⟩ := List.nodup_cons.1 hnd
      obtain ⟨ih1, ih2⟩ := ih hnd'
      have hset : (listed.setIfInBounds i true).getD i false = true := by simp [Array.getD, hs, hi]
      refine ⟨fun hm => ?_, fun hm => ?_⟩
      · by_cases e : j = i
        · subst e
          have := ih2 hj
          simp only [List.filter_cons, hset, Bool.not_true, Bool.false_eq_true, if_false, h, Bool.not_false, if_true, List.length_cons]
          omega
        · have hne := getD_set_ne (listed := listed) false (fun h => e h.symm : i ≠ j)
          have hm' : i ∈ l := by
            rcases List.mem_cons.1 hm with rfl | hm
            · exact (e rfl).elim
            · exact hm
          have := ih1 hm'
          simp only [List.filter_cons, hne]
          split
          · simp only [List.length_cons]; omega
          · exact this
      · have e : j ≠ i := by intro e; exact hm (by simp [e])
        have hne := getD_set_ne (listed := listed) false (fun h => e h.symm : i ≠ j)
        have := ih2 (fun h => hm (by simp [h]))
        simp only [List.filter_cons, hne]
        split
        · simp only [List.length_cons]; omega
        · exact this
  exact (key (List.range n) List.nodup_range).1 (by simp [hi])

theorem unlisted_zero {n : Nat} {listed : Array Bool} (h : unlisted n listed = 0) : ∀ i, i < n → listed.getD i false = true := by
  intro i hi
  unfold unlisted at h
  have h' := List.eq_nil_of_length_eq_zero h
  rw [List.filter_eq_nil_iff] at h'
  have := h' i (by simp [hi])
  simpa using this

section
variable {P : Program} {E : Env} (hE : EnvOk P E) {call : CallF} (hc : CallOk P E.ng call)
include hE hc

theorem Inv.any {all : Array Oper} {A : Tr Nat} {N i0 : Nat} {st : Nat → DSt} {val : Nat → AV} {mk : Nat → Blk} (hp : Pass E call all A N i0 st val mk) {γ0 : Gm} {f0 : Hf} {w0 : World} {Q : Exit → Act → World → Prop}
    (hQ : ∀ L c γ a w, Inv E all A N i0 st val mk γ0 f0 w0 L c γ a w → (∀ i, i < all.size → L i) → Q .normal a w) :
    ∀ (fuel : Nat) (listed : Array Bool) (c : Nat) (γ : Gm) (a : Act) (w : World), listed.size = all.size → unlisted all.size listed ≤ fuel → Inv E all A N i0 st val mk γ0 f0 w0 (fun i => listed.getD i false = true) c γ a w → wpAny P .any all Q fuel listed a w := by
  intro fuel
  have done : ∀ (listed : Array Bool) (c : Nat) (γ : Gm) (a : Act) (w : World), listed.size = all.size → Inv E all A N i0 st val mk γ0 f0 w0 (fun i => listed.getD i false = true) c γ a w → Region.ready .any all listed = [] → Q .normal a w := by
    intro listed c γ a w hs hv hr
    refine hQ _ c γ a w hv ?_
    intro i
    induction i using Nat.strongRecOn with
    | _ i ih =>
      intro hi
      cases hb : listed.getD i false with
      | true => rfl
      | false =>
        exfalso
        have : i ∈ Region.ready .any all listed := by
          rw [mem_ready]
          refine ⟨?_, all[i], by simp [hi], fun e he hbd => ?_⟩
          · have hlt : i < listed.size := by omega
            simp [Array.getD, hlt] at hb ⊢
            exact hb
          · have hlt := hp.static.back i all[i] (by simp [hi]) e he hbd
            exact ih e.on hlt (by omega)
        rw [hr] at this
        cases this
  induction fuel with
  | zero =>
    intro listed c γ a w hs hu hv
    have hall := unlisted_zero (show unlisted all.size listed = 0 by omega)
    have hr : Region.ready .any all listed = [] := by
      cases hrd : Region.ready .any all listed with
      | nil => rfl
      | cons i l =>
        exfalso
        have hm : i ∈ Region.ready .any all listed := by rw [hrd]; simp
        obtain ⟨h1, o, ho, _⟩ := mem_ready.1 hm
        have hlt : i < all.size := (Array.getElem?_eq_some_iff.1 ho).1
        have h2 := hall i hlt
        have hlt' : i < listed.size := by omega
        simp [Array.getD, hlt'] at h1 h2
        rw [h1] at h2
        cases h2
    exact ⟨hr, done listed c γ a w hs hv hr⟩
  | succ fuel ih =>
    intro listed c γ a w hs hu hv
    refine ⟨done listed c γ a w hs hv, fun i hi => ?_⟩
    obtain ⟨h1, o, ho, hed⟩ := mem_ready.1 hi
    have hlt : i < all.size := (Array.getElem?_eq_some_iff.1 ho).1
    have hlt' : i < listed.size := by omega
    have h1' : listed.getD i false = false := by
      simp [Array.getD, hlt'] at h1 ⊢
      exact h1
    have hanc : ∀ j, ancBit A i j = true → listed.getD j false = true := by
      intro j hb
      obtain ⟨o', ho', e, he, hbd, hor⟩ := hp.static.anc j i hb
      rw [ho] at ho'
      cases ho'
      have hL := hed e he hbd
      rcases hor with rfl | hor
      · exact hL
      · exact hv.closed e.on hL j hor
    refine hv.step hE hc hp ho (by simp [h1']) hanc ?_
    intro c' γ' a' w' hv'
    refine ih (listed.setIfInBounds i true) c' γ' a' w' (by simp [hs]) ?_ ?_
    · have := unlisted_set hlt hs h1'
      omega
    · have hfun : (fun j => listed.getD j false = true ∨ j = i) = (fun j => (listed.setIfInBounds i true).getD j false = true) := by
        funext j
        apply propext
        by_cases e : j = i
        · subst e
          simp [Array.getD, hlt']
        · rw [getD_set_ne (listed := listed) false (fun h => e h.symm : i ≠ j)]
          simp [e]
      rw [← hfun]
      exact hv'

theorem evDraw_ok {id : Nat} {all : Array Oper} {N : Nat} {T T' : Tr AV} {H H' : Hs} (hq : evDraw E call all N T H = some (T', H')) {γ : Gm} {a : Act} {w : World} (hf : FRel γ E.ng T N a) (hr : HRel γ H.m.get H.nx w) {Q : Exit → Act → World → Prop}
    (hQ : ∀ a' w' γ', FRel γ' E.ng T' N a' → RunR γ H w γ' H' w' → Q .normal a' w') : (Code.region id all true).wp P Q a w := by
  unfold evDraw at hq
  obtain ⟨hord, hq⟩ := bif_some hq
  have hS := static_of hord
  split at hq
  · cases hq
  · rename_i s hgo
    split at hq
    · cases hq
    · rename_i mF hmF
      cases hq
      obtain ⟨st, h0, hn, hstep⟩ := states_of _ _ _ _ hgo
      rw [Array.length_toList] at hn
      have hex : ∀ i : Nat, ∃ p : AV × Blk, ∀ o, all[i]? = some o → StepR E call all (ancs all.toList) N H.nx st i o p.1 p.2 := by
        intro i
        cases ho : all[i]? with
        | none => exact ⟨(.nilp, ⟨[], 0, 0, false, false⟩), fun o h => by cases h⟩
        | some o =>
          have := hstep i o (by simpa using ho)
          rw [Nat.zero_add] at this
          obtain ⟨v, kb, hs⟩ := stepR_of E call all (ancs all.toList) N H.nx st i o this
          exact ⟨(v, kb), fun o' h => by cases h; exact hs⟩
      obtain ⟨vk, hvk⟩ := Classical.axiomOfChoice hex
      have hp : Pass E call all (ancs all.toList) N H.nx st (fun i => (vk i).1) (fun i => (vk i).2) :=
        ⟨hS, by rw [h0], by rw [h0], by rw [h0], fun i o ho => hvk i o ho⟩
      refine wp_region_any hE.mixed ?_
      have hr1 : HRel γ H.m.get H.nx { w with drawn := w.drawn + 1 } := hr.heap rfl
      have hnone : ∀ b, H.nx ≤ b → H.m.get b = none := by
        intro b hb
        cases hg : H.m.get b with
        | none => rfl
        | some k =>
          obtain ⟨B, x, cs, ex, g1, _⟩ := hr.blk b k hg
          rw [hr.fresh b hb] at g1
          cases g1
      have hL0 : ∀ i, ¬ ((Array.replicate all.size false).getD i false = true) := by
        intro i
        by_cases hi : i < all.size
        · simp [Array.getD, hi]
        · simp [Array.getD, hi]
      have hinv : Inv E all (ancs all.toList) N H.nx st (fun i => (vk i).1) (fun i => (vk i).2) γ H.m.get { w with drawn := w.drawn + 1 } (fun i => (Array.replicate all.size false).getD i false = true) 0 γ a { w with drawn := w.drawn + 1 } := by
        have hH0 : (st 0).H = ⟨H.m, H.nx + all.size⟩ := by rw [h0]
        have hT0 : (st 0).T = T := by rw [h0]
        refine ⟨fun j hj => (hL0 j hj).elim, fun j hj => (hL0 j hj).elim, Nat.zero_le _, fun e _ => ⟨fun h => (hL0 e h).elim, fun h => by omega⟩, hf.defers, hf.size, hf.glob, fun t wi o h1 h2 h3 => (hL0 wi h3).elim, fun t _ => by rw [hT0]; exact hf.tmp t, ?_, fun _ _ => rfl, fun j hj _ => hr.fresh _ (by omega), fun j hj _ => by rw [hH0]; exact hnone _ (by omega), by rw [hH0]; exact Nat.le_refl _⟩
        have hU : Uf all (ancs all.toList) N H.nx st (fun i => (vk i).2) (fun i => (Array.replicate all.size false).getD i false = true) 0 = H.m.get := by
          funext b
          unfold Uf
          rw [if_neg (by rintro ⟨_, _, h, _⟩; exact hL0 _ h), hH0]
        rw [hU, hH0]
        exact Stp.refl (hr1.nx_mono (Nat.le_add_right _ _))
      refine Inv.any hE hc hp ?_ all.size _ 0 γ a _ (by simp) ?_ hinv
      · -- all have come up
        intro L c γ' a' w' hv hall
        have hcn : ∀ e, c ≤ e → e < all.size → ¬ IsAct all N st e := by
          intro e h1 h2 h3
          have := (hv.stage e h3).1 (hall e h2)
          omega
        have hHn : (st all.size).H = (st c).H := hp.stillTo (Nat.le_refl _) hv.cle hcn
        have hUm : ∀ j, Um all (ancs all.toList) N st all.size j ↔ Um all (ancs all.toList) N st c j := by
          intro j
          constructor
          · intro h e he hae; exact h e (by have := hv.cle; omega) hae
          · intro h e he hae
            rcases Nat.lt_or_ge e c with h' | h'
            · exact h e h' hae
            · exact (hcn e h' he hae).elim
        have hsz : ∀ j, IsMk all N st j → j < all.size := by
          rintro j ⟨o, ho, _⟩
          exact (Array.getElem?_eq_some_iff.1 ho).1
        obtain ⟨m1, m2⟩ := mergeAll_ok _ _ _ hmF (by rw [← hn]; exact hp.pendUniq all.size (Nat.le_refl _))
        have hpend := hp.pendOk all.size (Nat.le_refl _)
        rw [hn] at hpend
        have hU : Uf all (ancs all.toList) N H.nx st (fun i => (vk i).2) L c = mF.get := by
          funext b
          unfold Uf
          by_cases hcond : H.nx ≤ b ∧ IsMk all N st (b - H.nx) ∧ L (b - H.nx) ∧ Um all (ancs all.toList) N st c (b - H.nx)
          · rw [if_pos hcond]
            obtain ⟨q1, q2, q3, q4⟩ := hcond
            have := m1 (b - H.nx) b _ ((hpend _ _ _).2 ⟨q2, hsz _ q2, (hUm _).2 q4, by omega, rfl⟩)
            exact this.symm
          · rw [if_neg hcond, m2 b, ← hHn, hn]
            intro j k hmem
            obtain ⟨q1, q2, q3, q4, q5⟩ := (hpend _ _ _).1 hmem
            apply hcond
            have : b - H.nx = j := by omega
            rw [this]
            exact ⟨by omega, q1, hall j q2, (hUm j).1 q3⟩
        have hstp := hv.stp
        rw [hU] at hstp
        have hnx : (st c).H.nx = s.H.nx := by rw [← hHn, hn]
        rw [hnx] at hstp
        refine hQ a' w' γ' ⟨hv.defers, hv.size, fun t => ?_, hv.glob⟩ ⟨⟨hstp.le, hstp.rel, hstp.size, hstp.os, hstp.tape, hstp.output, hstp.frame, hstp.own, hstp.ro, hstp.dom⟩, ?_, hv.keep⟩
        · obtain ⟨t1, t2⟩ := hp.tlook all.size (Nat.le_refl _) t
          rw [hn] at t1 t2
          by_cases hex2 : ∃ (wi : Nat) (o' : Oper), all[wi]? = some o' ∧ o'.dst = some t
          · obtain ⟨wi, o', hw, hd⟩ := hex2
            have hlt : wi < all.size := (Array.getElem?_eq_some_iff.1 hw).1
            rw [t1 wi o' hw hd hlt]
            exact hv.wr t wi o' hw hd (hall wi hlt)
          · rw [t2 (fun w2 o2 hw2 hd2 => (hex2 ⟨w2, o2, hw2, hd2⟩).elim)]
            exact hv.un t (fun w2 o2 hw2 hd2 => (hex2 ⟨w2, o2, hw2, hd2⟩).elim)
        · have := hv.nx
          rw [hnx] at this
          show H.nx ≤ s.H.nx
          omega
      · unfold unlisted
        have := List.length_filter_le (fun i => !(Array.replicate all.size false).getD i false) (List.range all.size)
        simpa using this

def AEx.den : AEx → Exit
  | .normal => .normal
  | .exit id => .exit id
  | .ret => .ret

theorem evCode_both {N : Nat} : ∀ (n : Nat),
    (∀ (c : Code) (T T' : Tr AV) (H H' : Hs) (e : AEx), evCode E call N n c T H = some (e, T', H') → ∀ (γ : Gm) (a : Act) (w : World), FRel γ E.ng T N a → HRel γ H.m.get H.nx w →
      c.wp P (fun x a' w' => x = AEx.den e ∧ ∃ γ', FRel γ' E.ng T' N a' ∧ RunR γ H w γ' H' w') a w) ∧
    (∀ (b : Code) (T T' : Tr AV) (H H' : Hs) (e : AEx), evCode E call N n (.loop b) T H = some (e, T', H') → ∀ (γ : Gm) (a : Act) (w : World), FRel γ E.ng T N a → HRel γ H.m.get H.nx w →
      ∀ (bf : Frame) (k : List Item) (cs : List Frame), ∃ x a' w', (x = AEx.den e ∧ ∃ γ', FRel γ' E.ng T' N a' ∧ RunR γ H w γ' H' w') ∧ Arrives P (lone (bf.at a (.code b :: .inLoop b :: k)) cs w) bf k cs x a' w') := by
  intro n
  induction n with
  | zero => exact ⟨fun c T T' H H' e h => by simp [evCode] at h, fun c T T' H H' e h => by simp [evCode] at h⟩
  | succ n ihb =>
    obtain ⟨ih, ihl⟩ := ihb
    have hloop : ∀ (b : Code) (T T' : Tr AV) (H H' : Hs) (e : AEx), evCode E call N (n + 1) (.loop b) T H = some (e, T', H') → ∀ (γ : Gm) (a : Act) (w : World), FRel γ E.ng T N a → HRel γ H.m.get H.nx w →
      ∀ (bf : Frame) (k : List Item) (cs : List Frame), ∃ x a' w', (x = AEx.den e ∧ ∃ γ', FRel γ' E.ng T' N a' ∧ RunR γ H w γ' H' w') ∧ Arrives P (lone (bf.at a (.code b :: .inLoop b :: k)) cs w) bf k cs x a' w' := by
      intro b T T' H H' e h γ a w hf hr bf k cs
      simp only [evCode] at h
      split at h
      · rename_i T1 H1 h1
        obtain ⟨x1, a1, w1, ⟨rfl, γ1, hf1, hrun1⟩, harr⟩ := ih b T T1 H H1 .normal h1 γ a w hf hr bf (.inLoop b :: k) cs
        obtain ⟨x2, a2, w2, ⟨rfl, γ2, hf2, hrun2⟩, harr2⟩ := ihl b T1 T' H1 H' e h γ1 a1 w1 hf1 hrun1.stp.rel bf k cs
        exact ⟨_, a2, w2, ⟨rfl, γ2, hf2, hrun1.trans hrun2⟩, .of_steps (Steps.trans harr (.one step_inLoop)) harr2⟩
      · rename_i hne
        obtain ⟨x1, a1, w1, ⟨rfl, hx⟩, harr⟩ := ih b T T' H H' e h γ a w hf hr bf (.inLoop b :: k) cs
        refine ⟨_, a1, w1, ⟨rfl, hx⟩, ?_⟩
        cases e with
        | normal => exact (hne T' H' h).elim
        | exit j => exact .pass (x := .inLoop b) rfl (fun _ _ => .inl (by simp [AEx.den])) harr
        | ret => exact .pass (x := .inLoop b) rfl (fun _ _ => .inl (by simp [AEx.den])) harr
    refine ⟨?_, hloop⟩
    intro c T T' H H' e h γ a w hf hr
    cases c with
    | skip =>
      simp only [evCode, Option.some.injEq, Prod.mk.injEq] at h
      obtain ⟨rfl, rfl, rfl⟩ := h
      exact wp_skip ⟨rfl, γ, hf, RunR.refl hr⟩
    | label l =>
      simp only [evCode, Option.some.injEq, Prod.mk.injEq] at h
      obtain ⟨rfl, rfl, rfl⟩ := h
      exact wp_label ⟨rfl, γ, hf, RunR.refl hr⟩
    | exit id =>
      simp only [evCode, Option.some.injEq, Prod.mk.injEq] at h
      obtain ⟨rfl, rfl, rfl⟩ := h
      exact wp_exit ⟨rfl, γ, hf, RunR.refl hr⟩
    | ret =>
      simp only [evCode, Option.some.injEq, Prod.mk.injEq] at h
      obtain ⟨rfl, rfl, rfl⟩ := h
      exact wp_ret ⟨rfl, γ, hf, RunR.refl hr⟩
    | region id ops draw =>
      cases draw with
      | false =>
        simp only [evCode] at h
        split at h
        · cases h
        · rename_i T1 H1 h1
          cases h
          exact wp_region (evOps_ok hE hc ops.toList (List.range ops.size) (range_all ops) T T' H H' h1 γ a w hf hr (fun a' w' γ' h1 h2 => ⟨rfl, γ', h1, h2⟩))
      | true =>
        simp only [evCode] at h
        split at h
        · cases h
        · rename_i T1 H1 h1
          cases h
          exact evDraw_ok hE hc h1 hf hr (fun a' w' γ' h1 h2 => ⟨rfl, γ', h1, h2⟩)
    | seq x y =>
      simp only [evCode] at h
      split at h
      · rename_i T1 H1 h1
        refine wp_seq (wp_mono (ih x T T1 H H1 .normal h1 γ a w hf hr) ?_)
        rintro x' a' w' ⟨rfl, γ', hf', hrun⟩
        refine wp_mono (ih y T1 T' H1 H' e h γ' a' w' hf' hrun.stp.rel) ?_
        rintro x'' a'' w'' ⟨rfl, γ'', hf'', hrun'⟩
        exact ⟨rfl, γ'', hf'', hrun.trans hrun'⟩
      · rename_i hne
        refine wp_seq (wp_mono (ih x T T' H H' e h γ a w hf hr) ?_)
        rintro x' a' w' ⟨rfl, hx⟩
        cases e with
        | normal => exact (hne T' H' h).elim
        | exit id => exact ⟨rfl, hx⟩
        | ret => exact ⟨rfl, hx⟩
    | cond x y z =>
      simp only [evCode] at h
      split at h
      · rename_i hx
        have hv := evo_ok hf _ _ hx
        generalize hX : a.eval x = X at hv
        cases hv
        exact wp_cond_true hX (ih y T T' H H' e h γ a w hf hr)
      · rename_i hx
        have hv := evo_ok hf _ _ hx
        generalize hX : a.eval x = X at hv
        cases hv
        exact wp_cond_false hX (ih z T T' H H' e h γ a w hf hr)
      · cases h
    | block id b =>
      simp only [evCode] at h
      split at h
      · rename_i j T1 H1 h1
        cases hj : Nat.beq j id with
        | true =>
          simp only [hj, cond_true, Option.some.injEq, Prod.mk.injEq] at h
          obtain ⟨rfl, rfl, rfl⟩ := h
          refine wp_block (wp_mono (ih b T T1 H H1 (.exit j) h1 γ a w hf hr) ?_)
          rintro x' a' w' ⟨rfl, hx⟩
          show (if j = id then _ else _)
          rw [if_pos (beq_eq hj)]
          exact ⟨rfl, hx⟩
        | false =>
          simp only [hj, cond_false, Option.some.injEq, Prod.mk.injEq] at h
          obtain ⟨rfl, rfl, rfl⟩ := h
          refine wp_block (wp_mono (ih b T T1 H H1 (.exit j) h1 γ a w hf hr) ?_)
          rintro x' a' w' ⟨rfl, hx⟩
          show (if j = id then _ else _)
          rw [if_neg (beq_ne hj)]
          exact ⟨rfl, hx⟩
      · rename_i hne
        refine wp_block (wp_mono (ih b T T' H H' e h γ a w hf hr) ?_)
        rintro x' a' w' ⟨rfl, hx⟩
        cases e with
        | normal => exact ⟨rfl, hx⟩
        | exit j => exact (hne j T' H' h).elim
        | ret => exact ⟨rfl, hx⟩
    | loop b =>
      intro bf k cs
      obtain ⟨x, a', w', hx, harr⟩ := hloop b T T' H H' e h γ a w hf hr bf k cs
      exact ⟨x, a', w', hx, .of_steps (.one step_loop) harr⟩
    | scope b =>
      simp only [evCode] at h
      refine wp_scope_straight (wp_mono (ih b T T' H H' e h γ a w hf hr) ?_)
      rintro x' a' w' ⟨rfl, hx⟩
      cases e <;> exact ⟨rfl, hx⟩
    | rangeFunc f ps x y => simp [evCode] at h
    | goto l => simp [evCode] at h
    | refuse s => simp [evCode] at h
end

theorem resA_ok {P : Program} {ti : Tr TypeInfo} (ht : TabOk P ti) {γ : Gm} {ng N nx : Nat} {T : Tr AV} {a : Act} {m : Tr Blk} {w : World} (hf : FRel γ ng T N a) (hr : HRel γ m.get nx w) : ∀ (l : List ResultVar) (vs : List AV), resA ti T m l = some vs →
    ∃ Vs, (l.mapM (fun | ResultVar.tmp t => pure (a.tmps.getD t undef) | ResultVar.cell ad t => do loadVar t (← asAddr (a.tmps.getD ad undef)) : ResultVar → Sem Value)).run P w = .ok Vs w ∧ VsRel γ vs Vs := by
  intro l
  induction l with
  | nil =>
    intro vs h
    simp only [resA, Option.some.injEq] at h
    subst h
    exact ⟨[], rfl, .nil⟩
  | cons r l ih =>
    intro vs h
    cases r with
    | tmp t =>
      simp only [resA] at h
      split at h
      · cases h
      · rename_i us hus
        cases h
        obtain ⟨Vs, h1, h2⟩ := ih us hus
        refine ⟨a.tmps.getD t undef :: Vs, ?_, .cons (hf.tmp t) h2⟩
        rw [List.mapM_cons]
        simp only [Sem.run_bind, Sem.run_pure, Result.andThen_ok, h1]
    | cell ad t =>
      simp only [resA] at h
      split at h
      · cases h
      · rename_i v hv
        split at h
        · cases h
        · rename_i us hus
          cases h
          obtain ⟨Vs, h1, h2⟩ := ih us hus
          obtain ⟨V, adr, g1, g2, g3⟩ := qLoad_ok (P := P) ht hr (hf.tmp ad) hv
          have hadr : (asAddr (a.tmps.getD ad undef)).run P w = .ok adr w := by rw [g1]; rfl
          refine ⟨V :: Vs, ?_, .cons g3 h2⟩
          rw [List.mapM_cons]
          simp only [Sem.run_bind, hadr, Sem.run_pure, Result.andThen_ok, g2, h1]

theorem tupA_ok {γ : Gm} {vs : List AV} {Vs : List Value} (h : VsRel γ vs Vs) : VRel γ (tupA vs) (if hs : Vs.toArray.size = 1 then Vs.toArray[0] else .tuple Vs.toArray) := by
  cases h with
  | nil => exact .tup .nil
  | cons hv ht =>
    cases ht with
    | nil => exact hv
    | cons hv' ht' =>
      rename_i v V v2 V2 vs' Vs'
      have : ¬ ((V :: V2 :: Vs').toArray.size = 1) := by simp
      rw [dif_neg this]
      exact .tup (.cons hv (.cons hv' ht'))

theorem VsRel_getD {γ : Gm} {args : List AV} {Args : List Value} (h : VsRel γ args Args) (n t : Nat) : VRel γ ((args[t]?).getD (.tup [])) ((Args.toArray ++ Array.replicate n undef).getD t undef) := by
  have hl := h.length
  rcases h.get t with ⟨h1, h2⟩ | ⟨v, V, h1, h2, h3⟩
  · rw [h1]
    rw [List.getElem?_eq_none_iff] at h2
    have : (Args.toArray ++ Array.replicate n undef).getD t undef = undef := by
      simp only [Array.getD_eq_getD_getElem?]
      rw [Array.getElem?_append_right (by simpa using h2)]
      cases hx : (Array.replicate n undef)[t - Args.toArray.size]? with
      | none => rfl
      | some V =>
        have := Array.mem_of_getElem? hx
        rw [Array.mem_replicate] at this
        simp [this.2]
    rw [this]
    exact .tup .nil
  · rw [h1]
    have hlt : t < Args.length := by
      rcases Nat.lt_or_ge t Args.length with h' | h'
      · exact h'
      · rw [List.getElem?_eq_none h'] at h2; cases h2
    have : (Args.toArray ++ Array.replicate n undef).getD t undef = V := by
      simp only [Array.getD_eq_getD_getElem?]
      rw [Array.getElem?_append_left (by simpa using hlt)]
      simp [h2]
    rw [this]
    exact h3

theorem callF_ok {P : Program} {E : Env} (hE : EnvOk P E) {orc : CallF} (ho : CallOk P E.ng orc) : ∀ n, CallOk P E.ng (callF E orc n) := by
  intro n
  induction n with
  | zero => intro f args H v H' h; simp [callF] at h
  | succ n ih =>
    intro f args H v H' h γ w Args hr hA hg
    simp only [callF] at h
    split at h
    · rename_i r hr'
      cases h
      exact ho f args H v H' hr' γ w Args hr hA hg
    · split at h
      · cases h
      · rename_i fn hfn
        rw [hE.fs f] at hfn
        split at h
        · cases h
        · rename_i c hc
          refine ⟨⟨fn, hfn, by rw [hc]; rfl⟩, ?_⟩
          have hl := hA.length
          have hN : (Args.toArray ++ Array.replicate (fn.ntmps - Args.toArray.size) undef).size = Nat.max args.length fn.ntmps := by
            simp only [Array.size_append, List.size_toArray, Array.size_replicate, hl]
            show _ = max args.length fn.ntmps
            omega
          cases hlen : Nat.blt args.length 1000 with
          | false => simp [hlen] at h
          | true =>
          have hlen' : args.length < 1000 := Nat.le_of_ble_eq_true hlen
          simp only [hlen, Bool.not_true, cond_false] at h
          split at h
          · cases h
          · rename_i ex T H1 hne hcode
            split at h
            · cases h
            · rename_i vs hvs
              cases h
              refine calls_of_wp hfn hc ?_
              have hf : FRel γ E.ng (Tr.ofList args) (Nat.max args.length fn.ntmps) { tmps := Args.toArray ++ Array.replicate (fn.ntmps - Args.toArray.size) undef, defers := [] } := by
                refine ⟨rfl, hN, fun t => ?_, hg⟩
                have := VsRel_getD hA (fn.ntmps - Args.toArray.size) t
                unfold tget
                rw [Tr.get_ofList args (by omega)]
                cases hx : args[t]? with
                | none => rw [hx] at this; exact this
                | some u => rw [hx] at this; exact this
              refine wp_mono ((evCode_both hE ih _).1 c _ T H H' ex hcode γ _ w hf hr) ?_
              rintro x a' w' ⟨rfl, γ', hf', hrun⟩
              obtain ⟨Vs, h1, h2⟩ := resA_ok (P := P) hE.ti hf' hrun.stp.rel fn.results.toList vs hvs
              have hres : (results fn a'.tmps).run P w' = .ok (if hs : Vs.toArray.size = 1 then Vs.toArray[0] else .tuple Vs.toArray) w' := by
                unfold results
                rw [Array.mapM_eq_mapM_toList]
                simp only [Sem.run_bind, Sem.run_map, Sem.run_pure]
                exact congrArg (fun r : Result (List Value) => (r.andThen fun a w' => Result.ok a.toArray w').andThen fun a w' => Result.ok (if h : a.size = 1 then a[0] else Value.tuple a) w') h1
              have hpost : ∃ V, (results fn a'.tmps).run P w' = .ok V w' ∧ ∃ V' γ'', Ending.returned V = .returned V' ∧ VRel γ'' (tupA vs) V' ∧ RunR γ H w γ'' H' w' := ⟨_, hres, _, γ', rfl, tupA_ok h2, hrun⟩
              cases ex with
              | normal => exact ⟨hf'.defers, hpost⟩
              | ret => exact ⟨hf'.defers, hpost⟩
              | exit id => exact (hne id rfl).elim
          · cases h

end Go.QfEv
