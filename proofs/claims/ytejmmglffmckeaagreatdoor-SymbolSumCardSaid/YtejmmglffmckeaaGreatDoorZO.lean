/- A run of the abstract machine is a run of the model: drawn regions, code, calls. -/
import Derived.Test.YtejmmglffmckeaaGreatDoorZN
import Derived.Below
set_option linter.unusedSimpArgs false
set_option linter.unusedVariables false
namespace Go.QfSy

def unlisted (n : Nat) (listed : Array Bool) : Nat := ((List.range n).filter fun i => !listed.getD i false).length

theorem unlisted_set {n i : Nat} {listed : Array Bool} (hi : i < n) (hs : listed.size = n) (h : listed.getD i false = false) : unlisted n (listed.setIfInBounds i true) + 1 = unlisted n listed := by
  unfold unlisted
  have key : ∀ (l : List Nat), l.Nodup → (i ∈ l → ((l.filter fun j => !(listed.setIfInBounds i true).getD j false).length + 1 = (l.filter fun j => !listed.getD j false).length)) ∧ (i ∉ l → (l.filter fun j => !(listed.setIfInBounds i true).getD j false).length = (l.filter fun j => !listed.getD j false).length) := by
    intro l
    induction l with
    | nil => intro _; exact ⟨by simp, by simp⟩
    | cons j l ih =>
      intro hnd
      obtain ⟨hj, hnd'⟩ := List.nodup_cons.1 hnd
      obtain ⟨ih1, ih2⟩ := ih hnd'
      have hset : (listed.setIfInBounds i true).getD i false = true := by simp [Array.getD, hs, hi]
      refine ⟨fun hm => ?_, fun hm => ?_⟩
      · by_cases e : j = i
        · subst e
          have := ih2 hj
          simp only [List.filter_cons, hset, Bool.not_true, Bool.false_eq_true, if_false, h, Bool.not_false, if_true, List.length_cons]
          omega
        · have hne := getD_set_ne (listed := listed) false (fun h => e h.symm : i ≠ j)
          have hm' : i ∈ l := by
            rcases List.mem_cons.1 hm with rfl | hm
            · exact (e rfl).elim
            · exact hm
          have := ih1 hm'
          simp only [List.filter_cons, hne]
          split
          · simp only [List.length_cons]; omega
          · exact this
      · have e : j ≠ i := by intro e; exact hm (by simp [e])
        have hne := getD_set_ne (listed := listed) false (fun h => e h.symm : i ≠ j)
        have := ih2 (fun h => hm (by simp [h]))
        simp only [List.filter_cons, hne]
        split
        · simp only [List.length_cons]; omega
        · exact this
  exact (key (List.range n) List.nodup_range).1 (by simp [hi])

theorem unlisted_zero {n : Nat} {listed : Array Bool} (h : unlisted n listed = 0) : ∀ i, i < n → listed.getD i false = true := by
  intro i hi
  unfold unlisted at h
  have h' := List.eq_nil_of_length_eq_zero h
  rw [List.filter_eq_nil_iff] at h'
  have := h' i (by simp [hi])
  simpa using this

section
variable {P : Program} {E : Env} (hE : EnvOk P E) {call : CallF} (hc : CallOk P E.ng call)
include hE hc

theorem Inv.any {all : Array Oper} {A : Tr Nat} {N i0 : Nat} {st : Nat → DSt} {val : Nat → AV} {mk : Nat → Blk} (hp : Pass E call all A N i0 st val mk) {γ0 : Gm} {f0 : Hf} {w0 : World} {Q : Exit → Act → World → Prop}
    (hQ : ∀ L c γ a w, Inv E all A N i0 st val mk γ0 f0 w0 L c γ a w → (∀ i, i < all.size → L i) → Q .normal a w) :
    ∀ (fuel : Nat) (listed : Array Bool) (c : Nat) (γ : Gm) (a : Act) (w : World), listed.size = all.size → unlisted all.size listed ≤ fuel → Inv E all A N i0 st val mk γ0 f0 w0 (fun i => listed.getD i false = true) c γ a w → wpAny P .any all Q fuel listed a w := by
  intro fuel
  have done : ∀ (listed : Array Bool) (c : Nat) (γ : Gm) (a : Act) (w : World), listed.size = all.size → Inv E all A N i0 st val mk γ0 f0 w0 (fun i => listed.getD i false = true) c γ a w → Region.ready .any all listed = [] → Q .normal a w := by
    intro listed c γ a w hs hv hr
    refine hQ _ c γ a w hv ?_
    intro i
    induction i using Nat.strongRecOn with
    | _ i ih =>
      intro hi
      cases hb : listed.getD i false with
      | true => rfl
      | false =>
        exfalso
        have : i ∈ Region.ready .any all listed := by
          rw [mem_ready]
          refine ⟨?_, all[i], by simp [hi], fun e he hbd => ?_⟩
          · have hlt : i < listed.size := by omega
            simp [Array.getD, hlt] at hb ⊢
            exact hb
          · have hlt := hp.static.back i all[i] (by simp [hi]) e he hbd
            exact ih e.on hlt (by omega)
        rw [hr] at this
        cases this
  induction fuel with
  | zero =>
    intro listed c γ a w hs hu hv
    have hall := unlisted_zero (show unlisted all.size listed = 0 by omega)
    have hr : Region.ready .any all listed = [] := by
      cases hrd : Region.ready .any all listed with
      | nil => rfl
      | cons i l =>
        exfalso
        have hm : i ∈ Region.ready .any all listed := by rw [hrd]; simp
        obtain ⟨h1, o, ho, _⟩ := mem_ready.1 hm
        have hlt : i < all.size := (Array.getElem?_eq_some_iff.1 ho).1
        have h2 := hall i hlt
        have hlt' : i < listed.size := by omega
        simp [Array.getD, hlt'] at h1 h2
        rw [h1] at h2
        cases h2
    exact ⟨hr, done listed c γ a w hs hv hr⟩
  | succ fuel ih =>
    intro listed c γ a w hs hu hv
    refine ⟨done listed c γ a w hs hv, fun i hi => ?_⟩
    obtain ⟨h1, o, ho, hed⟩ := mem_ready.1 hi
    have hlt : i < all.size := (Array.getElem?_eq_some_iff.1 ho).1
    have hlt' : i < listed.size := by omega
    have h1' : listed.getD i false = false := by
      simp [Array.getD, hlt'] at h1 ⊢
      exact h1
    have hanc : ∀ j, ancBit A i j = true → listed.getD j false = true := by
      intro j hb
      obtain ⟨o', ho', e, he, hbd, hor⟩ := hp.static.anc j i hb
      rw [ho] at ho'
      cases ho'
      have hL := hed e he hbd
      rcases hor with rfl | hor
      · exact hL
      · exact hv.closed e.on hL j hor
    refine hv.step hE hc hp ho (by simp [h1']) hanc ?_
    intro c' γ' a' w' hv'
    refine ih (listed.setIfInBounds i true) c' γ' a' w' (by simp [hs]) ?_ ?_
    · have := unlisted_set hlt hs h1'
      omega
    · have hfun : (fun j => listed.getD j false = true ∨ j = i) = (fun j => (listed.setIfInBounds i true).getD j false = true) := by
        funext j
        apply propext
        by_cases e : j = i
        · subst e
          simp [Array.getD, hlt']
        · rw [getD_set_ne (listed := listed) false (fun h => e h.symm : i ≠ j)]
          simp [e]
      rw [← hfun]
      exact hv'

omit hE in
theorem dStep_ms {all : Array Oper} {A : Tr Nat} {N i0 i : Nat} {o : Oper} {s s' : DSt} (h : dStep E call all A N i0 o i s = some s') : ∀ p ∈ s.ms, p ∈ s'.ms := by
  intro p hp
  unfold dStep at h
  replace h := (bif_some h).2
  cases hw : wantedA all N s.T o with
  | true =>
    simp only [hw, cond_true] at h
    split at h
    · split at h
      · cases h
      · split at h
        · cases h
        · split at h
          · cases h
          · cases h; simp [hp]
    · split at h
      · cases h
      · split at h
        · cases h
        · cases h; exact hp
    · replace h := (bif_some h).2
      split at h
      · cases h
      · split at h
        · cases h
        · rename_i v H' hv
          have := evAct_ms hc hv p hp
          split at h
          · cases h
          · split at h
            · cases h
            · cases h; simp [this]
  | false =>
    simp only [hw, cond_false] at h
    split at h
    · cases h
    · cases h; exact hp

omit hE in
theorem evDrawGo_ms {all : Array Oper} {A : Tr Nat} {N i0 : Nat} : ∀ (l : List Oper) (i : Nat) (s s' : DSt), evDrawGo E call all A N i0 l i s = some s' → ∀ p ∈ s.ms, p ∈ s'.ms := by
  intro l
  induction l with
  | nil => intro i s s' h p hp; simp only [evDrawGo, Option.some.injEq] at h; subst h; exact hp
  | cons o l ih =>
    intro i s s' h p hp
    simp only [evDrawGo] at h
    split at h
    · cases h
    · rename_i s1 h1
      exact ih _ _ _ h p (dStep_ms hc h1 p hp)

omit hE in
theorem evDraw_ms {all : Array Oper} {N : Nat} {T T' : Tr AV} {H H' : Hs} (hq : evDraw E call all N T H = some (T', H')) : ∀ p ∈ H.ms, p ∈ H'.ms := by
  intro p hp
  unfold evDraw at hq
  replace hq := (bif_some hq).2
  split at hq
  · cases hq
  · rename_i s hgo
    split at hq
    · cases hq
    · cases hq
      exact evDrawGo_ms hc _ _ _ _ hgo p hp

theorem evDraw_ok {id : Nat} {all : Array Oper} {N : Nat} {T T' : Tr AV} {H H' : Hs} (hq : evDraw E call all N T H = some (T', H')) (hm : ∀ p ∈ H'.ms, p) {γ : Gm} {a : Act} {w : World} (hf : FRel γ E.ng T N a) (hr : HRel γ H.m.get H.nx w) {Q : Exit → Act → World → Prop}
    (hQ : ∀ a' w' γ', FRel γ' E.ng T' N a' → RunR γ H w γ' H' w' → Q .normal a' w') : (Code.region id all true).wp P Q a w := by
  unfold evDraw at hq
  obtain ⟨hord, hq⟩ := bif_some hq
  have hS := static_of hord
  split at hq
  · cases hq
  · rename_i s hgo
    split at hq
    · cases hq
    · rename_i mF hmF
      cases hq
      obtain ⟨st, h0, hn, hstep⟩ := states_of _ _ _ _ hgo
      rw [Array.length_toList] at hn
      have hgrow : ∀ d i : Nat, i + d = all.size → ∀ p ∈ (st i).ms, p ∈ (st all.size).ms := by
        intro d
        induction d with
        | zero => intro i hi p hp; rw [← hi]; exact hp
        | succ d ih =>
          intro i hi p hp
          have hlt : i < all.size := by omega
          have hs := hstep i all[i] (by simp [hlt])
          exact ih (i + 1) (by omega) p (dStep_ms hc hs p hp)
      have hmst : ∀ i : Nat, i < all.size → ∀ p ∈ (st (i + 1)).ms, p := by
        intro i hi p hp
        exact hm p (by have := hgrow (all.size - (i + 1)) (i + 1) (by omega) p hp; rw [hn] at this; exact this)
      have hex : ∀ i : Nat, ∃ p : AV × Blk, ∀ o, all[i]? = some o → StepR E call all (ancs all.toList) N H.nx st i o p.1 p.2 := by
        intro i
        cases ho : all[i]? with
        | none => exact ⟨(.nilp, ⟨.plain [], 0, 0, false, false⟩), fun o h => by cases h⟩
        | some o =>
          have := hstep i o (by simpa using ho)
          rw [Nat.zero_add] at this
          obtain ⟨v, kb, hs⟩ := stepR_of E call all (ancs all.toList) N H.nx st i o this (hmst i (Array.getElem?_eq_some_iff.1 ho).1)
          exact ⟨(v, kb), fun o' h => by cases h; exact hs⟩
      obtain ⟨vk, hvk⟩ := Classical.axiomOfChoice hex
      have hp : Pass E call all (ancs all.toList) N H.nx st (fun i => (vk i).1) (fun i => (vk i).2) :=
        ⟨hS, by rw [h0], by rw [h0], by rw [h0], fun i o ho => hvk i o ho⟩
      refine wp_region_any hE.mixed ?_
      have hr1 : HRel γ H.m.get H.nx { w with drawn := w.drawn + 1 } := hr.heap rfl
      have hnone : ∀ b, H.nx ≤ b → H.m.get b = none := by
        intro b hb
        cases hg : H.m.get b with
        | none => rfl
        | some k =>
          obtain ⟨B, x, cs, ex, g1, _⟩ := hr.blk b k hg
          rw [hr.fresh b hb] at g1
          cases g1
      have hL0 : ∀ i, ¬ ((Array.replicate all.size false).getD i false = true) := by
        intro i
        by_cases hi : i < all.size
        · simp [Array.getD, hi]
        · simp [Array.getD, hi]
      have hinv : Inv E all (ancs all.toList) N H.nx st (fun i => (vk i).1) (fun i => (vk i).2) γ H.m.get { w with drawn := w.drawn + 1 } (fun i => (Array.replicate all.size false).getD i false = true) 0 γ a { w with drawn := w.drawn + 1 } := by
        have hH0 : (st 0).H = ⟨H.m, H.nx + all.size⟩ := by rw [h0]
        have hT0 : (st 0).T = T := by rw [h0]
        refine ⟨fun j hj => (hL0 j hj).elim, fun j hj => (hL0 j hj).elim, Nat.zero_le _, fun e _ => ⟨fun h => (hL0 e h).elim, fun h => by omega⟩, hf.defers, hf.size, hf.glob, fun t wi o h1 h2 h3 => (hL0 wi h3).elim, fun t _ v hv => by rw [hT0] at hv; exact hf.tmp t v hv, ?_, fun _ _ => rfl, fun j hj _ => hr.fresh _ (by omega), fun j hj _ => by rw [hH0]; exact hnone _ (by omega), by rw [hH0]; exact Nat.le_refl _⟩
        have hU : Uf all (ancs all.toList) N H.nx st (fun i => (vk i).2) (fun i => (Array.replicate all.size false).getD i false = true) 0 = H.m.get := by
          funext b
          unfold Uf
          rw [if_neg (by rintro ⟨_, _, h, _⟩; exact hL0 _ h), hH0]
        rw [hU, hH0]
        exact Stp.refl (hr1.nx_mono (Nat.le_add_right _ _))
      refine Inv.any hE hc hp ?_ all.size _ 0 γ a _ (by simp) ?_ hinv
      · -- all have come up
        intro L c γ' a' w' hv hall
        have hcn : ∀ e, c ≤ e → e < all.size → ¬ IsAct all N st e := by
          intro e h1 h2 h3
          have := (hv.stage e h3).1 (hall e h2)
          omega
        have hHn : (st all.size).H = (st c).H := hp.stillTo (Nat.le_refl _) hv.cle hcn
        have hUm : ∀ j, Um all (ancs all.toList) N st all.size j ↔ Um all (ancs all.toList) N st c j := by
          intro j
          constructor
          · intro h e he hae; exact h e (by have := hv.cle; omega) hae
          · intro h e he hae
            rcases Nat.lt_or_ge e c with h' | h'
            · exact h e h' hae
            · exact (hcn e h' he hae).elim
        have hsz : ∀ j, IsMk all N st j → j < all.size := by
          rintro j ⟨o, ho, _⟩
          exact (Array.getElem?_eq_some_iff.1 ho).1
        obtain ⟨m1, m2⟩ := mergeAll_ok _ _ _ hmF (by rw [← hn]; exact hp.pendUniq all.size (Nat.le_refl _))
        have hpend := hp.pendOk all.size (Nat.le_refl _)
        rw [hn] at hpend
        have hU : Uf all (ancs all.toList) N H.nx st (fun i => (vk i).2) L c = mF.get := by
          funext b
          unfold Uf
          by_cases hcond : H.nx ≤ b ∧ IsMk all N st (b - H.nx) ∧ L (b - H.nx) ∧ Um all (ancs all.toList) N st c (b - H.nx)
          · rw [if_pos hcond]
            obtain ⟨q1, q2, q3, q4⟩ := hcond
            have := m1 (b - H.nx) b _ ((hpend _ _ _).2 ⟨q2, hsz _ q2, (hUm _).2 q4, by omega, rfl⟩)
            exact this.symm
          · rw [if_neg hcond, m2 b, ← hHn, hn]
            intro j k hmem
            obtain ⟨q1, q2, q3, q4, q5⟩ := (hpend _ _ _).1 hmem
            apply hcond
            have : b - H.nx = j := by omega
            rw [this]
            exact ⟨by omega, q1, hall j q2, (hUm j).1 q3⟩
        have hstp := hv.stp
        rw [hU] at hstp
        have hnx : (st c).H.nx = s.H.nx := by rw [← hHn, hn]
        rw [hnx] at hstp
        refine hQ a' w' γ' ⟨hv.defers, hv.size, fun t v hTv => ?_, hv.glob⟩ ⟨⟨hstp.le, hstp.rel, hstp.size, hstp.os, hstp.tape, hstp.output, hstp.frame, hstp.own, hstp.ro, hstp.dom, hstp.fzn⟩, ?_, hv.keep⟩
        · obtain ⟨t1, t2⟩ := hp.tlook all.size (Nat.le_refl _) t
          rw [hn] at t1 t2
          by_cases hex2 : ∃ (wi : Nat) (o' : Oper), all[wi]? = some o' ∧ o'.dst = some t
          · obtain ⟨wi, o', hw, hd⟩ := hex2
            have hlt : wi < all.size := (Array.getElem?_eq_some_iff.1 hw).1
            rw [t1 wi o' hw hd hlt] at hTv
            cases hTv
            exact hv.wr t wi o' hw hd (hall wi hlt)
          · rw [t2 (fun w2 o2 hw2 hd2 => (hex2 ⟨w2, o2, hw2, hd2⟩).elim)] at hTv
            exact hv.un t (fun w2 o2 hw2 hd2 => (hex2 ⟨w2, o2, hw2, hd2⟩).elim) v hTv
        · have := hv.nx
          rw [hnx] at this
          show H.nx ≤ s.H.nx
          omega
      · unfold unlisted
        have := List.length_filter_le (fun i => !(Array.replicate all.size false).getD i false) (List.range all.size)
        simpa using this

def AEx.den : AEx → Exit
  | .normal => .normal
  | .exit id => .exit id
  | .ret => .ret

end

/- a state that says less -/
def weaker (γ : Gm) (f f1 : Hf) : Prop := ∀ b k, f1 b = some k → ∃ k', f b = some k' ∧ k.elem = k'.elem ∧ k.sz = k'.sz ∧ k.opn = k'.opn ∧ k.own = k'.own ∧ (∀ cs, VsRel γ k'.cells cs → VsRel γ k.cells cs) ∧ (k.own = false → k' = k)

theorem HRel.weak {γ : Gm} {f f1 : Hf} {nx : Nat} {w : World} (h : HRel γ f nx w) (hw : weaker γ f f1) : HRel γ f1 nx w := by
  refine ⟨?_, ?_, h.fresh, h.fzr, ?_⟩
  · intro b k hb
    obtain ⟨k', h1, h2, h3, h4, h5, h6, _⟩ := hw b k hb
    obtain ⟨B, x, cs, ex, g1, g2, g3, g4, g5⟩ := h.blk b k' h1
    exact ⟨B, x, cs, ex, g1, by rw [h2]; exact g2, h6 _ g3, by rw [h3]; exact g4, by rw [h4]; exact g5⟩
  · intro b b' k k' B x x' q1 q2 q3 q4
    obtain ⟨_, r1, _⟩ := hw b k q1
    obtain ⟨_, r2, _⟩ := hw b' k' q2
    exact h.inj _ _ _ _ _ _ _ r1 r2 q3 q4
  · intro b k B x hb ho hg
    obtain ⟨k', h1, _, _, _, h5, _⟩ := hw b k hb
    exact h.fzo b k' B x h1 (by rw [← h5]; exact ho) hg

theorem OwnImg.weak {γ : Gm} {f f1 : Hf} (hw : weaker γ f f1) {B : Nat} (h : OwnImg γ f1 B) : OwnImg γ f B := by
  obtain ⟨b, k, x, h1, h2, h3⟩ := h
  obtain ⟨k', r1, _, _, _, r5, _⟩ := hw b k h1
  exact ⟨b, k', x, r1, by rw [← r5]; exact h2, h3⟩

theorem Stp.weak {γ γ' : Gm} {f f1 f' : Hf} {nx : Nat} {w w' : World} (h : Stp γ f1 w γ' f' nx w') (hw : weaker γ f f1) : Stp γ f w γ' f' nx w' :=
  ⟨h.le, h.rel, h.size, h.os, h.tape, h.output, fun k hk hn => h.frame k hk (fun ho => hn (ho.weak hw)), fun k hk ho => (h.own k hk ho).weak hw,
   fun b k hb ho => by
     have h1 := h.ro b k hb ho
     obtain ⟨k', r1, _, _, _, _, _, r7⟩ := hw b k h1
     rw [r7 ho] at r1
     exact r1,
   fun b k hb => (h.dom b k hb).imp (fun ⟨k', hk'⟩ => by obtain ⟨k'', r1, _⟩ := hw b k' hk'; exact ⟨k'', r1⟩) id,
   fun B x hB => (h.fzn B x hB).imp id (Or.imp id (OwnImg.weak hw))⟩

theorem trOf_get {α : Type} : ∀ (l : List (Nat × α)) (i : Nat) (v : α), okNames l = true → (trOf l).get i = some v → (i, v) ∈ l
  | [], i, v, _, h => by simp [trOf, Tr.get] at h
  | (j, u) :: l, i, v, hn, h => by
    simp only [okNames, List.all_cons, Bool.and_eq_true] at hn
    have hj := Nat.le_of_ble_eq_true hn.1
    simp only [trOf] at h
    rw [Tr.get_setF 40 _ j i _ (by simp only [Tr.top] at hj; omega)] at h
    by_cases e : i = j
    · rw [if_pos e] at h
      cases h
      simp [e]
    · rw [if_neg e] at h
      exact List.mem_cons_of_mem _ (trOf_get l i v hn.2 h)

theorem subT_ok {T : Tr AV} : ∀ (l : List (Nat × AV)) (ms : List Prop), subT T l = some ms → (∀ p ∈ ms, p) → ∀ t v, (t, v) ∈ l → ∃ u, T.get t = some u ∧ Imp u v
  | [], ms, h, hm, t, v, ht => by simp at ht
  | (t0, v0) :: l, ms, h, hm, t, v, ht => by
    simp only [subT] at h
    split at h
    · cases h
    · rename_i u hu
      split at h
      · cases h
      · rename_i m1 h1
        split at h
        · cases h
        · rename_i m2 h2
          cases h
          obtain ⟨hm1, hm2⟩ := split2 hm
          rcases List.mem_cons.1 ht with e | ht
          · cases e; exact ⟨u, hu, sameS_ok h1 hm1⟩
          · exact subT_ok l m2 h2 hm2 t v ht

theorem sameView_ok {V V' : View} {ms : List Prop} (h : sameView V V' = some ms) (hm : ∀ p ∈ ms, p) : ∀ γ cs, VsRel γ V.cells cs → VsRel γ V'.cells cs := by
  unfold sameView at h
  split at h
  · exact sameSs_ok h hm
  · cases h; have := all_one hm; subst this; exact fun _ _ h => h
  · obtain ⟨hk, h'⟩ := bif_some h
    have hk := of_decide_eq_true hk
    clear h; subst hk; cases h'
    have := all_one hm; subst this; exact fun _ _ h => h
  · cases h

theorem sameB_ok {k k' : Blk} {ms : List Prop} (h : sameB k k' = some ms) (hm : ∀ p ∈ ms, p) : k'.elem = k.elem ∧ k'.sz = k.sz ∧ k'.opn = k.opn ∧ k'.own = k.own ∧ (∀ γ cs, VsRel γ k.cells cs → VsRel γ k'.cells cs) ∧ (k'.own = false → k = k') := by
  unfold sameB at h
  have hb := (bif_some h).1
  replace h := (bif_some h).2
  simp only [Bool.and_eq_true, beq_iff_eq] at hb
  obtain ⟨⟨⟨a1, a2⟩, h3⟩, h4⟩ := hb
  replace a1 := beq_eq a1
  replace a2 := beq_eq a2
  cases ho : k'.own with
  | true =>
    rw [ho] at h
    exact ⟨a1.symm, a2.symm, h3.symm, by rw [h4, ho], sameView_ok h hm, fun h => by cases h⟩
  | false =>
    rw [ho] at h
    simp only [cond_false] at h
    split at h
    · rename_i cs cs' e1 e2
      have e := beqVs_eq (bif_some h).1
      have hk : k = k' := by
        obtain ⟨v1, b1, c1, d1, o1⟩ := k
        obtain ⟨v2, b2, c2, d2, o2⟩ := k'
        simp only at e1 e2 a1 a2 h3 h4
        rw [e1, e2, a1, a2, h3, h4, e]
      subst hk
      exact ⟨rfl, rfl, rfl, ho.symm, fun _ _ h => h, fun _ => rfl⟩
    · cases h

theorem subM_ok {m : Tr Blk} : ∀ (l : List (Nat × Blk)) (ms : List Prop), subM m l = some ms → (∀ p ∈ ms, p) → ∀ b k, (b, k) ∈ l → ∃ k', m.get b = some k' ∧ k.elem = k'.elem ∧ k.sz = k'.sz ∧ k.opn = k'.opn ∧ k.own = k'.own ∧ (∀ γ cs, VsRel γ k'.cells cs → VsRel γ k.cells cs) ∧ (k.own = false → k' = k)
  | [], ms, h, hm, b, k, hb => by simp at hb
  | (b0, k0) :: l, ms, h, hm, b, k, hb => by
    simp only [subM] at h
    split at h
    · cases h
    · rename_i k' hk'
      split at h
      · cases h
      · rename_i m1 h1
        split at h
        · cases h
        · rename_i m2 h2
          cases h
          obtain ⟨hm1, hm2⟩ := split2 hm
          rcases List.mem_cons.1 hb with e | hb
          · cases e
            obtain ⟨r1, r2, r3, r4, r5, r6⟩ := sameB_ok h1 hm1
            exact ⟨k', hk', r1, r2, r3, r4, r5, r6⟩
          · exact subM_ok l m2 h2 hm2 b k hb

/- what a loop was told to do is what it does -/
def AnnOk (P : Program) (ng N : Nat) (b : Code) (A : Ann) : Prop :=
  ∀ d, (match A.test with | none => d = true | some c => c = d) → ∀ γ a w, FRel γ ng (trOf A.pre.T) N a → HRel γ (trOf A.pre.m).get A.pre.nx w →
    (Code.loop b).wp P (fun x a' w' => x = (A.post d).1.den ∧ ∃ γ', FRel γ' ng (trOf (A.post d).2.T) N a' ∧ RunR γ ⟨trOf A.pre.m, A.pre.nx, [], []⟩ w γ' ⟨trOf (A.post d).2.m, (A.post d).2.nx, [], []⟩ w') a w

def LoOk (P : Program) (ng N : Nat) (lo : List Nat → Option Ann) (c0 : Code) : Prop := ∀ p A b, lo p = some A → subC p.reverse c0 = some (.loop b) → AnnOk P ng N b A

theorem noLo_ok (P : Program) (ng N : Nat) (c0 : Code) : LoOk P ng N noLo c0 := by intro p A b h; cases h

theorem Ann.run_ms {A : Ann} {T T' : Tr AV} {H H' : Hs} {e : AEx} (h : A.run T H = some (e, T', H')) : ∀ p ∈ H.ms, p ∈ H'.ms := by
  intro p hp
  unfold Ann.run at h
  replace h := (bif_some h).2
  split at h
  · cases h
  · split at h
    · cases h
    · rename_i m1 _ m2 _
      cases ht : A.test with
      | none =>
        rw [ht] at h
        simp only at h
        replace h := (bif_some h).2
        cases h; simp [hp]
      | some b =>
        rw [ht] at h
        have ak := ask_ms H b
        simp only at h
        replace h := (bif_some h).2
        cases h
        have : p ∈ (H.ask b).2.ms := by rw [ak]; simp [hp]
        simp [this]

theorem Ann.run_ok {P : Program} {ng N : Nat} {b : Code} {A : Ann} (hA : AnnOk P ng N b A) {T T' : Tr AV} {H H' : Hs} {e : AEx} (h : A.run T H = some (e, T', H')) (hm : ∀ p ∈ H'.ms, p) {γ : Gm} {a : Act} {w : World} (hf : FRel γ ng T N a) (hr : HRel γ H.m.get H.nx w) :
    (Code.loop b).wp P (fun x a' w' => x = e.den ∧ ∃ γ', FRel γ' ng T' N a' ∧ RunR γ H w γ' H' w') a w := by
  unfold Ann.run at h
  have hnx := Nat.le_of_ble_eq_true (bif_some h).1
  replace h := (bif_some h).2
  split at h
  · cases h
  · rename_i m1 h1
    split at h
    · cases h
    · rename_i m2 h2
      have key : ∀ (d : Bool) (H1 : Hs), H1.m = H.m → H1.nx = H.nx → ((∀ p ∈ H1.ms, p) → match A.test with | none => d = true | some c => c = d) →
          (bif okNames (A.post d).2.T && okNames (A.post d).2.m && okNames A.pre.T && okNames A.pre.m then some ((A.post d).1, trOf (A.post d).2.T, (⟨trOf (A.post d).2.m, (A.post d).2.nx, H1.tp, m1 ++ m2 ++ H1.ms⟩ : Hs)) else none) = some (e, T', H') →
          (Code.loop b).wp P (fun x a' w' => x = e.den ∧ ∃ γ', FRel γ' ng T' N a' ∧ RunR γ H w γ' H' w') a w := by
        intro d H1 e1 e2 hd hh
        obtain ⟨hok, hh⟩ := bif_some hh
        cases hh
        obtain ⟨hm12, hmH⟩ := split2 hm
        obtain ⟨hm1, hm2⟩ := split2 hm12
        obtain ⟨hok, o4⟩ := and_split hok
        obtain ⟨hok, o3⟩ := and_split hok
        have hw : weaker γ H.m.get (trOf A.pre.m).get := by
          intro c k hk
          obtain ⟨k', r1, r2, r3, r4, r5, r6, r7⟩ := subM_ok _ _ h2 hm2 c k (trOf_get _ _ _ o4 hk)
          exact ⟨k', r1, r2, r3, r4, r5, r6 γ, r7⟩
        have hf' : FRel γ ng (trOf A.pre.T) N a := ⟨hf.defers, hf.size, fun t v hv => by
          obtain ⟨u, q1, q2⟩ := subT_ok _ _ h1 hm1 t v (trOf_get _ _ _ o3 hv)
          exact q2 γ _ (hf.tmp t u q1), hf.glob⟩
        refine wp_mono (hA d (hd hmH) γ a w hf' ((hr.weak hw).nx_mono hnx)) ?_
        rintro x a' w' ⟨rfl, γ', g1, g2⟩
        refine ⟨rfl, γ', g1, g2.stp.weak hw, Nat.le_trans hnx g2.nx, fun c hc => g2.keep c (Nat.lt_of_lt_of_le hc hnx)⟩
      cases ht : A.test with
      | none =>
        rw [ht] at h key
        exact key true H rfl rfl (fun _ => rfl) h
      | some c =>
        rw [ht] at h key
        exact key (H.ask c).1 (H.ask c).2 (ask_m _ _) (ask_nx _ _) (fun hms => hms (Dec c (H.ask c).1) (by rw [ask_ms]; simp)) h

theorem subC_append : ∀ (p q : List Nat) (c : Code), subC (p ++ q) c = (subC p c).bind (subC q)
  | [], q, c => by cases c <;> rfl
  | i :: p, q, c => by
    have ih := subC_append p q
    match i with
    | 0 => cases c <;> first | (simp only [List.cons_append, subC]; exact ih _) | rfl
    | 1 => cases c <;> first | (simp only [List.cons_append, subC]; exact ih _) | rfl
    | n + 2 => cases c <;> rfl

section
variable {P : Program} {E : Env} (hE : EnvOk P E) {call : CallF} (hc : CallOk P E.ng call) {lo : List Nat → Option Ann} {c0 : Code} {N : Nat} (hlo : LoOk P E.ng N lo c0)

include hc in
theorem evCode_ms {N : Nat} : ∀ (n : Nat) (p : List Nat) (c : Code) (T T' : Tr AV) (H H' : Hs) (e : AEx), evCode E call lo N n p c T H = some (e, T', H') → ∀ q ∈ H.ms, q ∈ H'.ms := by
  intro n
  induction n with
  | zero => intro p c T T' H H' e h; simp [evCode] at h
  | succ n ih =>
    intro p c T T' H H' e h q hq
    cases c with
    | skip => simp only [evCode, Option.some.injEq, Prod.mk.injEq] at h; obtain ⟨_, _, rfl⟩ := h; exact hq
    | label l => simp only [evCode, Option.some.injEq, Prod.mk.injEq] at h; obtain ⟨_, _, rfl⟩ := h; exact hq
    | exit id => simp only [evCode, Option.some.injEq, Prod.mk.injEq] at h; obtain ⟨_, _, rfl⟩ := h; exact hq
    | ret => simp only [evCode, Option.some.injEq, Prod.mk.injEq] at h; obtain ⟨_, _, rfl⟩ := h; exact hq
    | region id ops draw =>
      cases draw with
      | false =>
        simp only [evCode] at h
        split at h
        · cases h
        · rename_i T1 H1 h1
          cases h
          exact evOps_ms hc _ _ _ _ _ h1 q hq
      | true =>
        simp only [evCode] at h
        split at h
        · cases h
        · rename_i T1 H1 h1
          cases h
          exact evDraw_ms hc h1 q hq
    | seq x y =>
      simp only [evCode] at h
      split at h
      · rename_i T1 H1 h1
        exact ih _ _ _ _ _ _ _ h q (ih _ _ _ _ _ _ _ h1 q hq)
      · exact ih _ _ _ _ _ _ _ h q hq
    | cond x y z =>
      simp only [evCode] at h
      split at h
      · exact ih _ _ _ _ _ _ _ h q hq
      · exact ih _ _ _ _ _ _ _ h q hq
      · rename_i u hu
        have ak := ask_ms H u
        generalize H.ask u = r at h ak
        obtain ⟨d, H1⟩ := r
        have h1 : q ∈ H1.ms := by rw [show H1.ms = _ from ak]; simp [hq]
        cases d with
        | true => exact ih _ _ _ _ _ _ _ h q h1
        | false => exact ih _ _ _ _ _ _ _ h q h1
      · cases h
    | block id b =>
      simp only [evCode] at h
      split at h
      · rename_i j T1 H1 h1
        cases hj : Nat.beq j id with
        | true => simp only [hj, cond_true, Option.some.injEq, Prod.mk.injEq] at h; obtain ⟨_, _, rfl⟩ := h; exact ih _ _ _ _ _ _ _ h1 q hq
        | false => simp only [hj, cond_false, Option.some.injEq, Prod.mk.injEq] at h; obtain ⟨_, _, rfl⟩ := h; exact ih _ _ _ _ _ _ _ h1 q hq
      · exact ih _ _ _ _ _ _ _ h q hq
    | loop b =>
      simp only [evCode] at h
      split at h
      · exact Ann.run_ms h q hq
      · split at h
        · rename_i T1 H1 h1
          exact ih _ _ _ _ _ _ _ h q (ih _ _ _ _ _ _ _ h1 q hq)
        · exact ih _ _ _ _ _ _ _ h q hq
    | scope b => simp only [evCode] at h; exact ih _ _ _ _ _ _ _ h q hq
    | rangeFunc f ps x y => simp [evCode] at h
    | goto l => simp [evCode] at h
    | refuse s => simp [evCode] at h

include hE hc hlo

theorem evCode_both : ∀ (n : Nat),
    (∀ (p : List Nat) (c : Code) (T T' : Tr AV) (H H' : Hs) (e : AEx), subC p.reverse c0 = some c → evCode E call lo N n p c T H = some (e, T', H') → (∀ q ∈ H'.ms, q) → ∀ (γ : Gm) (a : Act) (w : World), FRel γ E.ng T N a → HRel γ H.m.get H.nx w →
      c.wp P (fun x a' w' => x = AEx.den e ∧ ∃ γ', FRel γ' E.ng T' N a' ∧ RunR γ H w γ' H' w') a w) ∧
    (∀ (p : List Nat) (b : Code) (T T' : Tr AV) (H H' : Hs) (e : AEx), subC p.reverse c0 = some (.loop b) → lo p = none → evCode E call lo N n p (.loop b) T H = some (e, T', H') → (∀ q ∈ H'.ms, q) → ∀ (γ : Gm) (a : Act) (w : World), FRel γ E.ng T N a → HRel γ H.m.get H.nx w →
      ∀ (bf : Frame) (k : List Item) (cs : List Frame), ∃ x a' w', (x = AEx.den e ∧ ∃ γ', FRel γ' E.ng T' N a' ∧ RunR γ H w γ' H' w') ∧ Arrives P (lone (bf.at a (.code b :: .inLoop b :: k)) cs w) bf k cs x a' w') := by
  intro n
  induction n with
  | zero => exact ⟨fun p c T T' H H' e _ h => by simp [evCode] at h, fun p c T T' H H' e _ _ h => by simp [evCode] at h⟩
  | succ n ihb =>
    obtain ⟨ih, ihl⟩ := ihb
    have snoc : ∀ (p : List Nat) (i : Nat) (c c' : Code), subC p.reverse c0 = some c → subC [i] c = some c' → subC (i :: p).reverse c0 = some c' := by
      intro p i c c' h1 h2
      rw [List.reverse_cons, subC_append, h1]
      exact h2
    have hloop : ∀ (p : List Nat) (b : Code) (T T' : Tr AV) (H H' : Hs) (e : AEx), subC p.reverse c0 = some (.loop b) → lo p = none → evCode E call lo N (n + 1) p (.loop b) T H = some (e, T', H') → (∀ q ∈ H'.ms, q) → ∀ (γ : Gm) (a : Act) (w : World), FRel γ E.ng T N a → HRel γ H.m.get H.nx w →
      ∀ (bf : Frame) (k : List Item) (cs : List Frame), ∃ x a' w', (x = AEx.den e ∧ ∃ γ', FRel γ' E.ng T' N a' ∧ RunR γ H w γ' H' w') ∧ Arrives P (lone (bf.at a (.code b :: .inLoop b :: k)) cs w) bf k cs x a' w' := by
      intro p b T T' H H' e hp hlp h hm γ a w hf hr bf k cs
      have hpb : subC (0 :: p).reverse c0 = some b := snoc p 0 _ _ hp (by cases b <;> rfl)
      simp only [evCode, hlp] at h
      split at h
      · rename_i T1 H1 h1
        obtain ⟨x1, a1, w1, ⟨rfl, γ1, hf1, hrun1⟩, harr⟩ := ih (0 :: p) b T T1 H H1 .normal hpb h1 (fun q hq => hm q (evCode_ms hc _ _ _ _ _ _ _ _ h q hq)) γ a w hf hr bf (.inLoop b :: k) cs
        obtain ⟨x2, a2, w2, ⟨rfl, γ2, hf2, hrun2⟩, harr2⟩ := ihl p b T1 T' H1 H' e hp hlp h hm γ1 a1 w1 hf1 hrun1.stp.rel bf k cs
        exact ⟨_, a2, w2, ⟨rfl, γ2, hf2, hrun1.trans hrun2⟩, .of_steps (Steps.trans harr (.one step_inLoop)) harr2⟩
      · rename_i hne
        obtain ⟨x1, a1, w1, ⟨rfl, hx⟩, harr⟩ := ih (0 :: p) b T T' H H' e hpb h hm γ a w hf hr bf (.inLoop b :: k) cs
        refine ⟨_, a1, w1, ⟨rfl, hx⟩, ?_⟩
        cases e with
        | normal => exact (hne T' H' h).elim
        | exit j => exact .pass (x := .inLoop b) rfl (fun _ _ => .inl (by simp [AEx.den])) harr
        | ret => exact .pass (x := .inLoop b) rfl (fun _ _ => .inl (by simp [AEx.den])) harr
    refine ⟨?_, hloop⟩
    intro p c T T' H H' e hp h hm γ a w hf hr
    cases c with
    | skip =>
      simp only [evCode, Option.some.injEq, Prod.mk.injEq] at h
      obtain ⟨rfl, rfl, rfl⟩ := h
      exact wp_skip ⟨rfl, γ, hf, RunR.refl hr⟩
    | label l =>
      simp only [evCode, Option.some.injEq, Prod.mk.injEq] at h
      obtain ⟨rfl, rfl, rfl⟩ := h
      exact wp_label ⟨rfl, γ, hf, RunR.refl hr⟩
    | exit id =>
      simp only [evCode, Option.some.injEq, Prod.mk.injEq] at h
      obtain ⟨rfl, rfl, rfl⟩ := h
      exact wp_exit ⟨rfl, γ, hf, RunR.refl hr⟩
    | ret =>
      simp only [evCode, Option.some.injEq, Prod.mk.injEq] at h
      obtain ⟨rfl, rfl, rfl⟩ := h
      exact wp_ret ⟨rfl, γ, hf, RunR.refl hr⟩
    | region id ops draw =>
      cases draw with
      | false =>
        simp only [evCode] at h
        split at h
        · cases h
        · rename_i T1 H1 h1
          cases h
          exact wp_region (evOps_ok hE hc ops.toList (List.range ops.size) (range_all ops) T T' H H' h1 hm γ a w hf hr (fun a' w' γ' h1 h2 => ⟨rfl, γ', h1, h2⟩))
      | true =>
        simp only [evCode] at h
        split at h
        · cases h
        · rename_i T1 H1 h1
          cases h
          exact evDraw_ok hE hc h1 hm hf hr (fun a' w' γ' h1 h2 => ⟨rfl, γ', h1, h2⟩)
    | seq x y =>
      simp only [evCode] at h
      split at h
      · rename_i T1 H1 h1
        refine wp_seq (wp_mono (ih (0 :: p) x T T1 H H1 .normal (snoc p 0 _ _ hp (by cases x <;> rfl)) h1 (fun q hq => hm q (evCode_ms hc _ _ _ _ _ _ _ _ h q hq)) γ a w hf hr) ?_)
        rintro x' a' w' ⟨rfl, γ', hf', hrun⟩
        refine wp_mono (ih (1 :: p) y T1 T' H1 H' e (snoc p 1 _ _ hp (by cases y <;> rfl)) h hm γ' a' w' hf' hrun.stp.rel) ?_
        rintro x'' a'' w'' ⟨rfl, γ'', hf'', hrun'⟩
        exact ⟨rfl, γ'', hf'', hrun.trans hrun'⟩
      · rename_i hne
        refine wp_seq (wp_mono (ih (0 :: p) x T T' H H' e (snoc p 0 _ _ hp (by cases x <;> rfl)) h hm γ a w hf hr) ?_)
        rintro x' a' w' ⟨rfl, hx⟩
        cases e with
        | normal => exact (hne T' H' h).elim
        | exit id => exact ⟨rfl, hx⟩
        | ret => exact ⟨rfl, hx⟩
    | cond x y z =>
      simp only [evCode] at h
      split at h
      · rename_i hx
        have hv := evo_ok hf _ _ hx
        generalize hX : a.eval x = X at hv
        cases hv
        exact wp_cond_true hX (ih (0 :: p) y T T' H H' e (snoc p 0 _ _ hp (by cases y <;> rfl)) h hm γ a w hf hr)
      · rename_i hx
        have hv := evo_ok hf _ _ hx
        generalize hX : a.eval x = X at hv
        cases hv
        exact wp_cond_false hX (ih (1 :: p) z T T' H H' e (snoc p 1 _ _ hp (by cases z <;> rfl)) h hm γ a w hf hr)
      · rename_i u hx
        have hv := evo_ok hf _ _ hx
        generalize hX : a.eval x = X at hv
        cases hv
        have ak := ask_ms H u
        have am := ask_m H u
        have an := ask_nx H u
        generalize H.ask u = r at h ak am an
        obtain ⟨d, H1⟩ := r
        have hr1 : HRel γ H1.m.get H1.nx w := by rw [show H1.m = _ from am, show H1.nx = _ from an]; exact hr
        have back : ∀ {γ' : Gm} {w' : World}, RunR γ H1 w γ' H' w' → RunR γ H w γ' H' w' := by
          intro γ' w' hR
          refine ⟨?_, ?_, fun b hb => hR.keep b (by rw [show H1.nx = _ from an]; exact hb)⟩
          · have := hR.stp; rw [show H1.m = _ from am] at this; exact this
          · have := hR.nx; rw [show H1.nx = _ from an] at this; exact this
        have hu : u = d := hm (Dec u d) (by
          cases d with
          | true => exact evCode_ms hc _ _ _ _ _ _ _ _ h _ (by rw [show H1.ms = _ from ak]; simp)
          | false => exact evCode_ms hc _ _ _ _ _ _ _ _ h _ (by rw [show H1.ms = _ from ak]; simp))
        subst hu
        cases u with
        | true =>
          refine wp_cond_true hX (wp_mono (ih (0 :: p) y T T' H1 H' e (snoc p 0 _ _ hp (by cases y <;> rfl)) h hm γ a w hf hr1) ?_)
          rintro x' a' w' ⟨rfl, γ', g1, g2⟩
          exact ⟨rfl, γ', g1, back g2⟩
        | false =>
          refine wp_cond_false hX (wp_mono (ih (1 :: p) z T T' H1 H' e (snoc p 1 _ _ hp (by cases z <;> rfl)) h hm γ a w hf hr1) ?_)
          rintro x' a' w' ⟨rfl, γ', g1, g2⟩
          exact ⟨rfl, γ', g1, back g2⟩
      · cases h
    | block id b =>
      simp only [evCode] at h
      split at h
      · rename_i j T1 H1 h1
        cases hj : Nat.beq j id with
        | true =>
          simp only [hj, cond_true, Option.some.injEq, Prod.mk.injEq] at h
          obtain ⟨rfl, rfl, rfl⟩ := h
          refine wp_block (wp_mono (ih (0 :: p) b T T1 H H1 (.exit j) (snoc p 0 _ _ hp (by cases b <;> rfl)) h1 hm γ a w hf hr) ?_)
          rintro x' a' w' ⟨rfl, hx⟩
          show (if j = id then _ else _)
          rw [if_pos (beq_eq hj)]
          exact ⟨rfl, hx⟩
        | false =>
          simp only [hj, cond_false, Option.some.injEq, Prod.mk.injEq] at h
          obtain ⟨rfl, rfl, rfl⟩ := h
          refine wp_block (wp_mono (ih (0 :: p) b T T1 H H1 (.exit j) (snoc p 0 _ _ hp (by cases b <;> rfl)) h1 hm γ a w hf hr) ?_)
          rintro x' a' w' ⟨rfl, hx⟩
          show (if j = id then _ else _)
          rw [if_neg (beq_ne hj)]
          exact ⟨rfl, hx⟩
      · rename_i hne
        refine wp_block (wp_mono (ih (0 :: p) b T T' H H' e (snoc p 0 _ _ hp (by cases b <;> rfl)) h hm γ a w hf hr) ?_)
        rintro x' a' w' ⟨rfl, hx⟩
        cases e with
        | normal => exact ⟨rfl, hx⟩
        | exit j => exact (hne j T' H' h).elim
        | ret => exact ⟨rfl, hx⟩
    | loop b =>
      cases hlp : lo p with
      | some A =>
        simp only [evCode, hlp] at h
        exact Ann.run_ok (hlo p A b hlp hp) h hm hf hr
      | none =>
        intro bf k cs
        obtain ⟨x, a', w', hx, harr⟩ := hloop p b T T' H H' e hp hlp h hm γ a w hf hr bf k cs
        exact ⟨x, a', w', hx, .of_steps (.one step_loop) harr⟩
    | scope b =>
      simp only [evCode] at h
      refine wp_scope_straight (wp_mono (ih (0 :: p) b T T' H H' e (snoc p 0 _ _ hp (by cases b <;> rfl)) h hm γ a w hf hr) ?_)
      rintro x' a' w' ⟨rfl, hx⟩
      cases e <;> exact ⟨rfl, hx⟩
    | rangeFunc f ps x y => simp [evCode] at h
    | goto l => simp [evCode] at h
    | refuse s => simp [evCode] at h
end

theorem resA_ok {P : Program} {ti : Tr TypeInfo} (ht : TabOk P ti) {γ : Gm} {ng N nx : Nat} {T : Tr AV} {a : Act} {m : Tr Blk} {w : World} (hf : FRel γ ng T N a) (hr : HRel γ m.get nx w) : ∀ (l : List ResultVar) (vs : List AV), resA ti T m l = some vs →
    ∃ Vs, (l.mapM (fun | ResultVar.tmp t => pure (a.tmps.getD t undef) | ResultVar.cell ad t => do loadVar t (← asAddr (a.tmps.getD ad undef)) : ResultVar → Sem Value)).run P w = .ok Vs w ∧ VsRel γ vs Vs := by
  intro l
  induction l with
  | nil =>
    intro vs h
    simp only [resA, Option.some.injEq] at h
    subst h
    exact ⟨[], rfl, .nil⟩
  | cons r l ih =>
    intro vs h
    cases r with
    | tmp t =>
      simp only [resA] at h
      split at h
      · cases h
      · rename_i v hTv
        split at h
        · cases h
        · rename_i us hus
          cases h
          obtain ⟨Vs, h1, h2⟩ := ih us hus
          refine ⟨a.tmps.getD t undef :: Vs, ?_, .cons (hf.tmp t v hTv) h2⟩
          rw [List.mapM_cons]
          simp only [Sem.run_bind, Sem.run_pure, Result.andThen_ok, h1]
    | cell ad t =>
      simp only [resA] at h
      split at h
      · cases h
      · rename_i x hTx
        split at h
        · cases h
        · rename_i v hv
          split at h
          · cases h
          · rename_i us hus
            cases h
            obtain ⟨Vs, h1, h2⟩ := ih us hus
            obtain ⟨V, adr, g1, g2, g3⟩ := qLoad_ok (P := P) ht hr (hf.tmp ad x hTx) hv
            have hadr : (asAddr (a.tmps.getD ad undef)).run P w = .ok adr w := by rw [g1]; rfl
            refine ⟨V :: Vs, ?_, .cons g3 h2⟩
            rw [List.mapM_cons]
            simp only [Sem.run_bind, hadr, Sem.run_pure, Result.andThen_ok, g2, h1]

theorem tupA_ok {γ : Gm} {vs : List AV} {Vs : List Value} (h : VsRel γ vs Vs) : VRel γ (tupA vs) (if hs : Vs.toArray.size = 1 then Vs.toArray[0] else .tuple Vs.toArray) := by
  cases h with
  | nil => exact .tup .nil
  | cons hv ht =>
    cases ht with
    | nil => exact hv
    | cons hv' ht' =>
      rename_i v V v2 V2 vs' Vs'
      have : ¬ ((V :: V2 :: Vs').toArray.size = 1) := by simp
      rw [dif_neg this]
      exact .tup (.cons hv (.cons hv' ht'))

theorem args_get {γ : Gm} {args : List AV} {Args : List Value} (h : VsRel γ args Args) (hl : args.length < 1000000) (n t : Nat) {v : AV} (hv : (Tr.ofList args).get t = some v) : VRel γ v ((Args.toArray ++ Array.replicate n undef).getD t undef) := by
  rw [Tr.get_ofList args hl] at hv
  rcases h.get t with ⟨h1, h2⟩ | ⟨u, U, h1, h2, h3⟩
  · rw [h1] at hv; cases hv
  · rw [h1] at hv
    cases hv
    have hlt : t < Args.length := by
      rcases Nat.lt_or_ge t Args.length with h' | h'
      · exact h'
      · rw [List.getElem?_eq_none h'] at h2; cases h2
    have : (Args.toArray ++ Array.replicate n undef).getD t undef = U := by
      simp only [Array.getD_eq_getD_getElem?]
      rw [Array.getElem?_append_left (by simpa using hlt)]
      simp [h2]
    rw [this]
    exact h3

theorem bodyF_ok {P : Program} {E : Env} (hE : EnvOk P E) {call : CallF} (hcall : CallOk P E.ng call) {lo : List Nat → Option Ann} {f : Nat} {args : List AV} (hlo : ∀ fn c, P.funcs[f]? = some fn → fn.body = some c → LoOk P E.ng (Nat.max args.length fn.ntmps) lo c) {H H' : Hs} {v : AV} (h : bodyF E call lo f args H = some (v, H')) :
    (∀ p ∈ H.ms, p ∈ H'.ms) ∧ ((∀ p ∈ H'.ms, p) → ∀ γ w Args, HRel γ H.m.get H.nx w → VsRel γ args Args → Glob E.ng γ →
    (∃ fn, P.funcs[f]? = some fn ∧ fn.body.isSome = true) ∧
    Calls P f Args.toArray w fun e w' => ∃ V γ', e = .returned V ∧ VRel γ' v V ∧ RunR γ H w γ' H' w') := by
  unfold bodyF at h
  split at h
  · cases h
  · rename_i fn hfn
    rw [hE.fs f] at hfn
    split at h
    · cases h
    · rename_i c hc
      cases hlen : Nat.blt args.length 1000 with
      | false => simp [hlen] at h
      | true =>
        have hlen' : args.length < 1000 := Nat.le_of_ble_eq_true hlen
        simp only [hlen, Bool.not_true, cond_false] at h
        split at h
        · cases h
        · rename_i ex T H1 hne hcode
          split at h
          · cases h
          · rename_i vs hvs
            cases h
            refine ⟨evCode_ms hcall _ _ _ _ _ _ _ _ hcode, fun hm γ w Args hr hA hg => ?_⟩
            refine ⟨⟨fn, hfn, by rw [hc]; rfl⟩, ?_⟩
            have hl := hA.length
            have hN : (Args.toArray ++ Array.replicate (fn.ntmps - Args.toArray.size) undef).size = Nat.max args.length fn.ntmps := by
              simp only [Array.size_append, List.size_toArray, Array.size_replicate, hl]
              show _ = max args.length fn.ntmps
              omega
            refine calls_of_wp hfn hc ?_
            have hf : FRel γ E.ng (Tr.ofList args) (Nat.max args.length fn.ntmps) { tmps := Args.toArray ++ Array.replicate (fn.ntmps - Args.toArray.size) undef, defers := [] } :=
              ⟨rfl, hN, fun t v hv => args_get hA (by omega) _ t hv, hg⟩
            refine wp_mono ((evCode_both hE hcall (hlo fn c hfn hc) _).1 [] c _ T H H' ex (by cases c <;> rfl) hcode hm γ _ w hf hr) ?_
            rintro x a' w' ⟨rfl, γ', hf', hrun⟩
            obtain ⟨Vs, h1, h2⟩ := resA_ok (P := P) hE.ti hf' hrun.stp.rel fn.results.toList vs hvs
            have hres : (results fn a'.tmps).run P w' = .ok (if hs : Vs.toArray.size = 1 then Vs.toArray[0] else .tuple Vs.toArray) w' := by
              unfold results
              rw [Array.mapM_eq_mapM_toList]
              simp only [Sem.run_bind, Sem.run_map, Sem.run_pure]
              exact congrArg (fun r : Result (List Value) => (r.andThen fun a w' => Result.ok a.toArray w').andThen fun a w' => Result.ok (if h : a.size = 1 then a[0] else Value.tuple a) w') h1
            have hpost : ∃ V, (results fn a'.tmps).run P w' = .ok V w' ∧ ∃ V' γ'', Ending.returned V = .returned V' ∧ VRel γ'' (tupA vs) V' ∧ RunR γ H w γ'' H' w' := ⟨_, hres, _, γ', rfl, tupA_ok h2, hrun⟩
            cases ex with
            | normal => exact ⟨hf'.defers, hpost⟩
            | ret => exact ⟨hf'.defers, hpost⟩
            | exit id => exact (hne id rfl).elim
        · cases h

theorem callF_ok {P : Program} {E : Env} (hE : EnvOk P E) {orc : CallF} (ho : CallOk P E.ng orc) : ∀ n, CallOk P E.ng (callF E orc n) := by
  intro n
  induction n with
  | zero => intro f args H v H' h; simp [callF] at h
  | succ n ih =>
    intro f args H v H' h
    simp only [callF] at h
    split at h
    · rename_i r hr'
      cases h
      exact ho f args H v H' hr'
    · exact bodyF_ok hE ih (fun _ _ _ _ => noLo_ok _ _ _ _) h

end Go.QfSy
