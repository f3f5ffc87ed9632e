/- A function that is run through with annotations of its own, as an oracle; pure calls with other arguments. -/
import Derived.Test.YtejmmglffmckeaaGreatDoorZR
set_option linter.unusedSimpArgs false
set_option linter.unusedVariables false
namespace Go.QfSy
open Go.RowKit

def orcB (E : Env) (call : CallF) (f0 n0 : Nat) (l : List (List Nat × Ann)) (orc : CallF) : CallF := fun f args H =>
  bif Nat.beq f f0 && Nat.beq args.length n0 then bodyF E call (loL l) f args H else orc f args H

theorem orcB_ok {P : Program} {E : Env} (hE : EnvOk P E) {call : CallF} (hcall : CallOk P E.ng call) {f0 n0 : Nat} {fn : Func} (hf : P.funcs[f0]? = some fn) {l : List (List Nat × Ann)} (hl : ∀ x ∈ l, AnnOk P E.ng (Nat.max n0 fn.ntmps) (bodyAt fn x.1) x.2) {orc : CallF} (ho : CallOk P E.ng orc) : CallOk P E.ng (orcB E call f0 n0 l orc) := by
  intro f args H v H' h
  unfold orcB at h
  cases hb : (Nat.beq f f0 && Nat.beq args.length n0) with
  | false => rw [hb] at h; exact ho f args H v H' h
  | true =>
    rw [hb] at h
    simp only [cond_true] at h
    simp only [Bool.and_eq_true] at hb
    have h1 := Nat.eq_of_beq_eq_true hb.1
    have h2 := Nat.eq_of_beq_eq_true hb.2
    subst h1
    subst h2
    exact bodyF_ok hE hcall (fun fn' c h1 h2 => by
      rw [hf] at h1
      cases h1
      exact loL_ok h2 hl) h

theorem RRel.rows {F : Fz} {n sz : Nat} {row row' : Nat → List RV} (h : ∀ i, i < n → row i = row' i) {V : Value} (k : RRel F (.sl n sz row) V) : RRel F (.sl n sz row') V := by
  cases k with
  | sl0 sz row a c hn => exact .sl0 sz _ a c hn
  | sl cs hc hl hf hr => exact .sl cs hc hl hf (fun i hi => h i hi ▸ hr i hi)

theorem PureC.args {P : Program} {tabs : List Tb} {f : Nat} {A A' : List RV} {R : RV} (h : PureC P tabs f A' R) (ha : ∀ F Args, RsRel F A Args → RsRel F A' Args) : PureC P tabs f A R :=
  ⟨h.1, fun w F Args ht hF hr => h.2 w F Args ht hF (ha F Args hr)⟩

theorem ofR_rvs (c : Con) : Con.ofR c.rvs = c := rfl
theorem consR_ro (L : List Con) : consR L.length (fun i => (L.getD i Con.zero).rvs) = L := by
  apply List.ext_getElem
  · simp [consR]
  · intro i h1 h2
    simp [consR, ofR_rvs, h2]
theorem roC_ro {n : Nat} {row : Nat → List RV} (h : ∀ i, i < n → row i = (Con.ofR (row i)).rvs) {F : Fz} {V : Value} (k : RRel F (.sl n 5 row) V) : RRel F (roC (consR n row)) V := by
  unfold roC
  have hn : (consR n row).length = n := by simp [consR]
  rw [hn]
  refine k.rows (fun i hi => ?_)
  rw [h i hi]
  congr 1
  simp [consR, hi]
/-- functions at the end of the arguments -/
def fnsA (gs : List Nat) : List AV := gs.map fun g => .fn g []
def fnsV (gs : List Nat) : List Value := gs.map fun g => .func (.func g) #[] #[]
theorem fns_rel (γ : Gm) : ∀ gs, VsRel γ (fnsA gs) (fnsV gs)
  | [] => .nil
  | g :: gs => .cons (.fn g .nil) (fns_rel γ gs)
theorem fns_eq {γ : Gm} : ∀ {gs : List Nat} {Vs : List Value}, VsRel γ (fnsA gs) Vs → Vs = fnsV gs
  | [], Vs, h => by cases h; rfl
  | g :: gs, Vs, h => by
    cases h with
    | cons h t =>
      rw [fns_eq t]
      cases h with
      | fn _ k => cases k; rfl
theorem VsRel.split {γ : Gm} : ∀ {us vs : List AV} {Vs : List Value}, VsRel γ (us ++ vs) Vs → ∃ V1 V2, Vs = V1 ++ V2 ∧ VsRel γ us V1 ∧ VsRel γ vs V2
  | [], vs, Vs, h => ⟨[], Vs, rfl, .nil, h⟩
  | u :: us, vs, Vs, h => by
    cases h with
    | cons h t =>
      obtain ⟨V1, V2, rfl, h1, h2⟩ := VsRel.split t
      exact ⟨_ :: V1, V2, rfl, .cons h h1, h2⟩
def beqFns : List AV → List Nat → Bool
  | [], [] => true
  | .fn f [] :: l, g :: gs => Nat.beq f g && beqFns l gs
  | _, _ => false
theorem beqFns_eq : ∀ {l : List AV} {gs : List Nat}, beqFns l gs = true → l = fnsA gs
  | l, gs, h => by
    unfold beqFns at h
    split at h
    · rfl
    · obtain ⟨h1, h2⟩ := and_split h
      rw [Nat.eq_of_beq_eq_true h1, beqFns_eq h2]
      rfl
    · cases h

/-- as PureC, with functions behind the arguments -/
def PureX (P : Program) (tabs : List Tb) (f : Nat) (gs : List Nat) (A : List RV) (R : RV) : Prop :=
  (∃ fn, P.funcs[f]? = some fn ∧ fn.body.isSome = true) ∧
  ∀ (w : World) (F : Fz) (Args : List Value), TabW tabs w → Vld F w → RsRel F A Args →
    Calls P f (Args ++ fnsV gs).toArray w fun e w' => ∃ V F', e = .returned V ∧ F.le F' ∧ Vld F' w' ∧ (∀ B x, F' B = some x → F B = some x ∨ w.heap.size ≤ B) ∧ RRel F' R V ∧ Below w.heap.size w w'

theorem pureX_of_run {P : Program} {E : Env} (hE : EnvOk P E) {call : CallF} (hcall : CallOk P E.ng call) {lo : List Nat → Option Ann} {f : Nat} {A : List RV} {gs : List Nat} (hlo : ∀ fn c, P.funcs[f]? = some fn → fn.body = some c → LoOk P E.ng (Nat.max (RV.avl A ++ fnsA gs).length fn.ntmps) lo c) {tabs : List Tb} (hg : tabs.all (fun t => Nat.blt t.g E.ng) = true) (hok : okNames (tabList tabs) = true) (hng : Nat.ble E.ng 1000 = true)
    {R : RV} {tp : List Bool} {ms : List Prop} (h : outR (bodyF E call lo f (RV.avl A ++ fnsA gs) ⟨trOf (tabList tabs), 1000, tp, []⟩) R = some ms) (hm : allP ms) : PureX P tabs f gs A R := by
  unfold outR at h
  split at h
  · cases h
  · rename_i v H' hrun
    split at h
    · cases h
    · rename_i m1 hrd
      cases h
      rw [allP_iff] at hm
      obtain ⟨hm1, hm2⟩ := split2 hm
      have hb := (bodyF_ok hE hcall hlo hrun).2 hm2
      have hng := Nat.le_of_ble_eq_true hng
      refine ⟨?_, fun w F Args hT hF hA => ?_⟩
      · have hb0 := bodyF_ok hE hcall hlo hrun
        unfold bodyF at hrun
        split at hrun
        · cases hrun
        · rename_i fn hfn
          rw [hE.fs f] at hfn
          split at hrun
          · cases hrun
          · rename_i c hc
            exact ⟨fn, hfn, by rw [hc]; rfl⟩
      · obtain ⟨_, hcalls⟩ := hb (gam0 E.ng F) w (Args ++ fnsV gs) (hrel0 hT hF hng hg hok) (VsRel.append (RsRel.avl (γ := gam0 E.ng F) hA) (fns_rel _ gs)) (fun g hg' => by simp [gam0, hg'])
        refine hcalls.mono ?_
        rintro e w' ⟨V, γ', rfl, hV, hR⟩
        have hbel : Below w.heap.size w w' := ⟨hR.stp.os, hR.stp.tape, hR.stp.output, hR.stp.size, fun k hk => hR.stp.frame k hk (noOwn0 hok k)⟩
        let F' : Fz := fun B => match γ'.fz B with
          | some x => some x
          | none => if w.heap.size ≤ B then w'.heap[B]? else none
        have hle : γ'.fz.le F' := by intro B x hx; simp only [F', hx]
        refine ⟨V, F', rfl, fun B x hx => hle B x (hR.stp.le.fz B x hx), ?_, ?_, ?_, hbel⟩
        · intro B x hx
          simp only [F'] at hx
          split at hx
          · rename_i y hy; cases hx; exact hR.stp.rel.fzr B x hy
          · split at hx
            · exact hx
            · cases hx
        · intro B x hx
          simp only [F'] at hx
          split at hx
          · rename_i y hy
            cases hx
            rcases hR.stp.fzn B x hy with h1 | h1 | h1
            · exact .inl h1
            · exact .inr h1
            · exact (noOwn0 hok B h1).elim
          · split at hx
            · rename_i hB; exact .inr hB
            · cases hx
        · refine rd_ok hR.stp.rel hle (fun b k B x y hk hown hgb hy => ?_) hrd hm1 hV
          have hz := hR.stp.rel.fzo b k B x hk hown hgb
          simp only [F', hz]
          rw [if_pos, hy]
          rcases Nat.lt_or_ge B w.heap.size with h1 | h1
          · exact (noOwn0 hok B (hR.stp.own B h1 ⟨b, k, x, hk, hown, hgb⟩)).elim
          · exact h1

theorem pureX_run {P : Program} {E : Env} (hE : EnvOk P E) {call : CallF} (hcall : CallOk P E.ng call) {f : Nat} {fn : Func} (hf : P.funcs[f]? = some fn) {A : List RV} {gs : List Nat} {N : Nat} (hN : N = Nat.max (RV.avl A ++ fnsA gs).length fn.ntmps) {l : List (List Nat × Ann)} (hl : ∀ x ∈ l, AnnOk P E.ng N (bodyAt fn x.1) x.2) {tabs : List Tb} (hg : tabs.all (fun t => Nat.blt t.g E.ng) = true) (hok : okNames (tabList tabs) = true) (hng : Nat.ble E.ng 1000 = true)
    {R : RV} {tp : List Bool} {ms : List Prop} (h : outR (bodyF E call (loL l) f (RV.avl A ++ fnsA gs) ⟨trOf (tabList tabs), 1000, tp, []⟩) R = some ms) (hm : allP ms) : PureX P tabs f gs A R :=
  pureX_of_run hE hcall (fun fn' c h1 h2 => by
    rw [hf] at h1
    cases h1
    subst hN
    exact loL_ok h2 hl) hg hok hng h hm

/-- such a call as an oracle -/
def orcX (ng : Nat) (f0 na : Nat) (gs : List Nat) (tabs : List Tb) (go : List RV → Option (RV × List Prop)) (orc : CallF) : CallF := fun f args H =>
  bif Nat.beq f f0 && beqFns (args.drop na) gs then (match rvsOf H.m (args.take na) with
    | none => none
    | some (A, s, m1) => match go A with
      | none => none
      | some (R, m2) => bif (!s || R.flatV) && tabs.all (fun t => Nat.blt t.g ng && hasTab H.m t) then some (R.av, H.must (m1 ++ m2)) else none)
  else orc f args H
theorem orcX_ok {P : Program} {ng f0 na : Nat} {gs : List Nat} {tabs : List Tb} {go : List RV → Option (RV × List Prop)} (he : ∀ A R ms, go A = some (R, ms) → (∀ p ∈ ms, p) → PureX P tabs f0 gs A R) {orc : CallF} (ho : CallOk P ng orc) : CallOk P ng (orcX ng f0 na gs tabs go orc) := by
  intro f args H v H' h
  unfold orcX at h
  cases hb0 : (Nat.beq f f0 && beqFns (args.drop na) gs) with
  | false => rw [hb0] at h; exact ho f args H v H' h
  | true =>
    rw [hb0] at h
    simp only [cond_true] at h
    obtain ⟨h1, h2⟩ := and_split hb0
    have h1 := Nat.eq_of_beq_eq_true h1
    have h2 := beqFns_eq h2
    subst h1
    have hargs : args = args.take na ++ fnsA gs := by rw [← h2]; exact (List.take_append_drop na args).symm
    rw [hargs]
    generalize args.take na = args1 at h
    clear hargs h2
    split at h
    · cases h
    · rename_i A s m1 hA
      split at h
      · cases h
      · rename_i R m2 hgo
        have hb := (bif_some h).1
        replace h := (bif_some h).2
        cases h
        refine ⟨fun p hp => by simp [Hs.must, hp], fun hm γ w Args hr hV0 hg => ?_⟩
        obtain ⟨Args1, Args2, rfl, hV, hV2⟩ := VsRel.split hV0
        obtain rfl := fns_eq hV2
        obtain ⟨hb1, hb2⟩ := and_split hb
        have hm12 : ∀ p ∈ m1 ++ m2, p := fun p hp => hm p (by simp only [Hs.must]; exact List.mem_append_left _ hp)
        obtain ⟨hm1, hm2⟩ := split2 hm12
        obtain ⟨hfn, hpure⟩ := he A R m2 hgo hm2
        refine ⟨hfn, ?_⟩
        have hT : TabW tabs w := by
          intro t ht
          obtain ⟨q1, q2⟩ := and_split (List.all_eq_true.1 hb2 t ht)
          exact hasTab_ok hr hg (Nat.le_of_ble_eq_true q1) q2
        cases s with
        | false =>
          have hRs := rvsOf_ok hr (F := γ.fz) (fun _ _ h => h) (fun h => by cases h) hA hm1 hV
          refine (hpure w γ.fz Args1 hT hr.fzr hRs).mono ?_
          rintro x w' ⟨V, F', rfl, hle, hvld, hnew, hR, hbel⟩
          refine ⟨V, ⟨γ.nm, F'⟩, rfl, RRel.av (γ := ⟨γ.nm, F'⟩) hR, ?_, Nat.le_refl _, fun _ _ => rfl⟩
          have hγ : γ.le ⟨γ.nm, F'⟩ := ⟨fun _ _ h => h, hle⟩
          refine ⟨hγ, ⟨fun b k hb => ?_, hr.inj, hr.fresh, hvld, fun b k B x hb ho hgb => ?_⟩, hbel.size, hbel.os, hbel.tape, hbel.output, fun k hk _ => hbel.block k hk, fun k _ ho => ho, fun b k hb _ => hb, fun b k hb => .inl ⟨k, hb⟩, fun B x hB => ?_⟩
          · obtain ⟨B, x, cs, ex, g1, g2, g3, g4⟩ := hr.blk b k hb
            exact ⟨B, x, cs, ex, g1, by rw [hbel.block B (hr.lt hb g1)]; exact g2, g3.mono hγ, g4⟩
          · cases hz : F' B with
            | none => exact hz
            | some y =>
              rcases hnew B y hz with h1 | h1
              · rw [hr.fzo b k B x hb ho hgb] at h1; cases h1
              · exact absurd (hr.lt hb hgb) (by omega)
          · rcases hnew B x hB with h1 | h1
            · exact .inl h1
            · exact .inr (.inl h1)
        | true =>
          have hfl : R.flatV = true := by simpa using hb1
          have hRs := rvsOf_ok hr (F := fun B => w.heap[B]?) (fun B x h => hr.fzr B x h) (fun _ B y hy => hy) hA hm1 hV
          refine (hpure w (fun B => w.heap[B]?) Args1 hT (fun B x h => h) hRs).mono ?_
          rintro x w' ⟨V, F', rfl, hle, hvld, hnew, hR, hbel⟩
          refine ⟨V, γ, rfl, RRel.av (γ := γ) (hR.flat hfl), ?_, Nat.le_refl _, fun _ _ => rfl⟩
          refine ⟨Gm.le_refl γ, ⟨fun b k hb => ?_, hr.inj, hr.fresh, fun B x hB => ?_, hr.fzo⟩, hbel.size, hbel.os, hbel.tape, hbel.output, fun k hk _ => hbel.block k hk, fun k _ ho => ho, fun b k hb _ => hb, fun b k hb => .inl ⟨k, hb⟩, fun B x hB => .inl hB⟩
          · obtain ⟨B, x, cs, ex, g1, g2, g3, g4⟩ := hr.blk b k hb
            exact ⟨B, x, cs, ex, g1, by rw [hbel.block B (hr.lt hb g1)]; exact g2, g3, g4⟩
          · have h1 := hr.fzr B x hB
            rw [hbel.block B (Array.getElem?_eq_some_iff.1 h1).1]
            exact h1
end Go.QfSy
