/- Contracts of functions that only read what they are handed: from a run of the machine, and as oracles of other runs. -/
import Derived.Test.YtejmmglffmckeaaGreatDoorZO
set_option linter.unusedSimpArgs false
set_option linter.unusedVariables false
namespace Go.QfSy
open Go.RowKit

/- tables: rows of integers of one kind that are never written -/
structure Tb where
  g : Nat
  k : IntKind
  l : List Int
  el : Nat
def TabW (tabs : List Tb) (w : World) : Prop := ∀ t ∈ tabs, w.heap[t.g]? = some (.cells (t.l.map (Value.int t.k)).toArray t.el (0, 0))
def Tb.blk (t : Tb) : Blk := ⟨.plain (t.l.map (.int t.k)), t.el, 0, false, false⟩
def tabList (tabs : List Tb) : List (Nat × Blk) := tabs.map fun t => (t.g, t.blk)
theorem TabW.below {tabs : List Tb} {w w' : World} (h : TabW tabs w) (hb : Below w.heap.size w w') : TabW tabs w' := by
  intro t ht
  have h1 := h t ht
  rw [hb.block t.g (Array.getElem?_eq_some_iff.1 h1).1]
  exact h1

def Vld (F : Fz) (w : World) : Prop := ∀ B x, F B = some x → w.heap[B]? = some x
theorem Vld.below {F : Fz} {w w' : World} (h : Vld F w) (hb : Below w.heap.size w w') : Vld F w' := by
  intro B x hx
  have h1 := h B x hx
  rw [hb.block B (Array.getElem?_eq_some_iff.1 h1).1]
  exact h1

/- called with what reads as A, f returns what reads as R, and nothing that was there is changed -/
def PureC (P : Program) (tabs : List Tb) (f : Nat) (A : List RV) (R : RV) : Prop :=
  (∃ fn, P.funcs[f]? = some fn ∧ fn.body.isSome = true) ∧
  ∀ (w : World) (F : Fz) (Args : List Value), TabW tabs w → Vld F w → RsRel F A Args →
    Calls P f Args.toArray w fun e w' => ∃ V F', e = .returned V ∧ F.le F' ∧ Vld F' w' ∧ (∀ B x, F' B = some x → F B = some x ∨ w.heap.size ≤ B) ∧ RRel F' R V ∧ Below w.heap.size w w'

def gam0 (ng : Nat) (F : Fz) : Gm := ⟨fun b => if b < ng then some (b, 0) else none, F⟩

theorem tab_rel (γ : Gm) (k : IntKind) (l : List Int) : VsRel γ (l.map (AV.int k)) (l.map (Value.int k)) := by
  induction l with
  | nil => exact .nil
  | cons x l ih => exact .cons (.int _ _) ih
theorem tab_eq {γ : Gm} {k : IntKind} : ∀ {l : List Int} {cs : List Value}, VsRel γ (l.map (AV.int k)) cs → cs = l.map (Value.int k)
  | [], cs, h => by cases h; rfl
  | x :: l, cs, h => by
    cases h with
    | cons hv ht => cases hv; rw [tab_eq ht]; rfl

theorem hrel0 {ng nx : Nat} {tabs : List Tb} {F : Fz} {w : World} (h : TabW tabs w) (hF : Vld F w) (hn : ng ≤ nx) (hg : tabs.all (fun t => Nat.blt t.g ng) = true) (hok : okNames (tabList tabs) = true) : HRel (gam0 ng F) (trOf (tabList tabs)).get nx w := by
  have hmem : ∀ b k, (trOf (tabList tabs)).get b = some k → ∃ t ∈ tabs, b = t.g ∧ k = t.blk := by
    intro b k hb
    have := trOf_get _ _ _ hok hb
    unfold tabList at this
    obtain ⟨t, h1, h2⟩ := List.mem_map.1 this
    cases h2
    exact ⟨t, h1, rfl, rfl⟩
  have hlt : ∀ t ∈ tabs, t.g < ng := fun t ht => Nat.le_of_ble_eq_true (List.all_eq_true.1 hg t ht)
  refine ⟨fun b k hb => ?_, fun b b' k k' B x x' h1 h2 h3 h4 => ?_, fun b hb => ?_, hF, fun b k B x hb ho hg' => ?_⟩
  · obtain ⟨t, h1, rfl, rfl⟩ := hmem b k hb
    exact ⟨t.g, 0, t.l.map (Value.int t.k), [], by simp [gam0, hlt t h1], by simpa [Tb.blk] using h t h1, tab_rel _ _ _, by simp, fun _ => rfl⟩
  · simp only [gam0] at h3 h4
    split at h3
    · split at h4
      · cases h3; cases h4; rfl
      · cases h4
    · cases h3
  · simp only [gam0]
    rw [if_neg (by omega)]
  · obtain ⟨t, h1, rfl, rfl⟩ := hmem b k hb
    cases ho

theorem noOwn0 {ng : Nat} {tabs : List Tb} {F : Fz} (hok : okNames (tabList tabs) = true) (B : Nat) : ¬ OwnImg (gam0 ng F) (trOf (tabList tabs)).get B := by
  rintro ⟨b, kk, x, h1, h2, h3⟩
  have := trOf_get _ _ _ hok h1
  unfold tabList at this
  obtain ⟨t, _, h5⟩ := List.mem_map.1 this
  cases h5
  cases h2

/- what a result reads as -/
mutual
def rd (m : Tr Blk) : AV → RV → Option (List Prop)
  | .vint k a, .int k' b => bif decide (k = k') then some [a = b] else none
  | .int k a, .int k' b => bif decide (k = k') then some [a = b] else none
  | .vbool a, .bool b => some [a = b]
  | .bool a, .bool b => some [a = b]
  | .vstr a, .str b => some [a = b]
  | .str a, .str b => some [a = b]
  | .ro n z r, .sl n' z' r' => bif Nat.beq z z' then some [n = n' ∧ r = r'] else none
  | .nils, .sl n _ _ => some [n = 0]
  | .emp, .sl n _ _ => some [n = 0]
  | .zer, .sl n _ _ => some [n = 0]
  | .z0, .sl n _ _ => some [n = 0]
  | .lo b n, .sl n' z r => match m.get b with
    | none => none
    | some k => bif k.own then (match k.view with
      | .con L => bif Nat.beq z 5 then some [n = n' ∧ n = L.length ∧ ∀ i, i < n → r i = (L.getD i Con.zero).rvs] else none
      | .ints kk L => bif Nat.beq z 1 then some [n = n' ∧ n = L.length ∧ ∀ i, i < n → r i = [.int kk (L.getD i 0)]] else none
      | _ => none) else none
  | .agg vs, .agg rs => rds m vs rs
  | .tup vs, .tup rs => rds m vs rs
  | _, _ => none
def rds (m : Tr Blk) : List AV → List RV → Option (List Prop)
  | [], [] => some []
  | v :: vs, r :: rs => match rd m v r with
    | none => none
    | some m1 => match rds m vs rs with
      | none => none
      | some m2 => some (m1 ++ m2)
  | _, _ => none
end

theorem avs_rvs {γ : Gm} {F : Fz} {c : Con} {cs : List Value} (h : VsRel γ c.avs cs) : RsRel F c.rvs cs := by
  unfold Con.avs at h
  unfold Con.rvs
  cases h with | cons h1 h =>
  cases h with | cons h2 h =>
  cases h with | cons h3 h =>
  cases h with | cons h4 h =>
  cases h with | cons h5 h =>
  cases h
  cases h1; cases h2; cases h3; cases h4; cases h5
  exact .cons (.int _ _) (.cons (.int _ _) (.cons (.int _ _) (.cons (.bool _) (.cons (.int _ _) .nil))))

mutual
theorem rd_ok {γ : Gm} {h : Tr Blk} {nx : Nat} {w : World} (hr : HRel γ h.get nx w) {F : Fz} (hF : γ.fz.le F) (hO : ∀ b k B x y, h.get b = some k → k.own = true → γ b = some (B, x) → w.heap[B]? = some y → F B = some y) :
    ∀ {v : AV} {r : RV} {ms : List Prop} {V : Value}, rd h v r = some ms → (∀ p ∈ ms, p) → VRel γ v V → RRel F r V := by
  intro v r ms V hq hm hV
  unfold rd at hq
  split at hq
  · obtain ⟨hk, h'⟩ := bif_some hq
    have hk := of_decide_eq_true hk
    clear hq; subst hk; cases h'
    have := all_one hm; subst this; cases hV; exact .int _ _
  · obtain ⟨hk, h'⟩ := bif_some hq
    have hk := of_decide_eq_true hk
    clear hq; subst hk; cases h'
    have := all_one hm; subst this; cases hV; exact .int _ _
  · cases hq; have := all_one hm; subst this; cases hV; exact .bool _
  · cases hq; have := all_one hm; subst this; cases hV; exact .bool _
  · cases hq; have := all_one hm; subst this; cases hV; exact .str _
  · cases hq; have := all_one hm; subst this; cases hV; exact .str _
  · obtain ⟨hk, h'⟩ := bif_some hq
    have hk := beq_eq hk
    clear hq; subst hk; cases h'
    obtain ⟨rfl, rfl⟩ := all_one hm
    cases hV with
    | ro h => exact h.mono hF
  · cases hq; have := all_one hm; subst this; cases hV; exact .sl0 _ _ _ _ rfl
  · cases hq; have := all_one hm; subst this; cases hV; exact .sl0 _ _ _ _ rfl
  · cases hq; have := all_one hm; subst this; cases hV; exact .sl0 _ _ _ _ rfl
  · cases hq; have := all_one hm; subst this; cases hV; exact .sl0 _ _ _ _ rfl
  · rename_i b n n' z r
    cases hV with
    | lo _ hg =>
      rename_i B x
      split at hq
      · cases hq
      · rename_i k hk
        have hown := (bif_some hq).1
        replace hq := (bif_some hq).2
        obtain ⟨B', x', cs, ex, g1, g2, g3, g4, g5⟩ := hr.blk b k hk
        rw [hg] at g1
        cases g1
        have hFB := hO b k B x _ hk hown hg g2
        have hcl := g3.length
        split at hq
        · rename_i L hview
          have hcells : k.cells = L.flatMap Con.avs := by unfold Blk.cells; rw [hview]; rfl
          have hz := beq_eq (bif_some hq).1
          replace hq := (bif_some hq).2
          subst hz
          cases hq
          obtain ⟨rfl, hn, hrow⟩ := all_one hm
          rw [hcells] at g3
          rw [hcells, flat_len] at hcl
          refine .sl (fun i => (cs.drop (i * 5)).take 5) (by omega) (fun i hi => by simp; omega) (fun i j v hi hv => ?_) (fun i hi => ?_)
          · refine ⟨_, _, _, hFB, ?_⟩
            rw [List.getElem?_take] at hv
            split at hv
            · rw [List.getElem?_drop] at hv
              rw [List.getElem?_toArray, List.getElem?_append_left (by omega)]
              rw [show 0 + i * 5 + j = i * 5 + j by omega]
              exact hv
            · cases hv
          · rw [hrow i hi]
            have h5 := (g3.drop (i * 5)).take 5
            rw [flat_row L i (by omega)] at h5
            exact avs_rvs h5
        · rename_i kk L hview
          have hcells : k.cells = L.map (AV.vint kk) := by unfold Blk.cells; rw [hview]; rfl
          have hz := beq_eq (bif_some hq).1
          replace hq := (bif_some hq).2
          subst hz
          cases hq
          obtain ⟨rfl, hn, hrow⟩ := all_one hm
          rw [hcells] at g3
          rw [hcells, List.length_map] at hcl
          have hcs : cs = L.map (Value.int kk) := by
            clear hview hcells hn hrow hcl hFB g2 hm
            induction L generalizing cs with
            | nil => cases g3; rfl
            | cons a L ih => cases g3 with | cons h1 h2 => cases h1; rw [ih _ h2]; rfl
          subst hcs
          refine .sl (fun i => [.int kk (L.getD i 0)]) (by omega) (fun i hi => rfl) (fun i j v hi hv => ?_) (fun i hi => ?_)
          · refine ⟨_, _, _, hFB, ?_⟩
            cases j with
            | zero =>
              simp only [List.getElem?_cons_zero, Option.some.injEq] at hv
              subst hv
              rw [List.getElem?_toArray, List.getElem?_append_left (by simp; omega)]
              have : i < L.length := by omega
              simp [this]
            | succ j => simp at hv
          · rw [hrow i hi]
            exact .cons (.int _ _) .nil
        · cases hq
  · cases hV with
    | agg hv => exact .agg (rds_ok hr hF hO hq hm hv)
  · cases hV with
    | tup hv => exact .tup (rds_ok hr hF hO hq hm hv)
  · cases hq
theorem rds_ok {γ : Gm} {h : Tr Blk} {nx : Nat} {w : World} (hr : HRel γ h.get nx w) {F : Fz} (hF : γ.fz.le F) (hO : ∀ b k B x y, h.get b = some k → k.own = true → γ b = some (B, x) → w.heap[B]? = some y → F B = some y) :
    ∀ {vs : List AV} {rs : List RV} {ms : List Prop} {Vs : List Value}, rds h vs rs = some ms → (∀ p ∈ ms, p) → VsRel γ vs Vs → RsRel F rs Vs := by
  intro vs rs ms Vs hq hm hV
  unfold rds at hq
  split at hq
  · cases hV; exact .nil
  · split at hq
    · cases hq
    · rename_i m1 h1
      split at hq
      · cases hq
      · rename_i m2 h2
        cases hq
        obtain ⟨hm1, hm2⟩ := split2 hm
        cases hV with
        | cons hv ht => exact .cons (rd_ok hr hF hO h1 hm1 hv) (rds_ok hr hF hO h2 hm2 ht)
  · cases hq
end

/- the musts of a run with its result -/
def outR (x : Option (AV × Hs)) (R : RV) : Option (List Prop) := match x with
  | none => none
  | some (v, H) => match rd H.m v R with
    | none => none
    | some ms => some (ms ++ H.ms)

/- all of a list, as one proposition -/
def allP : List Prop → Prop
  | [] => True
  | [p] => p
  | p :: l => p ∧ allP l
theorem allP_iff : ∀ (l : List Prop), allP l ↔ ∀ p ∈ l, p
  | [] => ⟨fun _ p hp => (nomatch hp), fun _ => trivial⟩
  | [p] => ⟨fun h q hq => by rw [List.mem_singleton.1 hq]; exact h, fun h => h p (List.mem_singleton.2 rfl)⟩
  | p :: q :: l => by
    have ih := allP_iff (q :: l)
    constructor
    · rintro ⟨h1, h2⟩ r hr
      rcases List.mem_cons.1 hr with e | hr
      · rw [e]; exact h1
      · exact ih.1 h2 r hr
    · intro h
      exact ⟨h p List.mem_cons_self, ih.2 fun r hr => h r (List.mem_cons_of_mem _ hr)⟩

theorem pure_of_run {P : Program} {E : Env} (hE : EnvOk P E) {call : CallF} (hcall : CallOk P E.ng call) {lo : List Nat → Option Ann} {f : Nat} {A : List RV} (hlo : ∀ fn c, P.funcs[f]? = some fn → fn.body = some c → LoOk P E.ng (Nat.max (RV.avl A).length fn.ntmps) lo c) {tabs : List Tb} (hg : tabs.all (fun t => Nat.blt t.g E.ng) = true) (hok : okNames (tabList tabs) = true) (hng : Nat.ble E.ng 1000 = true)
    {R : RV} {tp : List Bool} {ms : List Prop} (h : outR (bodyF E call lo f (RV.avl A) ⟨trOf (tabList tabs), 1000, tp, []⟩) R = some ms) (hm : allP ms) : PureC P tabs f A R := by
  unfold outR at h
  split at h
  · cases h
  · rename_i v H' hrun
    split at h
    · cases h
    · rename_i m1 hrd
      cases h
      rw [allP_iff] at hm
      obtain ⟨hm1, hm2⟩ := split2 hm
      have hb := (bodyF_ok hE hcall hlo hrun).2 hm2
      have hng := Nat.le_of_ble_eq_true hng
      refine ⟨?_, fun w F Args hT hF hA => ?_⟩
      · have hb0 := bodyF_ok hE hcall hlo hrun
        unfold bodyF at hrun
        split at hrun
        · cases hrun
        · rename_i fn hfn
          rw [hE.fs f] at hfn
          split at hrun
          · cases hrun
          · rename_i c hc
            exact ⟨fn, hfn, by rw [hc]; rfl⟩
      · obtain ⟨_, hcalls⟩ := hb (gam0 E.ng F) w Args (hrel0 hT hF hng hg hok) hA.avl (fun g hg' => by simp [gam0, hg'])
        refine hcalls.mono ?_
        rintro e w' ⟨V, γ', rfl, hV, hR⟩
        have hbel : Below w.heap.size w w' := ⟨hR.stp.os, hR.stp.tape, hR.stp.output, hR.stp.size, fun k hk => hR.stp.frame k hk (noOwn0 hok k)⟩
        let F' : Fz := fun B => match γ'.fz B with
          | some x => some x
          | none => if w.heap.size ≤ B then w'.heap[B]? else none
        have hle : γ'.fz.le F' := by intro B x hx; simp only [F', hx]
        refine ⟨V, F', rfl, fun B x hx => hle B x (hR.stp.le.fz B x hx), ?_, ?_, ?_, hbel⟩
        · intro B x hx
          simp only [F'] at hx
          split at hx
          · rename_i y hy; cases hx; exact hR.stp.rel.fzr B x hy
          · split at hx
            · exact hx
            · cases hx
        · intro B x hx
          simp only [F'] at hx
          split at hx
          · rename_i y hy
            cases hx
            rcases hR.stp.fzn B x hy with h1 | h1 | h1
            · exact .inl h1
            · exact .inr h1
            · exact (noOwn0 hok B h1).elim
          · split at hx
            · rename_i hB; exact .inr hB
            · cases hx
        · refine rd_ok hR.stp.rel hle (fun b k B x y hk hown hgb hy => ?_) hrd hm1 hV
          have hz := hR.stp.rel.fzo b k B x hk hown hgb
          simp only [F', hz]
          rw [if_pos, hy]
          rcases Nat.lt_or_ge B w.heap.size with h1 | h1
          · exact (noOwn0 hok B (hR.stp.own B h1 ⟨b, k, x, hk, hown, hgb⟩)).elim
          · exact h1

/- what an argument reads as; whether memory that may still be written is looked at -/
mutual
def rvOf (m : Tr Blk) : AV → Option (RV × Bool × List Prop)
  | .vint k a => some (.int k a, false, [])
  | .int k a => some (.int k a, false, [])
  | .vbool a => some (.bool a, false, [])
  | .bool a => some (.bool a, false, [])
  | .vstr a => some (.str a, false, [])
  | .str a => some (.str a, false, [])
  | .ro n z r => some (.sl n z r, false, [])
  | .nils => some (.sl 0 5 (fun _ => []), false, [])
  | .z0 => some (.sl 0 5 (fun _ => []), false, [])
  | .lo b n => match m.get b with
    | none => none
    | some k => bif k.own then (match k.view with
      | .con L => some (.sl n 5 (fun i => (L.getD i Con.zero).rvs), true, [n = L.length])
      | .ints kk L => some (.sl n 1 (fun i => [.int kk (L.getD i 0)]), true, [n = L.length])
      | _ => none) else none
  | .agg vs => match rvsOf m vs with
    | none => none
    | some (rs, s, ms) => some (.agg rs, s, ms)
  | _ => none
def rvsOf (m : Tr Blk) : List AV → Option (List RV × Bool × List Prop)
  | [] => some ([], false, [])
  | v :: vs => match rvOf m v with
    | none => none
    | some (r, s, m1) => match rvsOf m vs with
      | none => none
      | some (rs, s', m2) => some (r :: rs, s || s', m1 ++ m2)
end

/- whether a value has no slice in it -/
mutual
def RV.flatV : RV → Bool
  | .sl _ _ _ => false
  | .agg vs => RV.flatVs vs
  | .tup vs => RV.flatVs vs
  | _ => true
def RV.flatVs : List RV → Bool
  | [] => true
  | v :: vs => v.flatV && RV.flatVs vs
end

structure OEnt where
  f : Nat
  tabs : List Tb
  go : List RV → Option (RV × List Prop)

def findE : List OEnt → Nat → Option OEnt
  | [], _ => none
  | e :: l, f => bif Nat.beq e.f f then some e else findE l f

def hasTab (m : Tr Blk) (t : Tb) : Bool := match m.get t.g with
  | some ⟨.plain cs, el, _, false, _⟩ => beqVs cs (t.l.map (.int t.k)) && Nat.beq el t.el
  | _ => false

def orcOf (ng : Nat) (ents : List OEnt) : CallF := fun f args H => match findE ents f with
  | none => none
  | some e => match rvsOf H.m args with
    | none => none
    | some (A, s, m1) => match e.go A with
      | none => none
      | some (R, m2) => bif (!s || R.flatV) && e.tabs.all (fun t => Nat.blt t.g ng && hasTab H.m t) then some (R.av, H.must (m1 ++ m2)) else none

mutual
theorem rvOf_ok {γ : Gm} {h : Tr Blk} {nx : Nat} {w : World} (hr : HRel γ h.get nx w) {F : Fz} (hF : γ.fz.le F) {v : AV} {r : RV} {s : Bool} {ms : List Prop} (hS : s = true → ∀ B y, w.heap[B]? = some y → F B = some y) {V : Value} (hq : rvOf h v = some (r, s, ms)) (hm : ∀ p ∈ ms, p) (hV : VRel γ v V) : RRel F r V := by
  unfold rvOf at hq
  split at hq
  · cases hq; cases hV; exact .int _ _
  · cases hq; cases hV; exact .int _ _
  · cases hq; cases hV; exact .bool _
  · cases hq; cases hV; exact .bool _
  · cases hq; cases hV; exact .str _
  · cases hq; cases hV; exact .str _
  · cases hq
    cases hV with
    | ro h => exact h.mono hF
  · cases hq; cases hV; exact .sl0 _ _ _ _ rfl
  · cases hq; cases hV; exact .sl0 _ _ _ _ rfl
  · rename_i b n
    split at hq
    · cases hq
    · rename_i k hk
      have hown := (bif_some hq).1
      replace hq := (bif_some hq).2
      have hO : s = true → ∀ b k B x y, h.get b = some k → k.own = true → γ b = some (B, x) → w.heap[B]? = some y → F B = some y := fun hs b k B x y _ _ _ hy => hS hs B y hy
      split at hq
      · rename_i L hview
        cases hq
        refine rd_ok hr hF (hO rfl) (ms := [n = n ∧ n = L.length ∧ ∀ i, i < n → (L.getD i Con.zero).rvs = (L.getD i Con.zero).rvs]) ?_ ?_ hV
        · simp only [rd, hk, hown, cond_true, hview]
          rfl
        · intro p hp
          rw [List.mem_singleton.1 hp]
          exact ⟨rfl, all_one hm, fun _ _ => rfl⟩
      · rename_i kk L hview
        cases hq
        refine rd_ok hr hF (hO rfl) (ms := [n = n ∧ n = L.length ∧ ∀ i, i < n → [RV.int kk (L.getD i 0)] = [RV.int kk (L.getD i 0)]]) ?_ ?_ hV
        · simp only [rd, hk, hown, cond_true, hview]
          rfl
        · intro p hp
          rw [List.mem_singleton.1 hp]
          exact ⟨rfl, all_one hm, fun _ _ => rfl⟩
      · cases hq
  · rename_i vs
    split at hq
    · cases hq
    · rename_i rs s' ms' hrs
      cases hq
      cases hV with
      | agg hv => exact .agg (rvsOf_ok hr hF hS hrs hm hv)
  · cases hq
theorem rvsOf_ok {γ : Gm} {h : Tr Blk} {nx : Nat} {w : World} (hr : HRel γ h.get nx w) {F : Fz} (hF : γ.fz.le F) {vs : List AV} {rs : List RV} {s : Bool} {ms : List Prop} (hS : s = true → ∀ B y, w.heap[B]? = some y → F B = some y) {Vs : List Value} (hq : rvsOf h vs = some (rs, s, ms)) (hm : ∀ p ∈ ms, p) (hV : VsRel γ vs Vs) : RsRel F rs Vs := by
  unfold rvsOf at hq
  split at hq
  · cases hq; cases hV; exact .nil
  · split at hq
    · cases hq
    · rename_i r s1 m1 h1
      split at hq
      · cases hq
      · rename_i rs' s2 m2 h2
        cases hq
        obtain ⟨hm1, hm2⟩ := split2 hm
        cases hV with
        | cons hv ht => exact .cons (rvOf_ok hr hF (fun hs => hS (by rw [hs]; rfl)) h1 hm1 hv) (rvsOf_ok hr hF (fun hs => hS (by rw [hs]; cases s1 <;> rfl)) h2 hm2 ht)
end

mutual
theorem RRel.flat {F F' : Fz} {r : RV} {V : Value} (hf : r.flatV = true) (h : RRel F r V) : RRel F' r V := by
  cases h with
  | bool b => exact .bool b
  | int k n => exact .int k n
  | str s => exact .str s
  | sl0 sz row a c hn => simp [RV.flatV] at hf
  | sl cs hc hl hf' h => simp [RV.flatV] at hf
  | agg h => simp only [RV.flatV] at hf; exact .agg (RsRel.flat hf h)
  | tup h => simp only [RV.flatV] at hf; exact .tup (RsRel.flat hf h)
theorem RsRel.flat {F F' : Fz} {rs : List RV} {Vs : List Value} (hf : RV.flatVs rs = true) (h : RsRel F rs Vs) : RsRel F' rs Vs := by
  cases h with
  | nil => exact .nil
  | cons h t =>
    simp only [RV.flatVs, Bool.and_eq_true] at hf
    exact .cons (RRel.flat hf.1 h) (RsRel.flat hf.2 t)
end

theorem findE_mem : ∀ {l : List OEnt} {f : Nat} {e : OEnt}, findE l f = some e → e ∈ l ∧ e.f = f
  | [], f, e, h => by cases h
  | x :: l, f, e, h => by
    simp only [findE] at h
    cases hb : Nat.beq x.f f with
    | true => rw [hb] at h; cases h; exact ⟨List.mem_cons_self, beq_eq hb⟩
    | false =>
      rw [hb] at h
      obtain ⟨h1, h2⟩ := findE_mem h
      exact ⟨List.mem_cons_of_mem _ h1, h2⟩

theorem hasTab_ok {γ : Gm} {m : Tr Blk} {nx ng : Nat} {w : World} (hr : HRel γ m.get nx w) (hg : Glob ng γ) {t : Tb} (hlt : t.g < ng) (h : hasTab m t = true) : w.heap[t.g]? = some (.cells (t.l.map (Value.int t.k)).toArray t.el (0, 0)) := by
  unfold hasTab at h
  split at h
  · rename_i cs el sz own hk
    obtain ⟨h1, h2⟩ := and_split h
    have h1 := beqVs_eq h1
    have h2 := beq_eq h2
    obtain ⟨B, x, Cs, ex, g1, g2, g3, g4, g5⟩ := hr.blk _ _ hk
    rw [hg t.g hlt] at g1
    cases g1
    have hex : ex = [] := List.eq_nil_of_length_eq_zero (by simpa using g4)
    subst hex
    have g3 : VsRel γ cs Cs := g3
    rw [h1] at g3
    rw [tab_eq g3] at g2
    have g2 : w.heap[t.g]? = some (.cells (t.l.map (Value.int t.k) ++ []).toArray el (0, 0)) := g2
    rw [List.append_nil, h2] at g2
    exact g2
  · cases h

def EntOk (P : Program) (e : OEnt) : Prop := ∀ A R ms, e.go A = some (R, ms) → (∀ p ∈ ms, p) → PureC P e.tabs e.f A R

theorem orcOf_ok {P : Program} {ng : Nat} {ents : List OEnt} (he : ∀ e ∈ ents, EntOk P e) : CallOk P ng (orcOf ng ents) := by
  intro f args H v H' h
  unfold orcOf at h
  split at h
  · cases h
  · rename_i e hf
    obtain ⟨hmem, rfl⟩ := findE_mem hf
    split at h
    · cases h
    · rename_i A s m1 hA
      split at h
      · cases h
      · rename_i R m2 hgo
        have hb := (bif_some h).1
        replace h := (bif_some h).2
        cases h
        refine ⟨fun p hp => by simp [Hs.must, hp], fun hm γ w Args hr hV hg => ?_⟩
        obtain ⟨hb1, hb2⟩ := and_split hb
        have hm12 : ∀ p ∈ m1 ++ m2, p := fun p hp => hm p (by simp only [Hs.must]; exact List.mem_append_left _ hp)
        obtain ⟨hm1, hm2⟩ := split2 hm12
        obtain ⟨hfn, hpure⟩ := he e hmem A R m2 hgo hm2
        refine ⟨hfn, ?_⟩
        have hT : TabW e.tabs w := by
          intro t ht
          obtain ⟨q1, q2⟩ := and_split (List.all_eq_true.1 hb2 t ht)
          exact hasTab_ok hr hg (Nat.le_of_ble_eq_true q1) q2
        cases s with
        | false =>
          have hRs := rvsOf_ok hr (F := γ.fz) (fun _ _ h => h) (fun h => by cases h) hA hm1 hV
          refine (hpure w γ.fz Args hT hr.fzr hRs).mono ?_
          rintro x w' ⟨V, F', rfl, hle, hvld, hnew, hR, hbel⟩
          refine ⟨V, ⟨γ.nm, F'⟩, rfl, RRel.av (γ := ⟨γ.nm, F'⟩) hR, ?_, Nat.le_refl _, fun _ _ => rfl⟩
          have hγ : γ.le ⟨γ.nm, F'⟩ := ⟨fun _ _ h => h, hle⟩
          refine ⟨hγ, ⟨fun b k hb => ?_, hr.inj, hr.fresh, hvld, fun b k B x hb ho hgb => ?_⟩, hbel.size, hbel.os, hbel.tape, hbel.output, fun k hk _ => hbel.block k hk, fun k _ ho => ho, fun b k hb _ => hb, fun b k hb => .inl ⟨k, hb⟩, fun B x hB => ?_⟩
          · obtain ⟨B, x, cs, ex, g1, g2, g3, g4⟩ := hr.blk b k hb
            exact ⟨B, x, cs, ex, g1, by rw [hbel.block B (hr.lt hb g1)]; exact g2, g3.mono hγ, g4⟩
          · cases hz : F' B with
            | none => exact hz
            | some y =>
              rcases hnew B y hz with h1 | h1
              · rw [hr.fzo b k B x hb ho hgb] at h1; cases h1
              · exact absurd (hr.lt hb hgb) (by omega)
          · rcases hnew B x hB with h1 | h1
            · exact .inl h1
            · exact .inr (.inl h1)
        | true =>
          have hfl : R.flatV = true := by simpa using hb1
          have hRs := rvsOf_ok hr (F := fun B => w.heap[B]?) (fun B x h => hr.fzr B x h) (fun _ B y hy => hy) hA hm1 hV
          refine (hpure w (fun B => w.heap[B]?) Args hT (fun B x h => h) hRs).mono ?_
          rintro x w' ⟨V, F', rfl, hle, hvld, hnew, hR, hbel⟩
          refine ⟨V, γ, rfl, RRel.av (γ := γ) (hR.flat hfl), ?_, Nat.le_refl _, fun _ _ => rfl⟩
          refine ⟨Gm.le_refl γ, ⟨fun b k hb => ?_, hr.inj, hr.fresh, fun B x hB => ?_, hr.fzo⟩, hbel.size, hbel.os, hbel.tape, hbel.output, fun k hk _ => hbel.block k hk, fun k _ ho => ho, fun b k hb _ => hb, fun b k hb => .inl ⟨k, hb⟩, fun B x hB => .inl hB⟩
          · obtain ⟨B, x, cs, ex, g1, g2, g3, g4⟩ := hr.blk b k hb
            exact ⟨B, x, cs, ex, g1, by rw [hbel.block B (hr.lt hb g1)]; exact g2, g3, g4⟩
          · have h1 := hr.fzr B x hB
            rw [hbel.block B (Array.getElem?_eq_some_iff.1 h1).1]
            exact h1

def noOrc : CallF := fun _ _ _ => none
theorem noOrc_ok (P : Program) (ng : Nat) : CallOk P ng noOrc := by
  intro f args H v H' h
  cases h

def lzOf (P : Program) : Nat → Nat → Nat → Nat → Bool := fun e n o u => liesAt P P.depth e (n / P.cellsOf e) o u 1
theorem lzOf_ok (P : Program) : LiesOk P (lzOf P) := fun _ _ _ _ h => h

def envOf (P : Program) (ng ne conT : Nat) (sym : Bool) : Env := ⟨Tr.ofList P.types.toList, Tr.ofList P.funcs.toList, ng, lzOf P, ne, conT, sym⟩

theorem envOf_ok (P : Program) (ng ne conT : Nat) (sym : Bool) (h1 : Nat.blt P.types.toList.length 1000000 = true) (h2 : Nat.blt P.funcs.toList.length 1000000 = true) (h3 : P.funcs.toList.all (fun fn => !(fn.name == "runtime.NumGoroutine")) = true)
    (h4 : ∀ x w, (callFunc ne #[x]).run P w = .ok (.value x) w) (h5 : P.follows .mixedOrders = true) : EnvOk P (envOf P ng ne conT sym) where
  ti := by
    intro t i hi
    have hi' : (Tr.ofList P.types.toList).get t = some i := hi
    rw [Tr.get_ofList _ (Nat.le_of_ble_eq_true h1)] at hi'
    have h2 : P.types[t]? = some i := by simpa using hi'
    have hlt : t < P.types.size := (Array.getElem?_eq_some_iff.1 h2).1
    show Tables.info? P.toTables t = some i
    unfold Tables.info?
    rw [if_pos hlt]
    exact h2
  fs := by
    intro f
    show (Tr.ofList P.funcs.toList).get f = _
    rw [Tr.get_ofList _ (Nat.le_of_ble_eq_true h2)]
    simp
  lz := lzOf_ok P
  noesc := h4
  names := by
    intro f fn hf
    have := List.all_eq_true.1 h3 fn (by simpa using Array.mem_of_getElem? hf)
    simpa using this
  mixed := h5
end Go.QfSy
