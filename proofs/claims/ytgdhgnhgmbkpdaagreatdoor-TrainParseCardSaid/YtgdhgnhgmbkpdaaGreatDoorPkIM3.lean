/- A part of the proof of the laws: ZP, ZQ, ZR, ZF1, ZF2, ZF3, ZX, ZF4, ZY, ZP2. -/
import Derived.Test.YtgdhgnhgmbkpdaaGreatDoorPkIM2
import Derived.Deep.LoopGhost
import Derived.CallsIn
import Derived.RangeFuncCalls
import Derived.RangeFuncLeaves
import Derived.RangeFuncNested
set_option linter.unusedSimpArgs false
set_option linter.unusedVariables false
set_option maxRecDepth 100000
namespace Go.QfSy
open Go.RowKit
structure Tb where
  g : Nat
  k : IntKind
  l : List Int
  el : Nat
def Tb.av1 (t : Tb) : AV := match t.k with
  | .u8 => .verr false
  | k => .vnum k
def Tb.avs (t : Tb) : List AV := match t.l with
  | [] => [t.av1]
  | l => l.map (.int t.k)
def TabAt (t : Tb) (w : World) : Prop := match t.l with
  | [] => ∃ v, (match t.k with
    | .u8 => ErrRel false v
    | k => ∃ n, v = .int k n) ∧ w.heap[t.g]? = some (.cells #[v] t.el (0, 0))
  | l => w.heap[t.g]? = some (.cells (l.map (Value.int t.k)).toArray t.el (0, 0))
def TabW (tabs : List Tb) (w : World) : Prop := ∀ t ∈ tabs, TabAt t w
def Tb.blk (t : Tb) : Blk := ⟨.plain t.avs, t.el, 0, false, false⟩
def tabList (tabs : List Tb) : List (Nat × Blk) := tabs.map fun t => (t.g, t.blk)
def Vld (F : Fz) (w : World) : Prop := ∀ B x, F B = some x → w.heap[B]? = some x
theorem Vld.below {F : Fz} {w w' : World} (h : Vld F w) (hb : Below w.heap.size w w') : Vld F w' := by
  intro B x hx
  have h1 := h B x hx
  rw [hb.block B (Array.getElem?_eq_some_iff.1 h1).1]
  exact h1
def PureC (P : Program) (tabs : List Tb) (f : Nat) (A : List RV) (R : RV) : Prop :=
  (∃ fn, P.funcs[f]? = some fn ∧ fn.body.isSome = true) ∧
  ∀ (w : World) (F : Fz) (Args : List Value), TabW tabs w → Vld F w → RsRel F A Args →
    Calls P f Args.toArray w fun e w' => ∃ V F', e = .returned V ∧ F.le F' ∧ Vld F' w' ∧ (∀ B x, F' B = some x → F B = some x ∨ w.heap.size ≤ B) ∧ RRel F' R V ∧ Below w.heap.size w w'
def gam0 (ng : Nat) (F : Fz) : Gm := ⟨fun b => if b < ng then some (b, 0) else none, F⟩
theorem tab_rel (γ : Gm) (k : IntKind) (l : List Int) : VsRel γ (l.map (AV.int k)) (l.map (Value.int k)) := by
  induction l with
  | nil => exact .nil
  | cons x l ih => exact .cons (.int _ _) ih
theorem tab_eq {γ : Gm} {k : IntKind} : ∀ {l : List Int} {cs : List Value}, VsRel γ (l.map (AV.int k)) cs → cs = l.map (Value.int k)
  | [], cs, h => by cases h; rfl
  | x :: l, cs, h => by
    cases h with
    | cons hv ht => cases hv; rw [tab_eq ht]; rfl
theorem TabAt.rel {γ : Gm} {t : Tb} {w : World} (h : TabAt t w) : ∃ cs, w.heap[t.g]? = some (.cells cs.toArray t.el (0, 0)) ∧ VsRel γ t.avs cs := by
  obtain ⟨g, k, l, el⟩ := t
  cases l with
  | nil =>
    obtain ⟨v, h1, h2⟩ := h
    refine ⟨[v], h2, .cons ?_ .nil⟩
    cases k with
    | u8 => exact .verr h1
    | _ => obtain ⟨n, rfl⟩ := h1; exact .vnum _ _
  | cons x l => exact ⟨_, h, tab_rel _ _ _⟩
theorem TabAt.of_rel {γ : Gm} {t : Tb} {w : World} {cs : List Value} (h : w.heap[t.g]? = some (.cells cs.toArray t.el (0, 0))) (hr : VsRel γ t.avs cs) : TabAt t w := by
  obtain ⟨g, k, l, el⟩ := t
  cases l with
  | nil =>
    have hr : VsRel γ [Tb.av1 ⟨g, k, [], el⟩] cs := hr
    cases hr with | cons h1 h2 =>
    cases h2
    refine ⟨_, ?_, h⟩
    cases k with
    | u8 => cases (show VRel γ (.verr false) _ from h1) with | verr h1 => exact h1
    | i64 => cases (show VRel γ (.vnum .i64) _ from h1); exact ⟨_, rfl⟩
    | i32 => cases (show VRel γ (.vnum .i32) _ from h1); exact ⟨_, rfl⟩
    | i16 => cases (show VRel γ (.vnum .i16) _ from h1); exact ⟨_, rfl⟩
    | i8 => cases (show VRel γ (.vnum .i8) _ from h1); exact ⟨_, rfl⟩
    | u64 => cases (show VRel γ (.vnum .u64) _ from h1); exact ⟨_, rfl⟩
    | u32 => cases (show VRel γ (.vnum .u32) _ from h1); exact ⟨_, rfl⟩
    | u16 => cases (show VRel γ (.vnum .u16) _ from h1); exact ⟨_, rfl⟩
  | cons x l =>
    have e := tab_eq (show VsRel γ ((x :: l).map (AV.int k)) cs from hr)
    rw [e] at h
    exact h
theorem hrel0 {ng nx : Nat} {tabs : List Tb} {F : Fz} {w : World} (h : TabW tabs w) (hF : Vld F w) (hn : ng ≤ nx) (hg : tabs.all (fun t => Nat.blt t.g ng) = true) (hok : okNames (tabList tabs) = true) : HRel (gam0 ng F) (trOf (tabList tabs)).get nx w := by
  have hmem : ∀ b k, (trOf (tabList tabs)).get b = some k → ∃ t ∈ tabs, b = t.g ∧ k = t.blk := by
    intro b k hb
    have := trOf_get _ _ _ hok hb
    unfold tabList at this
    obtain ⟨t, h1, h2⟩ := List.mem_map.1 this
    cases h2
    exact ⟨t, h1, rfl, rfl⟩
  have hlt : ∀ t ∈ tabs, t.g < ng := fun t ht => Nat.le_of_ble_eq_true (List.all_eq_true.1 hg t ht)
  refine ⟨fun b k hb => ?_, fun b b' k k' B x x' h1 h2 h3 h4 => ?_, fun b hb => ?_, hF, fun b k B x hb ho hg' => ?_⟩
  · obtain ⟨t, h1, rfl, rfl⟩ := hmem b k hb
    obtain ⟨cs, h2, h3⟩ := (h t h1).rel (γ := gam0 ng F)
    exact ⟨t.g, 0, cs, [], by simp [gam0, hlt t h1], by rw [List.append_nil]; exact h2, h3, by simp, fun _ => rfl⟩
  · simp only [gam0] at h3 h4
    split at h3
    · split at h4
      · cases h3; cases h4; rfl
      · cases h4
    · cases h3
  · simp only [gam0]
    rw [if_neg (by omega)]
  · obtain ⟨t, h1, rfl, rfl⟩ := hmem b k hb
    cases ho
theorem noOwn0 {ng : Nat} {tabs : List Tb} {F : Fz} (hok : okNames (tabList tabs) = true) (B : Nat) : ¬ OwnImg (gam0 ng F) (trOf (tabList tabs)).get B := by
  rintro ⟨b, kk, x, h1, h2, h3⟩
  have := trOf_get _ _ _ hok h1
  unfold tabList at this
  obtain ⟨t, _, h5⟩ := List.mem_map.1 this
  cases h5
  cases h2
def rI (k : IntKind) (l : List Int) : RV := .sl l.length 1 (fun j => [.int k (l.getD j 0)])
def roR (k : IntKind) (L : List (List Int)) : RV := .sl L.length 1 (fun i => [rI k (L.getD i [])])
mutual
def rd (m : Tr Blk) : AV → RV → Option (List Prop)
  | .vint k a, .int k' b => bif decide (k = k') then some [a = b] else none
  | .int k a, .int k' b => bif decide (k = k') then some [a = b] else none
  | .vbool a, .bool b => some [a = b]
  | .bool a, .bool b => some [a = b]
  | .vstr a, .str b => some [a = b]
  | .str a, .str b => some [a = b]
  | .ro n z r, .sl n' z' r' => bif Nat.beq z z' then some [n = n' ∧ r = r'] else none
  | .nils, .sl n _ _ => some [n = 0]
  | .emp, .sl n _ _ => some [n = 0]
  | .zer, .sl n _ _ => some [n = 0]
  | .z0, .sl n _ _ => some [n = 0]
  | .lo b n, .sl n' z r => match m.get b with
    | none => none
    | some k => bif k.own then (match k.view with
      | .con L => bif Nat.beq z 5 then some [n = n' ∧ n = L.length ∧ ∀ i, i < n → r i = (L.getD i Con.zero).rvs] else none
      | .ints kk L => bif Nat.beq z 1 then some [n = n' ∧ n = L.length ∧ ∀ i, i < n → r i = [.int kk (L.getD i 0)]] else none
      | .rows kk L c q => (match m.get c with
        | none => none
        | some kc => bif kc.own && Nat.beq z 1 then (match kc.view with
          | .ints k' l => bif decide (k' = kk) then some [n = n' ∧ n = L.length + 1 ∧ q = l.length ∧ ∀ i, i < n → r i = [rI kk ((L ++ [l]).getD i [])]] else none
          | _ => none) else none)
      | _ => none) else none
  | .agg vs, .agg rs => rds m vs rs
  | .tup vs, .tup rs => rds m vs rs
  | _, _ => none
def rds (m : Tr Blk) : List AV → List RV → Option (List Prop)
  | [], [] => some []
  | v :: vs, r :: rs => match rd m v r with
    | none => none
    | some m1 => match rds m vs rs with
      | none => none
      | some m2 => some (m1 ++ m2)
  | _, _ => none
end
theorem avs_rvs {γ : Gm} {F : Fz} {c : Con} {cs : List Value} (h : VsRel γ c.avs cs) : RsRel F c.rvs cs := by
  unfold Con.avs at h
  unfold Con.rvs
  cases h with | cons h1 h =>
  cases h with | cons h2 h =>
  cases h with | cons h3 h =>
  cases h with | cons h4 h =>
  cases h with | cons h5 h =>
  cases h
  cases h1; cases h2; cases h3; cases h4; cases h5
  exact .cons (.int _ _) (.cons (.int _ _) (.cons (.int _ _) (.cons (.bool _) (.cons (.int _ _) .nil))))
theorem lo_ints {γ : Gm} {h : Tr Blk} {nx : Nat} {w : World} (hr : HRel γ h.get nx w) {F : Fz} (hO : ∀ b k B x y, h.get b = some k → k.own = true → γ b = some (B, x) → w.heap[B]? = some y → F B = some y) {b n : Nat} {k : Blk} {kk : IntKind} {L : List Int} (hk : h.get b = some k) (hown : k.own = true) (hview : k.view = .ints kk L) (hn : n = L.length) {V : Value} (hV : VRel γ (.lo b n) V) : RRel F (.sl n 1 (fun i => [.int kk (L.getD i 0)])) V := by
  cases hV with
  | lo _ hg =>
    rename_i B x
    obtain ⟨B', x', cs, ex, g1, g2, g3, g4, g5⟩ := hr.blk b k hk
    rw [hg] at g1
    cases g1
    have hFB := hO b k B x _ hk hown hg g2
    have hcl := g3.length
    have hcells : k.cells = L.map (AV.vint kk) := by unfold Blk.cells; rw [hview]; rfl
    rw [hcells] at g3
    rw [hcells, List.length_map] at hcl
    have hcs : cs = L.map (Value.int kk) := by
      clear hview hcells hn hcl hFB g2
      induction L generalizing cs with
      | nil => cases g3; rfl
      | cons a L ih => cases g3 with | cons h1 h2 => cases h1; rw [ih _ h2]; rfl
    subst hcs
    refine .sl (fun i => [.int kk (L.getD i 0)]) (by omega) (fun i hi => rfl) (fun i j v hi hv => ?_) (fun i hi => .cons (.int _ _) .nil)
    refine ⟨_, _, _, hFB, ?_⟩
    cases j with
    | zero =>
      simp only [List.getElem?_cons_zero, Option.some.injEq] at hv
      subst hv
      rw [List.getElem?_toArray, List.getElem?_append_left (by simp; omega)]
      have : i < L.length := by omega
      simp [this]
    | succ j => simp at hv
mutual
theorem rd_ok {γ : Gm} {h : Tr Blk} {nx : Nat} {w : World} (hr : HRel γ h.get nx w) {F : Fz} (hF : γ.fz.le F) (hO : ∀ b k B x y, h.get b = some k → k.own = true → γ b = some (B, x) → w.heap[B]? = some y → F B = some y) :
    ∀ {v : AV} {r : RV} {ms : List Prop} {V : Value}, rd h v r = some ms → (∀ p ∈ ms, p) → VRel γ v V → RRel F r V := by
  intro v r ms V hq hm hV
  unfold rd at hq
  split at hq
  · obtain ⟨hk, h'⟩ := bif_some hq
    have hk := of_decide_eq_true hk
    clear hq; subst hk; cases h'
    have := all_one hm; subst this; cases hV; exact .int _ _
  · obtain ⟨hk, h'⟩ := bif_some hq
    have hk := of_decide_eq_true hk
    clear hq; subst hk; cases h'
    have := all_one hm; subst this; cases hV; exact .int _ _
  · cases hq; have := all_one hm; subst this; cases hV; exact .bool _
  · cases hq; have := all_one hm; subst this; cases hV; exact .bool _
  · cases hq; have := all_one hm; subst this; cases hV; exact .str _
  · cases hq; have := all_one hm; subst this; cases hV; exact .str _
  · obtain ⟨hk, h'⟩ := bif_some hq
    have hk := beq_eq hk
    clear hq; subst hk; cases h'
    obtain ⟨rfl, rfl⟩ := all_one hm
    cases hV with
    | ro h => exact h.mono hF
  · cases hq; have := all_one hm; subst this; cases hV; exact .sl0 _ _ _ _ rfl
  · cases hq; have := all_one hm; subst this; cases hV; exact .sl0 _ _ _ _ rfl
  · cases hq; have := all_one hm; subst this; cases hV; exact .sl0 _ _ _ _ rfl
  · cases hq; have := all_one hm; subst this; cases hV; exact .sl0 _ _ _ _ rfl
  · rename_i b n n' z r
    cases hV with
    | lo _ hg =>
      rename_i B x
      split at hq
      · cases hq
      · rename_i k hk
        have hown := (bif_some hq).1
        replace hq := (bif_some hq).2
        obtain ⟨B', x', cs, ex, g1, g2, g3, g4, g5⟩ := hr.blk b k hk
        rw [hg] at g1
        cases g1
        have hFB := hO b k B x _ hk hown hg g2
        have hcl := g3.length
        split at hq
        · rename_i L hview
          have hcells : k.cells = L.flatMap Con.avs := by unfold Blk.cells; rw [hview]; rfl
          have hz := beq_eq (bif_some hq).1
          replace hq := (bif_some hq).2
          subst hz
          cases hq
          obtain ⟨rfl, hn, hrow⟩ := all_one hm
          rw [hcells] at g3
          rw [hcells, flat_len] at hcl
          refine .sl (fun i => (cs.drop (i * 5)).take 5) (by omega) (fun i hi => by simp; omega) (fun i j v hi hv => ?_) (fun i hi => ?_)
          · refine ⟨_, _, _, hFB, ?_⟩
            rw [List.getElem?_take] at hv
            split at hv
            · rw [List.getElem?_drop] at hv
              rw [List.getElem?_toArray, List.getElem?_append_left (by omega)]
              rw [show 0 + i * 5 + j = i * 5 + j by omega]
              exact hv
            · cases hv
          · rw [hrow i hi]
            have h5 := (g3.drop (i * 5)).take 5
            rw [flat_row L i (by omega)] at h5
            exact avs_rvs h5
        · rename_i kk L hview
          have hcells : k.cells = L.map (AV.vint kk) := by unfold Blk.cells; rw [hview]; rfl
          have hz := beq_eq (bif_some hq).1
          replace hq := (bif_some hq).2
          subst hz
          cases hq
          obtain ⟨rfl, hn, hrow⟩ := all_one hm
          rw [hcells] at g3
          rw [hcells, List.length_map] at hcl
          have hcs : cs = L.map (Value.int kk) := by
            clear hview hcells hn hrow hcl hFB g2 hm
            induction L generalizing cs with
            | nil => cases g3; rfl
            | cons a L ih => cases g3 with | cons h1 h2 => cases h1; rw [ih _ h2]; rfl
          subst hcs
          refine .sl (fun i => [.int kk (L.getD i 0)]) (by omega) (fun i hi => rfl) (fun i j v hi hv => ?_) (fun i hi => ?_)
          · refine ⟨_, _, _, hFB, ?_⟩
            cases j with
            | zero =>
              simp only [List.getElem?_cons_zero, Option.some.injEq] at hv
              subst hv
              rw [List.getElem?_toArray, List.getElem?_append_left (by simp; omega)]
              have : i < L.length := by omega
              simp [this]
            | succ j => simp at hv
          · rw [hrow i hi]
            exact .cons (.int _ _) .nil
        · rename_i kk L c q hview
          have hcells : k.cells = L.map (roI kk) ++ [AV.lo c q] := by unfold Blk.cells; rw [hview]; rfl
          split at hq
          · cases hq
          · rename_i kc hkc
            have hb := (bif_some hq).1
            replace hq := (bif_some hq).2
            obtain ⟨hb1, hb2⟩ := and_split hb
            have hb2 := beq_eq hb2
            subst hb2
            split at hq
            · rename_i k' l hlv
              have hkk := of_decide_eq_true (bif_some hq).1
              replace hq := (bif_some hq).2
              subst hkk
              cases hq
              obtain ⟨rfl, hn, hql, hrow⟩ := all_one hm
              rw [hcells] at g3
              rw [hcells] at hcl
              simp only [List.length_append, List.length_map, List.length_cons, List.length_nil] at hcl
              refine .sl (fun i => (cs.drop (i * 1)).take 1) (by omega) (fun i hi => by simp; omega) (fun i j v hi hv => ?_) (fun i hi => ?_)
              · refine ⟨_, _, _, hFB, ?_⟩
                rw [List.getElem?_take] at hv
                split at hv
                · rw [List.getElem?_drop] at hv
                  rw [List.getElem?_toArray, List.getElem?_append_left (by omega)]
                  rw [show 0 + i * 1 + j = i * 1 + j by omega]
                  exact hv
                · cases hv
              · rw [hrow i hi]
                have h5 := (g3.drop (i * 1)).take 1
                rw [List.take_one, List.head?_drop] at h5
                rw [Nat.mul_one] at h5 ⊢
                by_cases hiL : i < L.length
                · rw [List.getElem?_append_left (by simpa using hiL)] at h5
                  simp only [List.getElem?_map, List.getElem?_eq_getElem hiL, Option.map_some, Option.toList_some] at h5
                  have e : (L ++ [l]).getD i [] = L[i] := by simp [List.getD, List.getElem?_append_left hiL, List.getElem?_eq_getElem hiL]
                  rw [e]
                  generalize (cs.drop i).take 1 = D at h5
                  cases h5 with
                  | cons h6 h7 =>
                    cases h7
                    cases h6 with
                    | ro hR => exact .cons (hR.mono hF) .nil
                · have hi2 : i = L.length := by omega
                  subst hi2
                  rw [List.getElem?_append_right (by simp)] at h5
                  simp only [List.length_map, Nat.sub_self, List.getElem?_cons_zero, Option.toList_some] at h5
                  have e : (L ++ [l]).getD L.length [] = l := by simp [List.getD]
                  rw [e]
                  generalize (cs.drop L.length).take 1 = D at h5
                  cases h5 with
                  | cons h6 h7 =>
                    cases h7
                    have h8 := lo_ints hr hO hkc hb1 hlv hql h6
                    subst hql
                    exact .cons h8 .nil
            · cases hq
        · cases hq
  · cases hV with
    | agg hv => exact .agg (rds_ok hr hF hO hq hm hv)
  · cases hV with
    | tup hv => exact .tup (rds_ok hr hF hO hq hm hv)
  · cases hq
theorem rds_ok {γ : Gm} {h : Tr Blk} {nx : Nat} {w : World} (hr : HRel γ h.get nx w) {F : Fz} (hF : γ.fz.le F) (hO : ∀ b k B x y, h.get b = some k → k.own = true → γ b = some (B, x) → w.heap[B]? = some y → F B = some y) :
    ∀ {vs : List AV} {rs : List RV} {ms : List Prop} {Vs : List Value}, rds h vs rs = some ms → (∀ p ∈ ms, p) → VsRel γ vs Vs → RsRel F rs Vs := by
  intro vs rs ms Vs hq hm hV
  unfold rds at hq
  split at hq
  · cases hV; exact .nil
  · split at hq
    · cases hq
    · rename_i m1 h1
      split at hq
      · cases hq
      · rename_i m2 h2
        cases hq
        obtain ⟨hm1, hm2⟩ := split2 hm
        cases hV with
        | cons hv ht => exact .cons (rd_ok hr hF hO h1 hm1 hv) (rds_ok hr hF hO h2 hm2 ht)
  · cases hq
end
def outR (x : Option (AV × Hs)) (R : RV) : Option (List Prop) := match x with
  | none => none
  | some (v, H) => match rd H.m v R with
    | none => none
    | some ms => some (ms ++ H.ms)
def allP : List Prop → Prop
  | [] => True
  | [p] => p
  | p :: l => p ∧ allP l
theorem allP_iff : ∀ (l : List Prop), allP l ↔ ∀ p ∈ l, p
  | [] => ⟨fun _ p hp => (nomatch hp), fun _ => trivial⟩
  | [p] => ⟨fun h q hq => by rw [List.mem_singleton.1 hq]; exact h, fun h => h p (List.mem_singleton.2 rfl)⟩
  | p :: q :: l => by
    have ih := allP_iff (q :: l)
    constructor
    · rintro ⟨h1, h2⟩ r hr
      rcases List.mem_cons.1 hr with e | hr
      · rw [e]; exact h1
      · exact ih.1 h2 r hr
    · intro h
      exact ⟨h p List.mem_cons_self, ih.2 fun r hr => h r (List.mem_cons_of_mem _ hr)⟩
theorem pure_of_run {P : Program} {E : Env} (hE : EnvOk P E) {call : CallF} (hcall : CallOk P E.ng call) {lo : List Nat → Option Ann} {f : Nat} {A : List RV} (hlo : ∀ fn c, P.funcs[f]? = some fn → fn.body = some c → LoOk P E.ng (Nat.max (RV.avl A).length fn.ntmps) lo c) {tabs : List Tb} (hg : tabs.all (fun t => Nat.blt t.g E.ng) = true) (hok : okNames (tabList tabs) = true) (hng : Nat.ble E.ng 1000 = true)
    {R : RV} {tp : List Bool} {ms : List Prop} (h : outR (bodyF E call lo f (RV.avl A) ⟨trOf (tabList tabs), 1000, tp, []⟩) R = some ms) (hm : allP ms) : PureC P tabs f A R := by
  unfold outR at h
  split at h
  · cases h
  · rename_i v H' hrun
    split at h
    · cases h
    · rename_i m1 hrd
      cases h
      rw [allP_iff] at hm
      obtain ⟨hm1, hm2⟩ := split2 hm
      have hb := (bodyF_ok hE hcall hlo hrun).2 hm2
      have hng := Nat.le_of_ble_eq_true hng
      refine ⟨?_, fun w F Args hT hF hA => ?_⟩
      · have hb0 := bodyF_ok hE hcall hlo hrun
        unfold bodyF at hrun
        split at hrun
        · cases hrun
        · rename_i fn hfn
          rw [hE.fs f] at hfn
          split at hrun
          · cases hrun
          · rename_i c hc
            exact ⟨fn, hfn, by rw [hc]; rfl⟩
      · obtain ⟨_, hcalls⟩ := hb (gam0 E.ng F) w Args (hrel0 hT hF hng hg hok) hA.avl (fun g hg' => by simp [gam0, hg'])
        refine hcalls.mono ?_
        rintro e w' ⟨V, γ', rfl, hV, hR⟩
        have hbel : Below w.heap.size w w' := ⟨hR.stp.os, hR.stp.tape, hR.stp.output, hR.stp.size, fun k hk => hR.stp.frame k hk (noOwn0 hok k)⟩
        let F' : Fz := fun B => match γ'.fz B with
          | some x => some x
          | none => if w.heap.size ≤ B then w'.heap[B]? else none
        have hle : γ'.fz.le F' := by intro B x hx; simp only [F', hx]
        refine ⟨V, F', rfl, fun B x hx => hle B x (hR.stp.le.fz B x hx), ?_, ?_, ?_, hbel⟩
        · intro B x hx
          simp only [F'] at hx
          split at hx
          · rename_i y hy; cases hx; exact hR.stp.rel.fzr B x hy
          · split at hx
            · exact hx
            · cases hx
        · intro B x hx
          simp only [F'] at hx
          split at hx
          · rename_i y hy
            cases hx
            rcases hR.stp.fzn B x hy with h1 | h1 | h1
            · exact .inl h1
            · exact .inr h1
            · exact (noOwn0 hok B h1).elim
          · split at hx
            · rename_i hB; exact .inr hB
            · cases hx
        · refine rd_ok hR.stp.rel hle (fun b k B x y hk hown hgb hy => ?_) hrd hm1 hV
          have hz := hR.stp.rel.fzo b k B x hk hown hgb
          simp only [F', hz]
          rw [if_pos, hy]
          rcases Nat.lt_or_ge B w.heap.size with h1 | h1
          · exact (noOwn0 hok B (hR.stp.own B h1 ⟨b, k, x, hk, hown, hgb⟩)).elim
          · exact h1
mutual
def rvOf (m : Tr Blk) : AV → Option (RV × Bool × List Prop)
  | .vint k a => some (.int k a, false, [])
  | .int k a => some (.int k a, false, [])
  | .vbool a => some (.bool a, false, [])
  | .bool a => some (.bool a, false, [])
  | .vstr a => some (.str a, false, [])
  | .str a => some (.str a, false, [])
  | .ro n z r => some (.sl n z r, false, [])
  | .nils => some (.sl 0 5 (fun _ => []), false, [])
  | .z0 => some (.sl 0 5 (fun _ => []), false, [])
  | .lo b n => match m.get b with
    | none => none
    | some k => bif k.own then (match k.view with
      | .con L => some (.sl n 5 (fun i => (L.getD i Con.zero).rvs), true, [n = L.length])
      | .ints kk L => some (.sl n 1 (fun i => [.int kk (L.getD i 0)]), true, [n = L.length])
      | _ => none) else none
  | .agg vs => match rvsOf m vs with
    | none => none
    | some (rs, s, ms) => some (.agg rs, s, ms)
  | _ => none
def rvsOf (m : Tr Blk) : List AV → Option (List RV × Bool × List Prop)
  | [] => some ([], false, [])
  | v :: vs => match rvOf m v with
    | none => none
    | some (r, s, m1) => match rvsOf m vs with
      | none => none
      | some (rs, s', m2) => some (r :: rs, s || s', m1 ++ m2)
end
mutual
def RV.flatV : RV → Bool
  | .sl _ _ _ => false
  | .agg vs => RV.flatVs vs
  | .tup vs => RV.flatVs vs
  | _ => true
def RV.flatVs : List RV → Bool
  | [] => true
  | v :: vs => v.flatV && RV.flatVs vs
end
structure OEnt where
  f : Nat
  tabs : List Tb
  go : List RV → Option (RV × List Prop)
def findE : List OEnt → Nat → Option OEnt
  | [], _ => none
  | e :: l, f => bif Nat.beq e.f f then some e else findE l f
def beqTs : List AV → List AV → Bool
  | [.verr false], [.verr false] => true
  | a, b => beqVs a b
theorem beqTs_eq {a b : List AV} (h : beqTs a b = true) : a = b := by
  unfold beqTs at h
  split at h
  · rfl
  · exact beqVs_eq h
def hasTab (m : Tr Blk) (t : Tb) : Bool := match m.get t.g with
  | some ⟨.plain cs, el, _, false, _⟩ => beqTs cs t.avs && Nat.beq el t.el
  | _ => false
def orcOf (ng : Nat) (ents : List OEnt) : CallF := fun f args H => match findE ents f with
  | none => none
  | some e => match rvsOf H.m args with
    | none => none
    | some (A, s, m1) => match e.go A with
      | none => none
      | some (R, m2) => bif (!s || R.flatV) && e.tabs.all (fun t => Nat.blt t.g ng && hasTab H.m t) then some (R.av, H.must (m1 ++ m2)) else none
mutual
theorem rvOf_ok {γ : Gm} {h : Tr Blk} {nx : Nat} {w : World} (hr : HRel γ h.get nx w) {F : Fz} (hF : γ.fz.le F) {v : AV} {r : RV} {s : Bool} {ms : List Prop} (hS : s = true → ∀ B y, w.heap[B]? = some y → F B = some y) {V : Value} (hq : rvOf h v = some (r, s, ms)) (hm : ∀ p ∈ ms, p) (hV : VRel γ v V) : RRel F r V := by
  unfold rvOf at hq
  split at hq
  · cases hq; cases hV; exact .int _ _
  · cases hq; cases hV; exact .int _ _
  · cases hq; cases hV; exact .bool _
  · cases hq; cases hV; exact .bool _
  · cases hq; cases hV; exact .str _
  · cases hq; cases hV; exact .str _
  · cases hq
    cases hV with
    | ro h => exact h.mono hF
  · cases hq; cases hV; exact .sl0 _ _ _ _ rfl
  · cases hq; cases hV; exact .sl0 _ _ _ _ rfl
  · rename_i b n
    split at hq
    · cases hq
    · rename_i k hk
      have hown := (bif_some hq).1
      replace hq := (bif_some hq).2
      have hO : s = true → ∀ b k B x y, h.get b = some k → k.own = true → γ b = some (B, x) → w.heap[B]? = some y → F B = some y := fun hs b k B x y _ _ _ hy => hS hs B y hy
      split at hq
      · rename_i L hview
        cases hq
        refine rd_ok hr hF (hO rfl) (ms := [n = n ∧ n = L.length ∧ ∀ i, i < n → (L.getD i Con.zero).rvs = (L.getD i Con.zero).rvs]) ?_ ?_ hV
        · simp only [rd, hk, hown, cond_true, hview]
          rfl
        · intro p hp
          rw [List.mem_singleton.1 hp]
          exact ⟨rfl, all_one hm, fun _ _ => rfl⟩
      · rename_i kk L hview
        cases hq
        refine rd_ok hr hF (hO rfl) (ms := [n = n ∧ n = L.length ∧ ∀ i, i < n → [RV.int kk (L.getD i 0)] = [RV.int kk (L.getD i 0)]]) ?_ ?_ hV
        · simp only [rd, hk, hown, cond_true, hview]
          rfl
        · intro p hp
          rw [List.mem_singleton.1 hp]
          exact ⟨rfl, all_one hm, fun _ _ => rfl⟩
      · cases hq
  · rename_i vs
    split at hq
    · cases hq
    · rename_i rs s' ms' hrs
      cases hq
      cases hV with
      | agg hv => exact .agg (rvsOf_ok hr hF hS hrs hm hv)
  · cases hq
theorem rvsOf_ok {γ : Gm} {h : Tr Blk} {nx : Nat} {w : World} (hr : HRel γ h.get nx w) {F : Fz} (hF : γ.fz.le F) {vs : List AV} {rs : List RV} {s : Bool} {ms : List Prop} (hS : s = true → ∀ B y, w.heap[B]? = some y → F B = some y) {Vs : List Value} (hq : rvsOf h vs = some (rs, s, ms)) (hm : ∀ p ∈ ms, p) (hV : VsRel γ vs Vs) : RsRel F rs Vs := by
  unfold rvsOf at hq
  split at hq
  · cases hq; cases hV; exact .nil
  · split at hq
    · cases hq
    · rename_i r s1 m1 h1
      split at hq
      · cases hq
      · rename_i rs' s2 m2 h2
        cases hq
        obtain ⟨hm1, hm2⟩ := split2 hm
        cases hV with
        | cons hv ht => exact .cons (rvOf_ok hr hF (fun hs => hS (by rw [hs]; rfl)) h1 hm1 hv) (rvsOf_ok hr hF (fun hs => hS (by rw [hs]; cases s1 <;> rfl)) h2 hm2 ht)
end
mutual
theorem RRel.flat {F F' : Fz} {r : RV} {V : Value} (hf : r.flatV = true) (h : RRel F r V) : RRel F' r V := by
  cases h with
  | bool b => exact .bool b
  | int k n => exact .int k n
  | str s => exact .str s
  | err h => exact .err h
  | sl0 sz row a c hn => simp [RV.flatV] at hf
  | sl cs hc hl hf' h => simp [RV.flatV] at hf
  | agg h => simp only [RV.flatV] at hf; exact .agg (RsRel.flat hf h)
  | tup h => simp only [RV.flatV] at hf; exact .tup (RsRel.flat hf h)
theorem RsRel.flat {F F' : Fz} {rs : List RV} {Vs : List Value} (hf : RV.flatVs rs = true) (h : RsRel F rs Vs) : RsRel F' rs Vs := by
  cases h with
  | nil => exact .nil
  | cons h t =>
    simp only [RV.flatVs, Bool.and_eq_true] at hf
    exact .cons (RRel.flat hf.1 h) (RsRel.flat hf.2 t)
end
theorem findE_mem : ∀ {l : List OEnt} {f : Nat} {e : OEnt}, findE l f = some e → e ∈ l ∧ e.f = f
  | [], f, e, h => by cases h
  | x :: l, f, e, h => by
    simp only [findE] at h
    cases hb : Nat.beq x.f f with
    | true => rw [hb] at h; cases h; exact ⟨List.mem_cons_self, beq_eq hb⟩
    | false =>
      rw [hb] at h
      obtain ⟨h1, h2⟩ := findE_mem h
      exact ⟨List.mem_cons_of_mem _ h1, h2⟩
theorem hasTab_ok {γ : Gm} {m : Tr Blk} {nx ng : Nat} {w : World} (hr : HRel γ m.get nx w) (hg : Glob ng γ) {t : Tb} (hlt : t.g < ng) (h : hasTab m t = true) : TabAt t w := by
  unfold hasTab at h
  split at h
  · rename_i cs el sz own hk
    obtain ⟨h1, h2⟩ := and_split h
    have h1 := beqTs_eq h1
    have h2 := beq_eq h2
    obtain ⟨B, x, Cs, ex, g1, g2, g3, g4, g5⟩ := hr.blk _ _ hk
    rw [hg t.g hlt] at g1
    cases g1
    have hex : ex = [] := List.eq_nil_of_length_eq_zero (by simpa using g4)
    subst hex
    have g3 : VsRel γ cs Cs := g3
    rw [h1] at g3
    have g2 : w.heap[t.g]? = some (.cells (Cs ++ []).toArray el (0, 0)) := g2
    rw [List.append_nil, h2] at g2
    exact TabAt.of_rel g2 g3
  · cases h
def EntOk (P : Program) (e : OEnt) : Prop := ∀ A R ms, e.go A = some (R, ms) → (∀ p ∈ ms, p) → PureC P e.tabs e.f A R
theorem orcOf_ok {P : Program} {ng : Nat} {ents : List OEnt} (he : ∀ e ∈ ents, EntOk P e) : CallOk P ng (orcOf ng ents) := by
  intro f args H v H' h
  unfold orcOf at h
  split at h
  · cases h
  · rename_i e hf
    obtain ⟨hmem, rfl⟩ := findE_mem hf
    split at h
    · cases h
    · rename_i A s m1 hA
      split at h
      · cases h
      · rename_i R m2 hgo
        have hb := (bif_some h).1
        replace h := (bif_some h).2
        cases h
        refine ⟨fun p hp => by simp [Hs.must, hp], fun hm γ w Args hr hV hg => ?_⟩
        obtain ⟨hb1, hb2⟩ := and_split hb
        have hm12 : ∀ p ∈ m1 ++ m2, p := fun p hp => hm p (by simp only [Hs.must]; exact List.mem_append_left _ hp)
        obtain ⟨hm1, hm2⟩ := split2 hm12
        obtain ⟨hfn, hpure⟩ := he e hmem A R m2 hgo hm2
        refine ⟨hfn, ?_⟩
        have hT : TabW e.tabs w := by
          intro t ht
          obtain ⟨q1, q2⟩ := and_split (List.all_eq_true.1 hb2 t ht)
          exact hasTab_ok hr hg (Nat.le_of_ble_eq_true q1) q2
        cases s with
        | false =>
          have hRs := rvsOf_ok hr (F := γ.fz) (fun _ _ h => h) (fun h => by cases h) hA hm1 hV
          refine (hpure w γ.fz Args hT hr.fzr hRs).mono ?_
          rintro x w' ⟨V, F', rfl, hle, hvld, hnew, hR, hbel⟩
          refine ⟨V, ⟨γ.nm, F'⟩, rfl, RRel.av (γ := ⟨γ.nm, F'⟩) hR, ?_, Nat.le_refl _, fun _ _ => rfl⟩
          have hγ : γ.le ⟨γ.nm, F'⟩ := ⟨fun _ _ h => h, hle⟩
          refine ⟨hγ, ⟨fun b k hb => ?_, hr.inj, hr.fresh, hvld, fun b k B x hb ho hgb => ?_⟩, hbel.size, hbel.os, hbel.tape, hbel.output, fun k hk _ => hbel.block k hk, fun k _ ho => ho, fun b k hb _ => hb, fun b k hb => .inl ⟨k, hb⟩, fun B x hB => ?_⟩
          · obtain ⟨B, x, cs, ex, g1, g2, g3, g4⟩ := hr.blk b k hb
            exact ⟨B, x, cs, ex, g1, by rw [hbel.block B (hr.lt hb g1)]; exact g2, g3.mono hγ, g4⟩
          · cases hz : F' B with
            | none => exact hz
            | some y =>
              rcases hnew B y hz with h1 | h1
              · rw [hr.fzo b k B x hb ho hgb] at h1; cases h1
              · exact absurd (hr.lt hb hgb) (by omega)
          · rcases hnew B x hB with h1 | h1
            · exact .inl h1
            · exact .inr (.inl h1)
        | true =>
          have hfl : R.flatV = true := by simpa using hb1
          have hRs := rvsOf_ok hr (F := fun B => w.heap[B]?) (fun B x h => hr.fzr B x h) (fun _ B y hy => hy) hA hm1 hV
          refine (hpure w (fun B => w.heap[B]?) Args hT (fun B x h => h) hRs).mono ?_
          rintro x w' ⟨V, F', rfl, hle, hvld, hnew, hR, hbel⟩
          refine ⟨V, γ, rfl, RRel.av (γ := γ) (hR.flat hfl), ?_, Nat.le_refl _, fun _ _ => rfl⟩
          refine ⟨Gm.le_refl γ, ⟨fun b k hb => ?_, hr.inj, hr.fresh, fun B x hB => ?_, hr.fzo⟩, hbel.size, hbel.os, hbel.tape, hbel.output, fun k hk _ => hbel.block k hk, fun k _ ho => ho, fun b k hb _ => hb, fun b k hb => .inl ⟨k, hb⟩, fun B x hB => .inl hB⟩
          · obtain ⟨B, x, cs, ex, g1, g2, g3, g4⟩ := hr.blk b k hb
            exact ⟨B, x, cs, ex, g1, by rw [hbel.block B (hr.lt hb g1)]; exact g2, g3, g4⟩
          · have h1 := hr.fzr B x hB
            rw [hbel.block B (Array.getElem?_eq_some_iff.1 h1).1]
            exact h1
def noOrc : CallF := fun _ _ _ => none
theorem noOrc_ok (P : Program) (ng : Nat) : CallOk P ng noOrc := by
  intro f args H v H' h
  cases h
def lzOf (P : Program) : Nat → Nat → Nat → Nat → Bool := fun e n o u => liesAt P P.depth e (n / P.cellsOf e) o u 1
theorem lzOf_ok (P : Program) : LiesOk P (lzOf P) := fun _ _ _ _ h => h
def envOf (P : Program) (ng ne conT : Nat) (sym : Bool) : Env := ⟨Tr.ofList P.types.toList, Tr.ofList P.funcs.toList, ng, lzOf P, ne, conT, sym⟩
theorem envOf_ok (P : Program) (ng ne conT : Nat) (sym : Bool) (h1 : Nat.blt P.types.toList.length 1000000 = true) (h2 : Nat.blt P.funcs.toList.length 1000000 = true) (h3 : P.funcs.toList.all (fun fn => !(fn.name == "runtime.NumGoroutine")) = true)
    (h4 : ∀ x w, (callFunc ne #[x]).run P w = .ok (.value x) w) (h5 : P.follows .mixedOrders = true) : EnvOk P (envOf P ng ne conT sym) where
  ti := by
    intro t i hi
    have hi' : (Tr.ofList P.types.toList).get t = some i := hi
    rw [Tr.get_ofList _ (Nat.le_of_ble_eq_true h1)] at hi'
    have h2 : P.types[t]? = some i := by simpa using hi'
    have hlt : t < P.types.size := (Array.getElem?_eq_some_iff.1 h2).1
    show Tables.info? P.toTables t = some i
    unfold Tables.info?
    rw [if_pos hlt]
    exact h2
  fs := by
    intro f
    show (Tr.ofList P.funcs.toList).get f = _
    rw [Tr.get_ofList _ (Nat.le_of_ble_eq_true h2)]
    simp
  lz := lzOf_ok P
  noesc := h4
  names := by
    intro f fn hf
    have := List.all_eq_true.1 h3 fn (by simpa using Array.mem_of_getElem? hf)
    simpa using this
  mixed := h5
end Go.QfSy

namespace Go.QfSy
open Go.RowKit
def look : List (Nat × Nat) → Nat → Nat
  | [], b => b
  | (a, c) :: l, b => bif Nat.beq a b then c else look l b
mutual
def ren (σ : Nat → Nat) : AV → AV
  | .ptr b o => .ptr (σ b) o
  | .slc b o n c => .slc (σ b) o n c
  | .lo b n => .lo (σ b) n
  | .lp b i z j => .lp (σ b) i z j
  | .fn f vs => .fn f (renl σ vs)
  | .ifc t v => .ifc t (ren σ v)
  | .agg vs => .agg (renl σ vs)
  | .tup vs => .tup (renl σ vs)
  | v => v
def renl (σ : Nat → Nat) : List AV → List AV
  | [] => []
  | v :: vs => ren σ v :: renl σ vs
end
mutual
def nmsOk (p : Nat → Bool) : AV → Bool
  | .ptr b _ => p b
  | .slc b _ _ _ => p b
  | .lo b _ => p b
  | .lp b _ _ _ => p b
  | .fn _ vs => nmslOk p vs
  | .ifc _ v => nmsOk p v
  | .agg vs => nmslOk p vs
  | .tup vs => nmslOk p vs
  | _ => true
def nmslOk (p : Nat → Bool) : List AV → Bool
  | [] => true
  | v :: vs => nmsOk p v && nmslOk p vs
end
mutual
theorem ren_back {γ1 γ2 : Gm} {σ : Nat → Nat} {p : Nat → Bool} (hs : ∀ b, p b = true → γ2 b = γ1 (σ b)) (hz : γ2.fz = γ1.fz) : ∀ {v : AV} {V : Value}, nmsOk p v = true → VRel γ1 (ren σ v) V → VRel γ2 v V := by
  intro v V hn h
  cases v with
  | ptr b o => simp only [ren] at h; cases h with | ptr _ hg => exact .ptr _ (by rw [hs b hn]; exact hg)
  | slc b o n c => simp only [ren] at h; cases h with | slc _ _ _ hg => exact .slc _ _ _ (by rw [hs b hn]; exact hg)
  | lo b n => simp only [ren] at h; cases h with | lo _ hg => exact .lo _ (by rw [hs b hn]; exact hg)
  | lp b i z j => simp only [ren] at h; cases h with | lp _ _ _ hg => exact .lp _ _ _ (by rw [hs b hn]; exact hg)
  | fn f vs => simp only [ren] at h; cases h with | fn _ hv => exact .fn _ (renl_back hs hz hn hv)
  | ifc t u => simp only [ren] at h; cases h with | ifc _ hv => exact .ifc _ (ren_back hs hz hn hv)
  | agg vs => simp only [ren] at h; cases h with | agg hv => exact .agg (renl_back hs hz hn hv)
  | tup vs => simp only [ren] at h; cases h with | tup hv => exact .tup (renl_back hs hz hn hv)
  | vbool b => simp only [ren] at h; cases h; exact .vbool _
  | vint k n => simp only [ren] at h; cases h; exact .vint _ _
  | vstr s => simp only [ren] at h; cases h; exact .vstr _
  | verr b => simp only [ren] at h; cases h with | verr hR => exact .verr hR
  | vnum k => simp only [ren] at h; cases h; exact .vnum _ _
  | ro n sz row => simp only [ren] at h; cases h with | ro hR => exact .ro (by rw [hz]; exact hR)
  | rp cs j => simp only [ren] at h; cases h with | rp hR hf => exact .rp (by rw [hz]; exact hR) (fun i v hv => by rw [hz]; exact hf i v hv)
  | z0 => simp only [ren] at h; cases h; exact .z0 _
  | bool b => simp only [ren] at h; cases h; exact .bool _
  | int k n => simp only [ren] at h; cases h; exact .int _ _
  | str s => simp only [ren] at h; cases h; exact .str _
  | nilp => simp only [ren] at h; cases h; exact .nilp
  | nils => simp only [ren] at h; cases h; exact .nils
  | emp => simp only [ren] at h; cases h; exact .emp _ _
  | zer => simp only [ren] at h; cases h; exact .zer _
  | nilfn => simp only [ren] at h; cases h; exact .nilfn
  | nilif => simp only [ren] at h; cases h; exact .nilif
theorem renl_back {γ1 γ2 : Gm} {σ : Nat → Nat} {p : Nat → Bool} (hs : ∀ b, p b = true → γ2 b = γ1 (σ b)) (hz : γ2.fz = γ1.fz) : ∀ {vs : List AV} {Vs : List Value}, nmslOk p vs = true → VsRel γ1 (renl σ vs) Vs → VsRel γ2 vs Vs := by
  intro vs Vs hn h
  cases vs with
  | nil => simp only [renl] at h; cases h; exact .nil
  | cons v vs =>
    simp only [renl] at h
    simp only [nmslOk, Bool.and_eq_true] at hn
    cases h with
    | cons hv ht => exact .cons (ren_back hs hz hn.1 hv) (renl_back hs hz hn.2 ht)
end
def renV (σ : Nat → Nat) : View → View
  | .plain cs => .plain (renl σ cs)
  | .rows k L b n => .rows k L (σ b) n
  | v => v
def renB (σ : Nat → Nat) (k : Blk) : Blk := { k with view := renV σ k.view }
def nmsV (p : Nat → Bool) : View → Bool
  | .plain cs => nmslOk p cs
  | .rows _ _ b _ => p b
  | _ => true
def inNames (base : Nat) (rn : List (Nat × Nat)) (b : Nat) : Bool := Nat.blt b base || rn.any (fun p => Nat.beq p.1 b)
def subT2 (σ : Nat → Nat) (p : Nat → Bool) (T : Tr AV) : List (Nat × AV) → Option (List Prop)
  | [] => some []
  | (t, v) :: l => match T.get t with
    | none => none
    | some u => bif nmsOk p v then (match sameS u (ren σ v) with
      | none => none
      | some m1 => match subT2 σ p T l with
        | none => none
        | some m2 => some (m1 ++ m2)) else none
def subM2 (σ : Nat → Nat) (p : Nat → Bool) (m : Tr Blk) : List (Nat × Blk) → Option (List Prop)
  | [] => some []
  | (b, k) :: l => bif p b && nmsV p k.view then (match m.get (σ b) with
    | none => none
    | some k' => match sameB k' (renB σ k) with
      | none => none
      | some m1 => match subM2 σ p m l with
        | none => none
        | some m2 => some (m1 ++ m2)) else none
def beqE : AEx → AEx → Bool
  | .normal, .normal => true
  | .exit i, .exit j => Nat.beq i j
  | .ret, .ret => true
  | _, _ => false
def apartN : List Nat → Bool
  | [] => true
  | a :: l => l.all (fun b => !Nat.beq a b) && apartN l
def outS (x : Option (AEx × Tr AV × Hs)) (e : AEx) (S : St) (base : Nat) (rn : List (Nat × Nat)) : Option (List Prop) := match x with
  | none => none
  | some (e', T, H) =>
    bif beqE e e' && rn.all (fun p => Nat.ble base p.1 && Nat.blt p.1 S.nx) && apartN (rn.map (·.1)) && apartN (rn.map (·.2)) && rn.all (fun p => S.m.all (fun q => !(Nat.blt q.1 base) || !(Nat.beq q.1 p.2))) && okNames S.T && okNames S.m && Nat.ble base S.nx && S.m.all (fun q => q.2.own || (Nat.blt q.1 base && nmsV (fun _ => false) q.2.view)) then
      match subT2 (look rn) (inNames base rn) T S.T with
      | none => none
      | some m1 => match subM2 (look rn) (inNames base rn) H.m S.m with
        | none => none
        | some m2 => some (m1 ++ m2 ++ H.ms)
    else none
mutual
theorem ren_none {σ : Nat → Nat} : ∀ {v : AV}, nmsOk (fun _ => false) v = true → ren σ v = v := by
  intro v h
  cases v with
  | fn f vs => simp only [nmsOk] at h; simp only [ren, renl_none h]
  | ifc t v => simp only [nmsOk] at h; simp only [ren, ren_none h]
  | agg vs => simp only [nmsOk] at h; simp only [ren, renl_none h]
  | tup vs => simp only [nmsOk] at h; simp only [ren, renl_none h]
  | _ => first | rfl | (simp [nmsOk] at h)
theorem renl_none {σ : Nat → Nat} : ∀ {vs : List AV}, nmslOk (fun _ => false) vs = true → renl σ vs = vs := by
  intro vs h
  cases vs with
  | nil => rfl
  | cons v vs =>
    simp only [nmslOk, Bool.and_eq_true] at h
    simp only [renl, ren_none h.1, renl_none h.2]
end
theorem beqE_ok {e e' : AEx} (h : beqE e e' = true) : e = e' := by
  cases e <;> cases e' <;> first | rfl | (simp only [beqE] at h; first | (cases h; done) | (rw [beq_eq h]))
theorem look_base : ∀ {rn : List (Nat × Nat)} {base b : Nat}, rn.all (fun p => Nat.ble base p.1) = true → b < base → look rn b = b
  | [], _, _, _, _ => rfl
  | (a, c) :: l, base, b, h, hb => by
    simp only [List.all_cons, Bool.and_eq_true] at h
    have h1 := Nat.le_of_ble_eq_true h.1
    simp only [look]
    cases hx : Nat.beq a b with
    | true => have := beq_eq hx; omega
    | false => exact look_base h.2 hb
theorem look_mem : ∀ {rn : List (Nat × Nat)} {b : Nat}, rn.any (fun p => Nat.beq p.1 b) = true → (b, look rn b) ∈ rn
  | [], _, h => by cases h
  | (a, c) :: l, b, h => by
    simp only [look]
    cases hx : Nat.beq a b with
    | true => have := beq_eq hx; subst this; exact List.mem_cons_self
    | false =>
      simp only [List.any_cons, hx, Bool.false_or] at h
      exact List.mem_cons_of_mem _ (look_mem h)
theorem apart_inj : ∀ {rn : List (Nat × Nat)}, apartN (rn.map (·.2)) = true → ∀ {a b c : Nat}, (a, c) ∈ rn → (b, c) ∈ rn → a = b
  | [], _, _, _, _, h, _ => by cases h
  | (x, y) :: l, h, a, b, c, ha, hb => by
    simp only [List.map_cons, apartN, Bool.and_eq_true] at h
    have key : ∀ a, (a, y) ∈ l → False := by
      intro a ha
      have := List.all_eq_true.1 h.1 y (List.mem_map.2 ⟨(a, y), ha, rfl⟩)
      rw [Nat.beq_refl] at this
      cases this
    rcases List.mem_cons.1 ha with e | ha
    · cases e
      rcases List.mem_cons.1 hb with e | hb
      · cases e; rfl
      · exact (key _ hb).elim
    · rcases List.mem_cons.1 hb with e | hb
      · cases e; exact (key _ ha).elim
      · exact apart_inj h.2 ha hb
theorem subT2_ok {σ : Nat → Nat} {p : Nat → Bool} {T : Tr AV} : ∀ (l : List (Nat × AV)) (ms : List Prop), subT2 σ p T l = some ms → (∀ q ∈ ms, q) → ∀ t v, (t, v) ∈ l → ∃ u, T.get t = some u ∧ Imp u (ren σ v) ∧ nmsOk p v = true
  | [], ms, h, hm, t, v, ht => by simp at ht
  | (t0, v0) :: l, ms, h, hm, t, v, ht => by
    simp only [subT2] at h
    split at h
    · cases h
    · rename_i u hu
      have hn := (bif_some h).1
      replace h := (bif_some h).2
      split at h
      · cases h
      · rename_i m1 h1
        split at h
        · cases h
        · rename_i m2 h2
          cases h
          obtain ⟨hm1, hm2⟩ := split2 hm
          rcases List.mem_cons.1 ht with e | ht
          · cases e; exact ⟨u, hu, sameS_ok h1 hm1, hn⟩
          · exact subT2_ok l m2 h2 hm2 t v ht
theorem subM2_ok {σ : Nat → Nat} {p : Nat → Bool} {m : Tr Blk} : ∀ (l : List (Nat × Blk)) (ms : List Prop), subM2 σ p m l = some ms → (∀ q ∈ ms, q) → ∀ b k, (b, k) ∈ l → p b = true ∧ nmsV p k.view = true ∧ ∃ k', m.get (σ b) = some k' ∧ k.elem = k'.elem ∧ k.sz = k'.sz ∧ k.opn = k'.opn ∧ k.own = k'.own ∧ (∀ γ cs, VsRel γ k'.cells cs → VsRel γ (renB σ k).cells cs) ∧ (k.own = false → k' = renB σ k)
  | [], ms, h, hm, b, k, hb => by simp at hb
  | (b0, k0) :: l, ms, h, hm, b, k, hb => by
    simp only [subM2] at h
    have hn := (bif_some h).1
    replace h := (bif_some h).2
    obtain ⟨hn1, hn2⟩ := and_split hn
    split at h
    · cases h
    · rename_i k' hk'
      split at h
      · cases h
      · rename_i m1 h1
        split at h
        · cases h
        · rename_i m2 h2
          cases h
          obtain ⟨hm1, hm2⟩ := split2 hm
          rcases List.mem_cons.1 hb with e | hb
          · cases e
            obtain ⟨r1, r2, r3, r4, r5, r6⟩ := sameB_ok h1 hm1
            exact ⟨hn1, hn2, k', hk', r1, r2, r3, r4, r5, r6⟩
          · exact subM2_ok l m2 h2 hm2 b k hb
theorem con_cells {γ1 γ2 : Gm} : ∀ (L : List Con) (cs : List Value), VsRel γ1 (L.flatMap Con.avs) cs → VsRel γ2 (L.flatMap Con.avs) cs
  | [], cs, h => by cases h; exact .nil
  | c :: L, cs, h => by
    have e : (c :: L).flatMap Con.avs = .vint .i64 c.exp :: .vint .i64 c.dim :: .vint .i64 c.sign :: .vbool c.odd :: .vint .i64 c.oddity :: L.flatMap Con.avs := rfl
    rw [e] at h ⊢
    cases h with | cons h1 t1 =>
    cases t1 with | cons h2 t2 =>
    cases t2 with | cons h3 t3 =>
    cases t3 with | cons h4 t4 =>
    cases t4 with | cons h5 t5 =>
    cases h1; cases h2; cases h3; cases h4; cases h5
    exact .cons (.vint _ _) (.cons (.vint _ _) (.cons (.vint _ _) (.cons (.vbool _) (.cons (.vint _ _) (con_cells L _ t5)))))
theorem int_cells {γ1 γ2 : Gm} (k : IntKind) : ∀ (L : List Int) (cs : List Value), VsRel γ1 (L.map (AV.vint k)) cs → VsRel γ2 (L.map (AV.vint k)) cs
  | [], cs, h => by cases h; exact .nil
  | c :: L, cs, h => by cases h with | cons h1 h2 => cases h1; exact .cons (.vint _ _) (int_cells k L _ h2)
theorem renB_cells {γ1 γ2 : Gm} {σ : Nat → Nat} {p : Nat → Bool} (hs : ∀ b, p b = true → γ2 b = γ1 (σ b)) (hz : γ2.fz = γ1.fz) {k : Blk} (hn : nmsV p k.view = true) {cs : List Value} (h : VsRel γ1 (renB σ k).cells cs) : VsRel γ2 k.cells cs := by
  obtain ⟨view, el, sz, opn, own⟩ := k
  cases view with
  | plain l => exact renl_back hs hz hn h
  | con L => exact con_cells L cs h
  | ints kk L => exact int_cells kk L cs h
  | rows kk L b n =>
    refine renl_back (σ := σ) hs hz (vs := L.map (roI kk) ++ [.lo b n]) ?_ ?_
    · replace hn : p b = true := hn
      clear h
      induction L with
      | nil => simp [nmslOk, nmsOk, hn]
      | cons l L ih => simp only [List.map_cons, List.cons_append, nmslOk, ih, Bool.and_true]; rfl
    · have e : renl σ (L.map (roI kk) ++ [.lo b n]) = L.map (roI kk) ++ [.lo (σ b) n] := by
        clear h hn
        induction L with
        | nil => rfl
        | cons l L ih => simp only [List.map_cons, List.cons_append, renl, ih]; rfl
      rw [e]
      exact h
theorem outS_ok {ng N : Nat} {γ0 : Gm} {H0 : Hs} {w0 : World} (hr0 : HRel γ0 H0.m.get H0.nx w0) (hng : ng ≤ H0.nx) {e e' : AEx} {T : Tr AV} {H : Hs} {S : St} {rn : List (Nat × Nat)} {ms : List Prop} (h : outS (some (e', T, H)) e S H0.nx rn = some ms) (hm : ∀ q ∈ ms, q)
    {γ1 : Gm} {a : Act} {w : World} (hf : FRel γ1 ng T N a) (hR : RunR γ0 H0 w0 γ1 H w) : e = e' ∧ ∃ γ2, FRel γ2 ng (trOf S.T) N a ∧ RunR γ0 H0 w0 γ2 ⟨trOf S.m, S.nx, [], []⟩ w := by
  unfold outS at h
  simp only at h
  have hc := (bif_some h).1
  replace h := (bif_some h).2
  simp only [Bool.and_eq_true] at hc
  obtain ⟨⟨⟨⟨⟨⟨⟨⟨c1, c2⟩, c3⟩, c4⟩, c5⟩, c6⟩, c7⟩, c8⟩, c9⟩ := hc
  have c8 := Nat.le_of_ble_eq_true c8
  refine ⟨beqE_ok c1, ?_⟩
  split at h
  · cases h
  · rename_i m1 h1
    split at h
    · cases h
    · rename_i m2 h2
      cases h
      obtain ⟨hm12, _⟩ := split2 hm
      obtain ⟨hm1, hm2⟩ := split2 hm12
      have c2a : rn.all (fun p => Nat.ble H0.nx p.1) = true := by
        rw [List.all_eq_true] at c2 ⊢
        intro p hp
        exact (and_split (c2 p hp)).1
      have hkey : ∀ b, rn.any (fun p => Nat.beq p.1 b) = true → H0.nx ≤ b ∧ b < S.nx := by
        intro b hb
        have := c2
        rw [List.all_eq_true] at this
        obtain ⟨q1, q2⟩ := and_split (this _ (look_mem hb))
        exact ⟨Nat.le_of_ble_eq_true q1, Nat.le_of_ble_eq_true q2⟩
      let γ2 : Gm := ⟨fun b => if b < H0.nx then γ1 b else if rn.any (fun p => Nat.beq p.1 b) = true then γ1 (look rn b) else none, γ1.fz⟩
      have hs : ∀ b, inNames H0.nx rn b = true → γ2 b = γ1 (look rn b) := by
        intro b hb
        unfold inNames at hb
        by_cases hlt : b < H0.nx
        · show (if b < H0.nx then _ else _) = _
          rw [if_pos hlt, look_base c2a hlt]
        · have : rn.any (fun p => Nat.beq p.1 b) = true := by
            rcases or_split hb with h' | h'
            · exact absurd (Nat.le_of_ble_eq_true h') (by omega)
            · exact h'
          show (if b < H0.nx then _ else _) = _
          rw [if_neg hlt, if_pos this]
      have hbase : ∀ b, b < H0.nx → γ2 b = γ1 b := by
        intro b hb
        show (if b < H0.nx then _ else _) = _
        rw [if_pos hb]
      have hmem : ∀ b k, (trOf S.m).get b = some k → (b, k) ∈ S.m := fun b k hb => trOf_get _ _ _ c7 hb
      have hblk : ∀ b k, (trOf S.m).get b = some k → inNames H0.nx rn b = true ∧ nmsV (inNames H0.nx rn) k.view = true ∧ ∃ k', H.m.get (look rn b) = some k' ∧ k.elem = k'.elem ∧ k.sz = k'.sz ∧ k.opn = k'.opn ∧ k.own = k'.own ∧ (∀ γ cs, VsRel γ k'.cells cs → VsRel γ (renB (look rn) k).cells cs) ∧ (k.own = false → k' = renB (look rn) k) :=
        fun b k hb => subM2_ok _ _ h2 hm2 b k (hmem b k hb)
      have hown : ∀ B, OwnImg γ2 (trOf S.m).get B → OwnImg γ1 H.m.get B := by
        rintro B ⟨b, k, x, q1, q2, q3⟩
        obtain ⟨r1, r2, k', r3, r4, r5, r6, r7, r8, r9⟩ := hblk b k q1
        exact ⟨look rn b, k', x, r3, by rw [← r7]; exact q2, by rw [← hs b r1]; exact q3⟩
      refine ⟨γ2, ⟨hf.defers, hf.size, fun t v hv => ?_, fun g hg => ?_⟩, ⟨⟨⟨fun b q hb => ?_, hR.stp.le.fz⟩, ⟨?_, ?_, ?_, hR.stp.rel.fzr, ?_⟩, hR.stp.size, hR.stp.os, hR.stp.tape, hR.stp.output, hR.stp.frame, fun k hk ho => hR.stp.own k hk (hown k ho), ?_, ?_, hR.stp.fzn⟩, c8, fun b hb => ?_⟩⟩
      · obtain ⟨u, q1, q2, q3⟩ := subT2_ok _ _ h1 hm1 t v (trOf_get _ _ _ c6 hv)
        exact ren_back hs rfl q3 (q2 γ1 _ (hf.tmp t u q1))
      · rw [hbase g (by omega)]; exact hf.glob g hg
      · have hlt : b < H0.nx := by
          rcases Nat.lt_or_ge b H0.nx with h' | h'
          · exact h'
          · rw [hr0.fresh b h'] at hb; cases hb
        rw [hbase b hlt]
        exact hR.stp.le.nm b q hb
      · intro b k hb
        obtain ⟨r1, r2, k', r3, r4, r5, r6, r7, r8, r9⟩ := hblk b k hb
        obtain ⟨B, x, cs, ex, g1, g2, g3, g4, g5⟩ := hR.stp.rel.blk _ _ r3
        exact ⟨B, x, cs, ex, by rw [hs b r1]; exact g1, by rw [r4]; exact g2, renB_cells hs rfl r2 (r8 γ1 cs g3), by rw [r5]; exact g4, by rw [r6]; exact g5⟩
      · intro b b' k k' B x x' q1 q2 q3 q4
        obtain ⟨r1, _, kk, r3, _⟩ := hblk b k q1
        obtain ⟨s1, _, kk', s3, _⟩ := hblk b' k' q2
        rw [hs b r1] at q3
        rw [hs b' s1] at q4
        have heq := hR.stp.rel.inj _ _ _ _ _ _ _ r3 s3 q3 q4
        have mixed : ∀ b b' k, (b, k) ∈ S.m → b < H0.nx → ¬ b' < H0.nx → inNames H0.nx rn b' = true → look rn b = look rn b' → False := by
          intro b b' k hk hb hb' hn he
          rw [look_base c2a hb] at he
          unfold inNames at hn
          have hany : rn.any (fun p => Nat.beq p.1 b') = true := by
            rcases or_split hn with h' | h'
            · exact absurd (Nat.le_of_ble_eq_true h') (by omega)
            · exact h'
          have hm' := look_mem hany
          have := List.all_eq_true.1 (List.all_eq_true.1 c5 _ hm') _ hk
          simp only [he] at this
          rw [Nat.beq_refl] at this
          have hbl : Nat.blt (look rn b') H0.nx = true := Nat.ble_eq_true_of_le (by rw [← he]; exact hb)
          rw [hbl] at this
          cases this
        by_cases hb : b < H0.nx
        · by_cases hb' : b' < H0.nx
          · rw [look_base c2a hb, look_base c2a hb'] at heq; exact heq
          · exact (mixed b b' k (hmem _ _ q1) hb hb' s1 heq).elim
        · by_cases hb' : b' < H0.nx
          · exact (mixed b' b k' (hmem _ _ q2) hb' hb r1 heq.symm).elim
          · have a1 : rn.any (fun p => Nat.beq p.1 b) = true := by
              unfold inNames at r1
              rcases or_split r1 with h' | h'
              · exact absurd (Nat.le_of_ble_eq_true h') (by omega)
              · exact h'
            have a2 : rn.any (fun p => Nat.beq p.1 b') = true := by
              unfold inNames at s1
              rcases or_split s1 with h' | h'
              · exact absurd (Nat.le_of_ble_eq_true h') (by omega)
              · exact h'
            have m1 := look_mem a1
            have m2 := look_mem a2
            rw [heq] at m1
            exact apart_inj c4 m1 m2
      · intro b hb
        show (if b < H0.nx then _ else _) = _
        have hb : S.nx ≤ b := hb
        rw [if_neg (by omega), if_neg]
        intro hany
        have := (hkey b hany).2
        omega
      · intro b k B x hb ho hg
        obtain ⟨r1, r2, k', r3, r4, r5, r6, r7, r8, r9⟩ := hblk b k hb
        rw [hs b r1] at hg
        exact hR.stp.rel.fzo _ k' B x r3 (by rw [← r7]; exact ho) hg
      · intro b k hb ho
        obtain ⟨r1, r2, k', r3, r4, r5, r6, r7, r8, r9⟩ := hblk b k hb
        have := List.all_eq_true.1 c9 _ (hmem b k hb)
        simp only [ho, Bool.false_or] at this
        obtain ⟨q1, q2⟩ := and_split this
        have hlt := Nat.le_of_ble_eq_true q1
        rw [look_base c2a hlt] at r3
        have hk : renB (look rn) k = k := by
          obtain ⟨view, el, sz, opn, own⟩ := k
          cases view with
          | plain l => simp only [nmsV] at q2; simp only [renB, renV, renl_none q2]
          | con L => rfl
          | ints kk L => rfl
          | rows kk L b n => simp [nmsV] at q2
        rw [r9 ho, hk] at r3
        exact hR.stp.ro b k r3 ho
      · intro b k hb
        obtain ⟨r1, r2, k', r3, _⟩ := hblk b k hb
        by_cases hlt : b < H0.nx
        · rw [look_base c2a hlt] at r3
          exact hR.stp.dom b k' r3
        · exact .inr (hr0.fresh b (by omega))
      · rw [hbase b hb]; exact hR.keep b hb
def TestOk (A : Ann) (d : Bool) : Prop := match A.test with
  | none => d = true
  | some c => c = d
def stH (S : St) (tp : List Bool) : Hs := ⟨trOf S.m, S.nx, tp, []⟩
theorem ann_of_body {P : Program} {E : Env} (hE : EnvOk P E) {call : CallF} (hc : CallOk P E.ng call) {c0 : Code} {N : Nat} {p : List Nat} {b : Code} (hp : subC p.reverse c0 = some (.loop b)) {A : Ann} (hng : Nat.ble E.ng A.pre.nx = true)
    {ι : Type} (S : ι → St) (μ : ι → Nat) (I : Bool → ι → Prop) {lo : ι → List Nat → Option Ann} (hlo : ∀ d i, TestOk A d → I d i → LoOk P E.ng N (lo i) c0)
    (hstart : ∀ d, TestOk A d → ∃ i rn ms, outS (some (.normal, trOf A.pre.T, stH A.pre [])) .normal (S i) A.pre.nx rn = some ms ∧ allP ms ∧ I d i)
    (hbody : ∀ d, TestOk A d → ∀ i, I d i → ∃ tp,
      (∃ j rn ms, outS (evCode E call (lo i) N 100000 (0 :: p) b (trOf (S i).T) (stH (S i) tp)) .normal (S j) A.pre.nx rn = some ms ∧ allP ms ∧ μ j < μ i ∧ I d j) ∨
      (∃ rn ms, outS (evCode E call (lo i) N 100000 (0 :: p) b (trOf (S i).T) (stH (S i) tp)) (A.post d).1 (A.post d).2 A.pre.nx rn = some ms ∧ allP ms ∧ beqE (A.post d).1 .normal = false)) : AnnOk P E.ng N b A := by
  intro d hd γ a w hf hr
  have hng := Nat.le_of_ble_eq_true hng
  let H0 : Hs := ⟨trOf A.pre.m, A.pre.nx, [], []⟩
  have hr0 : HRel γ H0.m.get H0.nx w := hr
  have hpb : subC (0 :: p).reverse c0 = some b := by
    rw [List.reverse_cons, subC_append, hp]
    cases b <;> rfl
  have hJ : ∀ (n : Nat) (a1 : Act) (w1 : World), (∃ i, μ i = n ∧ I d i ∧ ∃ γ1, FRel γ1 E.ng (trOf (S i).T) N a1 ∧ RunR γ H0 w γ1 ⟨trOf (S i).m, (S i).nx, [], []⟩ w1) →
      b.wp P (Exit.then (fun a' w' => ∃ n', n' < n ∧ ∃ i, μ i = n' ∧ I d i ∧ ∃ γ1, FRel γ1 E.ng (trOf (S i).T) N a' ∧ RunR γ H0 w γ1 ⟨trOf (S i).m, (S i).nx, [], []⟩ w') (fun x a' w' => x = (A.post d).1.den ∧ ∃ γ', FRel γ' E.ng (trOf (A.post d).2.T) N a' ∧ RunR γ ⟨trOf A.pre.m, A.pre.nx, [], []⟩ w γ' ⟨trOf (A.post d).2.m, (A.post d).2.nx, [], []⟩ w')) a1 w1 := by
    rintro n a1 w1 ⟨i, rfl, hI, γ1, hf1, hR1⟩
    obtain ⟨tp, h⟩ := hbody d hd i hI
    generalize hev : evCode E call (lo i) N 100000 (0 :: p) b (trOf (S i).T) (stH (S i) tp) = r at h
    cases r with
    | none => rcases h with ⟨j, rn, ms, h1, _⟩ | ⟨rn, ms, h1, _⟩ <;> (unfold outS at h1; cases h1)
    | some r =>
      obtain ⟨e', T', H'⟩ := r
      have hms : ∀ q ∈ H'.ms, q := by
        have key : ∀ {e : AEx} {S' : St} {rn : List (Nat × Nat)} {ms : List Prop}, outS (some (e', T', H')) e S' A.pre.nx rn = some ms → allP ms → ∀ q ∈ H'.ms, q := by
          intro e S' rn ms h1 h2 q hq
          rw [allP_iff] at h2
          unfold outS at h1
          simp only at h1
          replace h1 := (bif_some h1).2
          split at h1
          · cases h1
          · split at h1
            · cases h1
            · cases h1
              exact h2 q (List.mem_append_right _ hq)
        rcases h with ⟨j, rn, ms, h1, h2, _⟩ | ⟨rn, ms, h1, h2, _⟩
        · exact key h1 h2
        · exact key h1 h2
      refine wp_mono ((evCode_both hE hc (hlo d i hd hI) _).1 (0 :: p) b _ T' _ H' e' hpb hev hms γ1 a1 w1 hf1 hR1.stp.rel) ?_
      rintro x a' w' ⟨rfl, γ', hf', hR'⟩
      have hRR : RunR γ H0 w γ' H' w' := ⟨hR1.stp.trans hR'.stp, Nat.le_trans hR1.nx hR'.nx, fun c hc' => (hR'.keep c (Nat.lt_of_lt_of_le hc' hR1.nx)).trans (hR1.keep c hc')⟩
      rcases h with ⟨j, rn, ms, h1, h2, h3, h4⟩ | ⟨rn, ms, h1, h2, h3⟩
      · obtain ⟨he, γ2, g1, g2⟩ := outS_ok (ng := E.ng) hr0 hng h1 ((allP_iff ms).1 h2) hf' hRR
        subst he
        exact ⟨μ j, h3, j, rfl, h4, γ2, g1, g2⟩
      · obtain ⟨he, γ2, g1, g2⟩ := outS_ok (ng := E.ng) hr0 hng h1 ((allP_iff ms).1 h2) hf' hRR
        subst he
        have fin : (A.post d).1.den = (A.post d).1.den ∧ ∃ γ', FRel γ' E.ng (trOf (A.post d).2.T) N a' ∧ RunR γ ⟨trOf A.pre.m, A.pre.nx, [], []⟩ w γ' ⟨trOf (A.post d).2.m, (A.post d).2.nx, [], []⟩ w' := ⟨rfl, γ2, g1, g2⟩
        cases hx : (A.post d).1 with
        | normal => rw [hx] at h3; cases h3
        | exit j => rw [hx] at fin; exact fin
        | ret => rw [hx] at fin; exact fin
  obtain ⟨i, rn, ms, h1, h2, h3⟩ := hstart d hd
  obtain ⟨_, γ2, g1, g2⟩ := outS_ok (ng := E.ng) (N := N) hr0 hng h1 ((allP_iff ms).1 h2) hf (H := stH A.pre []) ⟨Stp.refl hr0, Nat.le_refl _, fun _ _ => rfl⟩
  exact wp_loop_ghost (fun n a1 w1 => ∃ i, μ i = n ∧ I d i ∧ ∃ γ1, FRel γ1 E.ng (trOf (S i).T) N a1 ∧ RunR γ H0 w γ1 ⟨trOf (S i).m, (S i).nx, [], []⟩ w1) (μ i) ⟨i, rfl, h3, γ2, g1, g2⟩ hJ
end Go.QfSy

namespace Go.QfSy
open Go.RowKit
mutual
def pairV : AV → AV → List (Nat × Nat)
  | .lo c _, .lo b _ => [(c, b)]
  | .ptr c _, .ptr b _ => [(c, b)]
  | .slc c _ _ _, .slc b _ _ _ => [(c, b)]
  | .lp c _ _ _, .lp b _ _ _ => [(c, b)]
  | .agg vs, .agg us => pairVs vs us
  | .tup vs, .tup us => pairVs vs us
  | .fn _ vs, .fn _ us => pairVs vs us
  | _, _ => []
def pairVs : List AV → List AV → List (Nat × Nat)
  | v :: vs, u :: us => pairV v u ++ pairVs vs us
  | _, _ => []
end
def pairT (T : Tr AV) : List (Nat × AV) → List (Nat × Nat)
  | [] => []
  | (t, v) :: l => (match T.get t with
    | none => []
    | some u => pairV v u) ++ pairT T l
def pairM (base : Nat) (m : Tr Blk) : List (Nat × Blk) → List (Nat × Nat)
  | [] => []
  | (b, k) :: l => (bif Nat.blt b base then (match m.get b with
    | none => []
    | some k' => match k.view, k'.view with
      | .plain cs, .plain cs' => pairVs cs cs'
      | _, _ => []) else []) ++ pairM base m l
def dedup (base : Nat) : List (Nat × Nat) → List (Nat × Nat) → List (Nat × Nat)
  | [], acc => acc
  | (c, b) :: l, acc => bif Nat.blt c base || acc.any (fun p => Nat.beq p.1 c) then dedup base l acc else dedup base l ((c, b) :: acc)
def pairR (rn : List (Nat × Nat)) (m : Tr Blk) : List (Nat × Blk) → List (Nat × Nat)
  | [] => []
  | (b, k) :: l => (match k.view with
    | .rows _ _ c _ => (match m.get (look rn b) with
      | none => []
      | some k' => match k'.view with
        | .rows _ _ c' _ => [(c, c')]
        | _ => [])
    | _ => []) ++ pairR rn m l
def autoRn2 (base : Nat) (rn : List (Nat × Nat)) (m : Tr Blk) (S : St) : List (Nat × Nat) := dedup base (pairR rn m S.m) rn
def autoRn (base : Nat) (x : Option (AEx × Tr AV × Hs)) (S : St) : List (Nat × Nat) := match x with
  | none => []
  | some (_, T, H) => autoRn2 base (dedup base (pairT T S.T ++ pairM base H.m S.m) []) H.m S
def outA (x : Option (AEx × Tr AV × Hs)) (e : AEx) (S : St) (base : Nat) : Option (List Prop) := outS x e S base (autoRn base x S)
def bodyAt (fn : Func) (p : List Nat) : Code := match fn.body with
  | none => .skip
  | some c => match subC p.reverse c with
    | some (.loop b) => b
    | _ => .skip
def loL : List (List Nat × Ann) → List Nat → Option Ann
  | [], _ => none
  | (p, A) :: l, q => bif beqL p q then some A else loL l q
theorem beqL_eq : ∀ {p q : List Nat}, beqL p q = true → p = q
  | [], [], _ => rfl
  | [], _ :: _, h => by cases h
  | _ :: _, [], h => by cases h
  | a :: p, b :: q, h => by
    simp only [beqL, Bool.and_eq_true] at h
    rw [beq_eq h.1, beqL_eq h.2]
theorem loL_mem : ∀ {l : List (List Nat × Ann)} {q : List Nat} {A : Ann}, loL l q = some A → (q, A) ∈ l
  | [], _, _, h => by cases h
  | (p, B) :: l, q, A, h => by
    simp only [loL] at h
    cases hb : beqL p q with
    | true => rw [hb] at h; cases h; rw [beqL_eq hb]; exact List.mem_cons_self
    | false => rw [hb] at h; exact List.mem_cons_of_mem _ (loL_mem h)
theorem bodyAt_eq {fn : Func} {c : Code} (hc : fn.body = some c) {p : List Nat} {b : Code} (h : subC p.reverse c = some (.loop b)) : bodyAt fn p = b := by
  unfold bodyAt
  rw [hc]
  simp only [h]
theorem loL_ok {P : Program} {ng N : Nat} {fn : Func} {c : Code} (hc : fn.body = some c) {l : List (List Nat × Ann)} (h : ∀ x ∈ l, AnnOk P ng N (bodyAt fn x.1) x.2) : LoOk P ng N (loL l) c := by
  intro p A b hl hs
  have := h _ (loL_mem hl)
  rw [bodyAt_eq hc hs] at this
  exact this
def isLoop (fn : Func) (p : List Nat) : Bool := match fn.body with
  | none => false
  | some c => match subC p.reverse c with
    | some (.loop _) => true
    | _ => false
theorem isLoop_ok {fn : Func} {p : List Nat} (h : isLoop fn p = true) : ∃ c, fn.body = some c ∧ subC p.reverse c = some (.loop (bodyAt fn p)) := by
  unfold isLoop at h
  split at h
  · cases h
  · rename_i c hc
    split at h
    · rename_i b hb
      exact ⟨c, hc, by rw [bodyAt_eq hc hb]; exact hb⟩
    · cases h
theorem ann_of {P : Program} {E : Env} (hE : EnvOk P E) {call : CallF} (hc : CallOk P E.ng call) {fn : Func} {N : Nat} {inner : List (List Nat × Ann)} (hin : ∀ x ∈ inner, AnnOk P E.ng N (bodyAt fn x.1) x.2) {p : List Nat} (hp : isLoop fn p = true) {A : Ann} (hng : Nat.ble E.ng A.pre.nx = true)
    {ι : Type} (S : ι → St) (μ : ι → Nat) (I : Bool → ι → Prop)
    (hstart : ∀ d, TestOk A d → ∃ i ms, outA (some (.normal, trOf A.pre.T, stH A.pre [])) .normal (S i) A.pre.nx = some ms ∧ allP ms ∧ I d i)
    (hbody : ∀ d, TestOk A d → ∀ i, I d i → ∃ tp,
      (∃ j ms, outA (evCode E call (loL inner) N 100000 (0 :: p) (bodyAt fn p) (trOf (S i).T) (stH (S i) tp)) .normal (S j) A.pre.nx = some ms ∧ allP ms ∧ μ j < μ i ∧ I d j) ∨
      (∃ ms, outA (evCode E call (loL inner) N 100000 (0 :: p) (bodyAt fn p) (trOf (S i).T) (stH (S i) tp)) (A.post d).1 (A.post d).2 A.pre.nx = some ms ∧ allP ms ∧ beqE (A.post d).1 .normal = false)) : AnnOk P E.ng N (bodyAt fn p) A := by
  obtain ⟨c, h1, h2⟩ := isLoop_ok hp
  refine ann_of_body hE hc h2 hng S μ I (lo := fun _ => loL inner) (fun _ _ _ _ => loL_ok h1 hin) (fun d hd => ?_) (fun d hd i hi => ?_)
  · obtain ⟨i, ms, h3, h4, h5⟩ := hstart d hd
    exact ⟨i, _, ms, h3, h4, h5⟩
  · obtain ⟨tp, h⟩ := hbody d hd i hi
    refine ⟨tp, ?_⟩
    rcases h with ⟨j, ms, h3, h4⟩ | ⟨ms, h3, h4⟩
    · exact .inl ⟨j, _, ms, h3, h4⟩
    · exact .inr ⟨_, ms, h3, h4⟩
theorem ann_ofI {P : Program} {E : Env} (hE : EnvOk P E) {call : CallF} (hc : CallOk P E.ng call) {fn : Func} {N : Nat} {p : List Nat} (hp : isLoop fn p = true) {A : Ann} (hng : Nat.ble E.ng A.pre.nx = true)
    {ι : Type} (S : ι → St) (μ : ι → Nat) (I : Bool → ι → Prop) (inner : ι → List (List Nat × Ann)) (hin : ∀ d, TestOk A d → ∀ i, I d i → ∀ x ∈ inner i, AnnOk P E.ng N (bodyAt fn x.1) x.2)
    (hstart : ∀ d, TestOk A d → ∃ i ms, outA (some (.normal, trOf A.pre.T, stH A.pre [])) .normal (S i) A.pre.nx = some ms ∧ allP ms ∧ I d i)
    (hbody : ∀ d, TestOk A d → ∀ i, I d i → ∃ tp,
      (∃ j ms, outA (evCode E call (loL (inner i)) N 100000 (0 :: p) (bodyAt fn p) (trOf (S i).T) (stH (S i) tp)) .normal (S j) A.pre.nx = some ms ∧ allP ms ∧ μ j < μ i ∧ I d j) ∨
      (∃ ms, outA (evCode E call (loL (inner i)) N 100000 (0 :: p) (bodyAt fn p) (trOf (S i).T) (stH (S i) tp)) (A.post d).1 (A.post d).2 A.pre.nx = some ms ∧ allP ms ∧ beqE (A.post d).1 .normal = false)) : AnnOk P E.ng N (bodyAt fn p) A := by
  obtain ⟨c, h1, h2⟩ := isLoop_ok hp
  refine ann_of_body hE hc h2 hng S μ I (lo := fun i => loL (inner i)) (fun d i hd hi => loL_ok h1 (hin d hd i hi)) (fun d hd => ?_) (fun d hd i hi => ?_)
  · obtain ⟨i, ms, h3, h4, h5⟩ := hstart d hd
    exact ⟨i, _, ms, h3, h4, h5⟩
  · obtain ⟨tp, h⟩ := hbody d hd i hi
    refine ⟨tp, ?_⟩
    rcases h with ⟨j, ms, h3, h4⟩ | ⟨ms, h3, h4⟩
    · exact .inl ⟨j, _, ms, h3, h4⟩
    · exact .inr ⟨_, ms, h3, h4⟩
theorem pure_run {P : Program} {E : Env} (hE : EnvOk P E) {call : CallF} (hcall : CallOk P E.ng call) {f : Nat} {fn : Func} (hf : P.funcs[f]? = some fn) {A : List RV} {N : Nat} (hN : N = Nat.max (RV.avl A).length fn.ntmps) {l : List (List Nat × Ann)} (hl : ∀ x ∈ l, AnnOk P E.ng N (bodyAt fn x.1) x.2) {tabs : List Tb} (hg : tabs.all (fun t => Nat.blt t.g E.ng) = true) (hok : okNames (tabList tabs) = true) (hng : Nat.ble E.ng 1000 = true)
    {R : RV} {tp : List Bool} {ms : List Prop} (h : outR (bodyF E call (loL l) f (RV.avl A) ⟨trOf (tabList tabs), 1000, tp, []⟩) R = some ms) (hm : allP ms) : PureC P tabs f A R :=
  pure_of_run hE hcall (fun fn' c h1 h2 => by
    rw [hf] at h1
    cases h1
    subst hN
    exact loL_ok h2 hl) hg hok hng h hm
theorem none_ann {P : Program} {ng N : Nat} {fn : Func} : ∀ x ∈ ([] : List (List Nat × Ann)), AnnOk P ng N (bodyAt fn x.1) x.2 := fun x h => (nomatch h)
theorem one_ann {P : Program} {ng N : Nat} {fn : Func} {p : List Nat} {A : Ann} (h : AnnOk P ng N (bodyAt fn p) A) : ∀ x ∈ [(p, A)], AnnOk P ng N (bodyAt fn x.1) x.2 := fun x hx => by rw [List.mem_singleton.1 hx]; exact h
theorem cons_ann {P : Program} {ng N : Nat} {fn : Func} {p : List Nat} {A : Ann} {l : List (List Nat × Ann)} (h : AnnOk P ng N (bodyAt fn p) A) (hl : ∀ x ∈ l, AnnOk P ng N (bodyAt fn x.1) x.2) : ∀ x ∈ (p, A) :: l, AnnOk P ng N (bodyAt fn x.1) x.2 := fun x hx => by
  rcases List.mem_cons.1 hx with e | hx
  · rw [e]; exact h
  · exact hl x hx
def isT0 : Option (AV × Hs) → Bool
  | some (.bool true, ⟨_, _, _, []⟩) => true
  | _ => false
theorem pure_true {P : Program} {E : Env} (hE : EnvOk P E) {call : CallF} (hcall : CallOk P E.ng call) {f : Nat} {A : List RV} {tabs : List Tb} (hg : tabs.all (fun t => Nat.blt t.g E.ng) = true) (hok : okNames (tabList tabs) = true) (hng : Nat.ble E.ng 1000 = true)
    (h : isT0 (bodyF E call noLo f (RV.avl A) ⟨trOf (tabList tabs), 1000, [], []⟩) = true) : PureC P tabs f A (.bool true) := by
  unfold isT0 at h
  split at h
  · rename_i m nx tp heq
    refine pure_of_run hE hcall (fun _ _ _ _ => noLo_ok _ _ _ _) hg hok hng (tp := []) (ms := [true = true]) ?_ rfl
    rw [heq]
    rfl
  · cases h
theorem ct {α : Type} {c : Bool} {a b : α} (h : c = true) : (bif c then a else b) = a := by rw [h]; rfl
theorem cf {α : Type} {c : Bool} {a b : α} (h : c = false) : (bif c then a else b) = b := by rw [h]; rfl
theorem dN {c v : Bool} (h : c = v) : (!c) = !v := by rw [h]
theorem dT {c v : Bool} (h : c = v) : (true == c) = v := by rw [h]; cases v <;> rfl
def roC (L : List Con) : RV := .sl L.length 5 (fun i => (L.getD i Con.zero).rvs)
end Go.QfSy

namespace Go.QfSy
open Go.RowKit
def wideAt (ro : Option Nat) : Fence := { Fence.wide with round := ro }
def lift (ds : List Deferred) (a : Act) : Act := { a with defers := a.defers ++ ds }
theorem lift_eval (ds : List Deferred) (a : Act) : (lift ds a).eval = a.eval := by
  funext x
  cases x <;> rfl
theorem lift_put (ds : List Deferred) (a : Act) (d : Option Tmp) (v : Value) : (lift ds a).put d v = lift ds (a.put d v) := by
  cases d <;> rfl
theorem calls_at {P : Program} {ro : Option Nat} {n : Nat} {f : FuncId} {args : Array Value} {w : World} {R : Ending → World → Prop} (h : Calls P f args w R) : CallsIn (wideAt ro) n P f args w R :=
  (callsIn_wide (n := n)).2 h
def noDefer (ops : Array Oper) : Bool := ops.toList.all fun o => match o.op with
  | .defer _ => false
  | _ => true
def Calm (Q : Exit → Act → World → Prop) : Prop := (∀ c a w, ¬ Q (.panic c) a w) ∧ ∀ a w, ¬ Q .outgrown a w
theorem oper_in {P : Program} {ro : Option Nat} {n : Nat} {o : Oper} {a : Act} {w : World} {K K' : Act → World → Prop} {Q Q' : Exit → Act → World → Prop} {ds : List Deferred} (hd : ∀ c, o.op ≠ .defer c) (hQ : Calm Q)
    (hK : ∀ a w, K a w → K' (lift ds a) w) (h : o.wp P a w K Q) : o.wpIn (wideAt ro) n P (lift ds a) w K' Q' := by
  unfold Oper.wp at h
  unfold Oper.wpIn
  refine ⟨fun f _ => trivial, ?_⟩
  rw [Oper.semAt_eq _ _ _ hd, lift_eval]
  generalize (execOp a.eval o).run P w = r at h
  cases r with
  | ok nx w' =>
    cases nx with
    | value v => rw [Oper.uponIn_value, lift_put]; exact hK _ _ h
    | skip => rw [Oper.uponIn_skip, lift_put]; exact hK _ _ h
    | defer d =>
      rw [Oper.uponIn_defer]
      show K' ((lift ds { a with defers := d :: a.defers }).put o.dst undef) w'
      rw [lift_put]; exact hK _ _ h
    | enter f args =>
      rw [Oper.uponIn_enter]
      refine ⟨fun h0 => by simp [wideAt, Fence.wide] at h0, calls_at (Calls.mono h ?_)⟩
      intro e w'' hx
      cases e with
      | returned v => simp only at hx ⊢; rw [lift_put]; exact hK _ _ hx
      | panicked c => exact (hQ.1 _ _ _ hx).elim
      | outgrown => obtain ⟨a0, w0, h0⟩ := hx; exact (hQ.2 _ _ h0).elim
    | row r args =>
      rw [Oper.uponIn_row]
      refine ⟨fun h0 => by simp [wideAt, Fence.wide] at h0, fun c cs _ => ?_⟩
      obtain ⟨v, w'', r1, r2⟩ := h c cs
      exact ⟨v, w'', by show K' ((lift ds a).put o.dst v) w''; rw [lift_put]; exact hK _ _ r1, stepsIn_wide.2 r2⟩
    | round l f tmps assign body => exact h.elim
    | _ => exact h.elim
  | halt x w' =>
    cases x with
    | panic v => exact (hQ.1 _ _ _ h).elim
    | _ => exact h.elim
theorem ops_in {P : Program} {ro : Option Nat} {n : Nat} {ops : Array Oper} (hd : noDefer ops = true) {Q Q' : Exit → Act → World → Prop} (hQ : Calm Q) {ds : List Deferred} (hN : ∀ a w, Q .normal a w → Q' .normal (lift ds a) w) :
    ∀ (is : List Nat) (a : Act) (w : World), wpOps P ops Q is a w → wpOpsIn (wideAt ro) n P ops Q' is (lift ds a) w
  | [], a, w, h => hN a w h
  | i :: is, a, w, h => by
    simp only [wpOps] at h
    simp only [wpOpsIn]
    cases ho : ops[i]? with
    | none => rw [ho] at h; exact ops_in hd hQ hN is a w h
    | some o =>
      rw [ho] at h
      simp only at h ⊢
      have hod : ∀ c, o.op ≠ .defer c := fun c e => by
        have := List.all_eq_true.1 hd o (by simpa using Array.mem_of_getElem? ho)
        rw [e] at this
        cases this
      have hy : yielded ops (lift ds a).tmps = yielded ops a.tmps := rfl
      rw [hy]
      split
      · rename_i hw
        rw [if_pos hw] at h
        rcases h with h | ⟨_, a0, w0, h0⟩
        · exact oper_in hod hQ (fun a' w' h' => ops_in hd hQ hN is a' w' h') h
        · exact (hQ.2 _ _ h0).elim
      · rename_i hw
        rw [if_neg hw] at h
        exact ⟨fun f _ => trivial, by rw [lift_put]; exact ops_in hd hQ hN is _ w h⟩
def straight : Code → Bool
  | .skip => true
  | .label _ => true
  | .region _ ops _ => noDefer ops
  | .seq a b => straight a && straight b
  | .cond _ a b => straight a && straight b
  | .block _ b => straight b
  | .exit _ => true
  | .ret => true
  | _ => false
section
variable {P : Program} {E : Env} (hE : EnvOk P E) {call : CallF} (hc : CallOk P E.ng call) {lo : List Nat → Option Ann} {N : Nat}
include hE hc
theorem evCode_in {ro : Option Nat} {m : Nat} {ds : List Deferred} : ∀ (n : Nat) (p : List Nat) (c : Code) (T T' : Tr AV) (H H' : Hs) (e : AEx), straight c = true → evCode E call lo N n p c T H = some (e, T', H') → (∀ q ∈ H'.ms, q) → ∀ (γ : Gm) (a : Act) (w : World), FRel γ E.ng T N a → HRel γ H.m.get H.nx w →
      c.wpIn (wideAt ro) m P (fun x a' w' => x = AEx.den e ∧ ∃ γ' a0, a' = lift ds a0 ∧ FRel γ' E.ng T' N a0 ∧ RunR γ H w γ' H' w') (lift ds a) w := by
  intro n
  induction n with
  | zero => intro p c T T' H H' e _ h; simp [evCode] at h
  | succ n ih =>
    intro p c T T' H H' e hs h hm γ a w hf hr
    cases c with
    | skip =>
      simp only [evCode, Option.some.injEq, Prod.mk.injEq] at h
      obtain ⟨rfl, rfl, rfl⟩ := h
      exact wpIn_skip ⟨rfl, γ, a, rfl, hf, RunR.refl hr⟩
    | label l =>
      simp only [evCode, Option.some.injEq, Prod.mk.injEq] at h
      obtain ⟨rfl, rfl, rfl⟩ := h
      exact wpIn_label ⟨rfl, γ, a, rfl, hf, RunR.refl hr⟩
    | exit id =>
      simp only [evCode, Option.some.injEq, Prod.mk.injEq] at h
      obtain ⟨rfl, rfl, rfl⟩ := h
      exact wpIn_exit ⟨rfl, γ, a, rfl, hf, RunR.refl hr⟩
    | ret =>
      simp only [evCode, Option.some.injEq, Prod.mk.injEq] at h
      obtain ⟨rfl, rfl, rfl⟩ := h
      exact wpIn_ret ⟨rfl, γ, a, rfl, hf, RunR.refl hr⟩
    | region id ops draw =>
      have hQ : Calm (fun (x : Exit) (a' : Act) (w' : World) => x = Exit.normal ∧ ∃ γ', FRel γ' E.ng T' N a' ∧ RunR γ H w γ' H' w') := ⟨fun _ _ _ h => (by cases h.1), fun _ _ h => (by cases h.1)⟩
      cases draw with
      | false =>
        simp only [evCode] at h
        split at h
        · cases h
        · rename_i T1 H1 h1
          cases h
          refine wpIn_region (ops_in hs hQ ?_ _ a w (evOps_ok hE hc ops.toList (List.range ops.size) (range_all ops) _ _ _ _ h1 hm γ a w hf hr (fun a' w' γ' h1 h2 => ⟨rfl, γ', h1, h2⟩)))
          rintro a' w' ⟨_, γ', h1, h2⟩
          exact ⟨rfl, γ', a', rfl, h1, h2⟩
      | true =>
        simp only [evCode] at h
        split at h
        · cases h
        · rename_i T1 H1 h1
          cases h
          refine wpIn_region_draw (fun t => ops_in hs hQ ?_ _ a _ (evDraw_sch hE hc h1 hm hf hr (fun a' w' γ' h1 h2 => ⟨rfl, γ', h1, h2⟩) t))
          rintro a' w' ⟨_, γ', h1, h2⟩
          exact ⟨rfl, γ', a', rfl, h1, h2⟩
    | seq x y =>
      obtain ⟨s1, s2⟩ := and_split hs
      simp only [evCode] at h
      split at h
      · rename_i T1 H1 h1
        refine wpIn_seq (wpIn_mono (ih (0 :: p) x T T1 H H1 .normal s1 h1 (fun q hq => hm q (evCode_ms hc _ _ _ _ _ _ _ _ h q hq)) γ a w hf hr) ?_)
        rintro x' a' w' ⟨rfl, γ', a0, rfl, hf', hrun⟩
        refine wpIn_mono (ih (1 :: p) y T1 T' H1 H' e s2 h hm γ' a0 w' hf' hrun.stp.rel) ?_
        rintro x'' a'' w'' ⟨rfl, γ'', a1, rfl, hf'', hrun'⟩
        exact ⟨rfl, γ'', a1, rfl, hf'', hrun.trans hrun'⟩
      · rename_i hne
        refine wpIn_seq (wpIn_mono (ih (0 :: p) x T T' H H' e s1 h hm γ a w hf hr) ?_)
        rintro x' a' w' ⟨rfl, hx⟩
        cases e with
        | normal => exact (hne T' H' h).elim
        | exit id => exact ⟨rfl, hx⟩
        | ret => exact ⟨rfl, hx⟩
    | cond x y z =>
      obtain ⟨s1, s2⟩ := and_split hs
      have hev : (lift ds a).eval x = a.eval x := by rw [lift_eval]
      simp only [evCode] at h
      split at h
      · rename_i hx
        have hv := evo_ok hf _ _ hx
        generalize hX : a.eval x = X at hv
        cases hv
        exact wpIn_cond_true (by rw [hev]; exact hX) (ih (0 :: p) y T T' H H' e s1 h hm γ a w hf hr)
      · rename_i hx
        have hv := evo_ok hf _ _ hx
        generalize hX : a.eval x = X at hv
        cases hv
        exact wpIn_cond_false (by rw [hev]; exact hX) (ih (1 :: p) z T T' H H' e s2 h hm γ a w hf hr)
      · rename_i u hx
        have hv := evo_ok hf _ _ hx
        generalize hX : a.eval x = X at hv
        cases hv
        have ak := ask_ms H u
        have am := ask_m H u
        have an := ask_nx H u
        generalize H.ask u = r at h ak am an
        obtain ⟨d, H1⟩ := r
        have hr1 : HRel γ H1.m.get H1.nx w := by rw [show H1.m = _ from am, show H1.nx = _ from an]; exact hr
        have back : ∀ {γ' : Gm} {w' : World}, RunR γ H1 w γ' H' w' → RunR γ H w γ' H' w' := by
          intro γ' w' hR
          refine ⟨?_, ?_, fun b hb => hR.keep b (by rw [show H1.nx = _ from an]; exact hb)⟩
          · have := hR.stp; rw [show H1.m = _ from am] at this; exact this
          · have := hR.nx; rw [show H1.nx = _ from an] at this; exact this
        have hu : u = d := hm (Dec u d) (by
          cases d with
          | true => exact evCode_ms hc _ _ _ _ _ _ _ _ h _ (by rw [show H1.ms = _ from ak]; simp)
          | false => exact evCode_ms hc _ _ _ _ _ _ _ _ h _ (by rw [show H1.ms = _ from ak]; simp))
        subst hu
        cases u with
        | true =>
          refine wpIn_cond_true (by rw [hev]; exact hX) (wpIn_mono (ih (0 :: p) y T T' H1 H' e s1 h hm γ a w hf hr1) ?_)
          rintro x' a' w' ⟨rfl, γ', a0, rfl, g1, g2⟩
          exact ⟨rfl, γ', a0, rfl, g1, back g2⟩
        | false =>
          refine wpIn_cond_false (by rw [hev]; exact hX) (wpIn_mono (ih (1 :: p) z T T' H1 H' e s2 h hm γ a w hf hr1) ?_)
          rintro x' a' w' ⟨rfl, γ', a0, rfl, g1, g2⟩
          exact ⟨rfl, γ', a0, rfl, g1, back g2⟩
      · cases h
    | block id b =>
      simp only [evCode] at h
      split at h
      · rename_i j T1 H1 h1
        cases hj : Nat.beq j id with
        | true =>
          simp only [hj, cond_true, Option.some.injEq, Prod.mk.injEq] at h
          obtain ⟨rfl, rfl, rfl⟩ := h
          refine wpIn_block (wpIn_mono (ih (0 :: p) b T T1 H H1 (.exit j) hs h1 hm γ a w hf hr) ?_)
          rintro x' a' w' ⟨rfl, hx⟩
          show (if j = id then _ else _)
          rw [if_pos (beq_eq hj)]
          exact ⟨rfl, hx⟩
        | false =>
          simp only [hj, cond_false, Option.some.injEq, Prod.mk.injEq] at h
          obtain ⟨rfl, rfl, rfl⟩ := h
          refine wpIn_block (wpIn_mono (ih (0 :: p) b T T1 H H1 (.exit j) hs h1 hm γ a w hf hr) ?_)
          rintro x' a' w' ⟨rfl, hx⟩
          show (if j = id then _ else _)
          rw [if_neg (beq_ne hj)]
          exact ⟨rfl, hx⟩
      · rename_i hne
        refine wpIn_block (wpIn_mono (ih (0 :: p) b T T' H H' e hs h hm γ a w hf hr) ?_)
        rintro x' a' w' ⟨rfl, hx⟩
        cases e with
        | normal => exact ⟨rfl, hx⟩
        | exit j => exact (hne j T' H' h).elim
        | ret => exact ⟨rfl, hx⟩
    | loop b => simp [straight] at hs
    | scope b => simp [straight] at hs
    | rangeFunc f ps x y => simp [straight] at hs
    | goto l => simp [straight] at hs
    | refuse s => simp [straight] at hs
end
end Go.QfSy

namespace Go.QfSy
open Go.RowKit
def NoImg (γ : Gm) (f : Hf) (l : Nat) : Prop := ∀ b k x, f b = some k → γ b = some (l, x) → False
theorem NoImg.own {γ : Gm} {f : Hf} {l : Nat} (h : NoImg γ f l) : ¬ OwnImg γ f l := by
  rintro ⟨b, k, x, h1, _, h3⟩
  exact h b k x h1 h3
theorem noimg_obj {γ : Gm} {f : Hf} {nx : Nat} {w : World} (hr : HRel γ f nx w) {l : Nat} {o : Obj} (hl : w.heap[l]? = some o) (ho : o.isCells = false) : NoImg γ f l := by
  intro b k x h1 h3
  obtain ⟨B, x', cs, ex, g1, g2, _⟩ := hr.blk b k h1
  rw [h3] at g1
  cases g1
  rw [hl] at g2
  cases g2
  cases ho
theorem fz_ge {γ : Gm} {f : Hf} {nx : Nat} {w : World} (hr : HRel γ f nx w) {l : Nat} (hl : w.heap.size ≤ l) : γ.fz l = none := by
  cases h : γ.fz l with
  | none => rfl
  | some x =>
    have := (Array.getElem?_eq_some_iff.1 (hr.fzr l x h)).1
    omega
theorem noimg_step {γ γ' : Gm} {f f' : Hf} {nx nx' : Nat} {w w' : World} (hr : HRel γ f nx w) (h : Stp γ f w γ' f' nx' w') {l : Nat} (hlt : l < w.heap.size) (hn : NoImg γ f l) (hz : γ.fz l = none) : NoImg γ' f' l ∧ γ'.fz l = none := by
  constructor
  · intro b k x h1 h3
    cases ho : k.own with
    | true => exact hn.own (h.own l hlt ⟨b, k, x, h1, ho, h3⟩)
    | false =>
      have h4 := h.ro b k h1 ho
      obtain ⟨B, x', _, _, g1, _⟩ := hr.blk b k h4
      have := h.le.nm b _ g1
      rw [show γ'.nm b = some (l, x) from h3] at this
      cases this
      exact hn b k _ h4 g1
  · cases hh : γ'.fz l with
    | none => rfl
    | some x =>
      rcases h.fzn l x hh with h1 | h1 | h1
      · rw [hz] at h1; cases h1
      · omega
      · exact (hn.own h1).elim
theorem put_heap {W : World} {l k : Nat} {o : Obj} (h : k ≠ l) : (W.putObj l o).heap[k]? = W.heap[k]? := World.putObj_heap_other h
theorem put_rel {γ : Gm} {f : Hf} {nx : Nat} {W : World} (hr : HRel γ f nx W) {l : Nat} (hn : NoImg γ f l) (hz : γ.fz l = none) (o : Obj) : HRel γ f nx (W.putObj l o) := by
  refine ⟨fun b k hb => ?_, hr.inj, hr.fresh, fun B x hx => ?_, hr.fzo⟩
  · obtain ⟨B, x, cs, ex, g1, g2, g3⟩ := hr.blk b k hb
    refine ⟨B, x, cs, ex, g1, ?_, g3⟩
    rw [put_heap (fun e => hn b k x hb (by rw [← e]; exact g1))]
    exact g2
  · rw [put_heap (fun e => by rw [e, hz] at hx; cases hx)]
    exact hr.fzr B x hx
theorem put_stp {γ γ' : Gm} {f f' : Hf} {nx nx' : Nat} {W W' : World} (hr : HRel γ f nx W) {l : Nat} (hlt : l < W.heap.size) (hn : NoImg γ f l) (hz : γ.fz l = none) (h : Stp γ f W γ' f' nx' W') (o : Obj) : Stp γ f (W.putObj l o) γ' f' nx' (W'.putObj l o) := by
  obtain ⟨n1, z1⟩ := noimg_step hr h hlt hn hz
  refine ⟨h.le, put_rel h.rel n1 z1 o, by simpa using h.size, h.os, h.tape, h.output, fun k hk hno => ?_, fun k hk => ?_, h.ro, h.dom, fun B x hx => by simpa using h.fzn B x hx⟩
  · by_cases e : k = l
    · subst e
      rw [World.putObj_heap_same hlt, World.putObj_heap_same (Nat.lt_of_lt_of_le hlt h.size)]
    · rw [put_heap e, put_heap e]
      exact h.frame k (by simpa using hk) hno
  · exact h.own k (by simpa using hk)
theorem put_end {γ γ' : Gm} {f f' : Hf} {nx' : Nat} {w W' : World} {l : Nat} (h : Stp γ f w γ' f' nx' W') (hn : NoImg γ' f' l) (hz : γ'.fz l = none) (hl : OwnImg γ f l ∨ w.heap.size ≤ l) (o : Obj) : Stp γ f w γ' f' nx' (W'.putObj l o) := by
  refine ⟨h.le, put_rel h.rel hn hz o, by simpa using h.size, h.os, h.tape, h.output, fun k hk hno => ?_, h.own, h.ro, h.dom, h.fzn⟩
  have e : k ≠ l := by
    rintro rfl
    rcases hl with hl | hl
    · exact hno hl
    · omega
  rw [put_heap e]
  exact h.frame k hk hno
theorem put_back {W : World} {l : Nat} {o : Obj} (o' : Obj) (h : W.heap[l]? = some o) : (W.putObj l o').putObj l o = W := by
  have e : (W.heap.setIfInBounds l o').setIfInBounds l o = W.heap := by
    apply Array.ext_getElem?
    intro i
    by_cases hi : i = l
    · subst hi
      rw [Array.getElem?_setIfInBounds_self_of_lt (by rw [Array.size_setIfInBounds]; exact (Array.getElem?_eq_some_iff.1 h).1), h]
    · rw [Array.getElem?_setIfInBounds_ne (fun e => hi e.symm), Array.getElem?_setIfInBounds_ne (fun e => hi e.symm)]
  unfold World.putObj
  simp only [e]
structure Ext (A B : World) : Prop where
  os : B.os = A.os
  tape : B.tape = A.tape
  output : B.output = A.output
  size : A.heap.size ≤ B.heap.size
  heap : ∀ k, k < A.heap.size → B.heap[k]? = A.heap[k]?
theorem ext_rel {γ : Gm} {f : Hf} {nx : Nat} {A B : World} (hr : HRel γ f nx A) (h : Ext A B) : HRel γ f nx B := by
  refine ⟨fun b k hb => ?_, hr.inj, hr.fresh, fun B' x hx => ?_, hr.fzo⟩
  · obtain ⟨B', x, cs, ex, g1, g2, g3⟩ := hr.blk b k hb
    exact ⟨B', x, cs, ex, g1, by rw [h.heap _ (Array.getElem?_eq_some_iff.1 g2).1]; exact g2, g3⟩
  · have := hr.fzr B' x hx
    rw [h.heap _ (Array.getElem?_eq_some_iff.1 this).1]; exact this
theorem ext_stp {γ : Gm} {f : Hf} {nx : Nat} {A B : World} (hr : HRel γ f nx A) (h : Ext A B) : Stp γ f A γ f nx B :=
  ⟨Gm.le_refl γ, ext_rel hr h, h.size, h.os, h.tape, h.output, fun k hk _ => h.heap k hk, fun k _ ho => ho, fun b k hb _ => hb, fun b k hb => .inl ⟨k, hb⟩, fun B x hx => .inl hx⟩
theorem ext_alloc (w : World) (o : Obj) : Ext w (w.alloc o) := ⟨rfl, rfl, rfl, by simp, fun k hk => Below.heap_alloc w o k hk⟩
theorem Ext.trans {A B C : World} (h : Ext A B) (k : Ext B C) : Ext A C := ⟨k.os.trans h.os, k.tape.trans h.tape, k.output.trans h.output, Nat.le_trans h.size k.size, fun i hi => (k.heap i (Nat.lt_of_lt_of_le hi h.size)).trans (h.heap i hi)⟩
end Go.QfSy

namespace Go.QfSy
open Go.RowKit
theorem put_self {W : World} {l : Nat} {o : Obj} (h : W.heap[l]? = some o) : W.putObj l o = W := by
  have := put_back o h
  have e : (W.putObj l o).putObj l o = W.putObj l o := by unfold World.putObj; simp
  rw [e] at this
  exact this
theorem put_put (W : World) (l : Nat) (o o' : Obj) : (W.putObj l o).putObj l o' = W.putObj l o' := by unfold World.putObj; simp
structure ItStep (Bs : Nat) (A B : World) : Prop where
  os : B.os = A.os
  tape : B.tape = A.tape
  output : B.output = A.output
  size : A.heap.size ≤ B.heap.size
  heap : ∀ k, k < A.heap.size → k ≠ Bs → B.heap[k]? = A.heap[k]?
def Keeps3 (L : List Nat) (A B : World) : Prop := A.heap.size ≤ B.heap.size ∧ ∀ k ∈ L, B.heap[k]? = A.heap[k]?
def strBox (s : ByteArray) (t : Nat) : Obj := .cells #[.string s] t (0, 0)
def ptr0 (B : Nat) : Value := .pointer (some ⟨B, 0, none⟩)
def IterC (P : Program) (gf tS tI : Nat) (sep s : ByteArray) (ws : List ByteArray) : Prop :=
  ∀ (n l Bp Bs Bv : Nat) (J : Nat → World → Prop) (Jx : World → Prop) (W : World), Bp ≠ Bs → Bv ≠ Bs →
    W.heap[Bp]? = some (strBox sep tS) → W.heap[Bs]? = some (strBox s tS) → W.heap[Bv]? = some (.cells #[.int .i64 0] tI (0, 0)) →
    (∀ k A B, J k A → ItStep Bs A B → J k B) →
    (∀ m k x W1, ws[k]? = some x → J k W1 → YieldAt Fence.wide m P l #[.string x] W1 fun e W' => Keeps3 [Bp, Bs, Bv] W1 W' ∧ ((e = .returned (.bool true) ∧ J (k + 1) W') ∨ (e = .returned (.bool false) ∧ Jx W'))) →
    J 0 W → CallsIn Fence.wide n P gf (#[.func (.yield l) #[] #[]] ++ #[ptr0 Bp, ptr0 Bs, ptr0 Bv]) W fun e W' => (∃ v, e = .returned v) ∧ (J ws.length W' ∨ Jx W')
theorem box_of {γ : Gm} {f : Hf} {nx : Nat} {w : World} (hr : HRel γ f nx w) {b el : Nat} {v : AV} (hb : f b = some ⟨.plain [v], el, 0, false, true⟩) : ∃ B V, γ b = some (B, 0) ∧ w.heap[B]? = some (.cells #[V] el (0, 0)) ∧ VRel γ v V ∧ B < w.heap.size := by
  obtain ⟨B, x, cs, ex, g1, g2, g3, g4, g5⟩ := hr.blk b _ hb
  have hx := g5 rfl
  subst hx
  have hex : ex = [] := List.eq_nil_of_length_eq_zero (by simpa using g4)
  subst hex
  have g3 : VsRel γ [v] cs := g3
  cases g3 with
  | cons h t =>
    cases t
    exact ⟨B, _, g1, by simpa using g2, h, (Array.getElem?_eq_some_iff.1 g2).1⟩
def mark (D : Nat) : Deferred := { target := .collected D, args := #[] }
theorem run_ms {e' e : AEx} {T' : Tr AV} {H' : Hs} {S : St} {b : Nat} {rn : List (Nat × Nat)} {ms : List Prop} (h1 : outS (some (e', T', H')) e S b rn = some ms) (h2 : allP ms) : ∀ q ∈ H'.ms, q := by
  intro q hq
  rw [allP_iff] at h2
  unfold outS at h1
  simp only at h1
  replace h1 := (bif_some h1).2
  split at h1
  · cases h1
  · split at h1
    · cases h1
    · cases h1
      exact h2 q (List.mem_append_right _ hq)
theorem rf_of {P : Program} {E : Env} (hE : EnvOk P E) {call : CallF} (hc : CallOk P E.ng call) {N n : Nat} {tg tp : Nat} {assign body : Code} (hsa : straight assign = true) (hsb : straight body = true)
    {gf tS tI : Nat} {sep s : ByteArray} {ws : List ByteArray} (hit : IterC P gf tS tI sep s ws) (eg : ∀ args w, (callFunc gf args).run P w = .ok (.enter gf args) w)
    {T0 : List (Nat × AV)} {bp bs bv nx0 nx1 : Nat} (hng : E.ng ≤ nx0) (hnx : nx0 ≤ nx1)
    (mS : Nat → List (Nat × Blk)) (fin : AEx × List (Nat × Blk)) (K : Nat)
    (hg : (trOf T0).get tg = some (.fn gf [.ptr bp 0, .ptr bs 0, .ptr bv 0])) (htp : tp < N) (htop : Nat.ble tp Tr.top = true)
    {pre : Tr Blk} (hp : pre.get bp = some ⟨.plain [.str sep], tS, 0, false, true⟩) (hs : pre.get bs = some ⟨.plain [.vstr s], tS, 0, false, true⟩) (hv : pre.get bv = some ⟨.plain [.int .i64 0], tI, 0, false, true⟩) (hne1 : bp ≠ bs) (hne2 : bv ≠ bs)
    (hsub : ∀ b k, (trOf (mS 0)).get b = some k → pre.get b = some k ∧ b ≠ bp ∧ b ≠ bs ∧ b ≠ bv)
    (T1 : ByteArray → Tr AV) (hna : ∀ k x q, evCode E call noLo N 999 [0] assign (trOf ((tp, .vstr x) :: T0)) (stH ⟨[], mS k, nx1⟩ q) = some (.normal, T1 x, stH ⟨[], mS k, nx1⟩ q))
    (hgo : ∀ k x, ws[k]? = some x → k < K → ∃ q ms rn, outS (evCode E call noLo N 999 [1] body (T1 x) (stH ⟨[], mS k, nx1⟩ q)) .normal ⟨[], mS (k + 1), nx1⟩ nx0 rn = some ms ∧ allP ms)
    (hend : (K = ws.length ∧ fin = (.normal, mS K)) ∨ (K < ws.length ∧ fin.1 = .ret ∧ ∀ x, ws[K]? = some x → ∃ q ms rn, outS (evCode E call noLo N 999 [1] body (T1 x) (stH ⟨[], mS K, nx1⟩ q)) .ret ⟨[], fin.2, nx1⟩ nx0 rn = some ms ∧ allP ms))
    (γ : Gm) (a : Act) (w : World) (hf : FRel γ E.ng (trOf T0) N a) (hr : HRel γ pre.get nx0 w) :
    (Code.rangeFunc (.tmp tg) #[tp] assign body).wpIn Fence.wide n P (fun x a' w' => x = fin.1.den ∧ ∃ γ' D, a' = lift [mark D] a ∧ FRel γ' E.ng (trOf T0) N a ∧ RunR γ ⟨pre, nx0, [], []⟩ w γ' ⟨trOf fin.2, nx1, [], []⟩ w' ∧ w.heap.size ≤ D ∧ w'.heap[D]? = some (.deferred (some [])) ∧ γ'.fz D = none) a w := by
  obtain ⟨Bp, _, p1, p2, p3, p4⟩ := box_of hr hp
  obtain ⟨Bs, _, s1, s2, s3, s4⟩ := box_of hr hs
  obtain ⟨Bv, _, v1, v2, v3, v4⟩ := box_of hr hv
  cases p3; cases s3; cases v3
  have hgv : a.eval (.tmp tg) = .func (.func gf) #[] #[ptr0 Bp, ptr0 Bs, ptr0 Bv] := by
    have := hf.tmp tg _ hg
    show a.tmps.getD tg undef = _
    cases hX : a.tmps.getD tg undef <;> rw [hX] at this <;> cases this
    rename_i h
    cases h with | cons h1 h => cases h with | cons h2 h => cases h with | cons h3 h =>
    cases h
    cases h1 with | ptr _ k1 => cases h2 with | ptr _ k2 => cases h3 with | ptr _ k3 =>
    rw [p1] at k1; rw [s1] at k2; rw [v1] at k3
    cases k1; cases k2; cases k3
    rfl
  refine wpIn_rangeFunc ?_
  intro fn hfn
  obtain ⟨rec, hrec⟩ : ∃ rec : LoopState → Option Code → Loop, rec = fun st pe => { state := st, pending := pe, fn, tmps := a.tmps, params := #[tp], assign, body, defers := w.heap.size } := ⟨_, rfl⟩
  obtain ⟨W1, hW1⟩ : ∃ W1, (w.alloc (.deferred (some []))).alloc (.loop (rec .ready none)) = W1 := ⟨_, rfl⟩
  have hext : Ext w W1 := by rw [← hW1]; exact (ext_alloc _ _).trans (ext_alloc _ _)
  have hsz1 : W1.heap.size = w.heap.size + 2 := by rw [← hW1]; simp
  have hL1 : W1.heap[w.heap.size + 1]? = some (.loop (rec .ready none)) := by
    rw [← hW1]; have := World.alloc_heap_new (w.alloc (.deferred (some []))) (.loop (rec .ready none)); rwa [World.size_alloc] at this
  have hD1 : W1.heap[w.heap.size]? = some (.deferred (some [])) := by
    rw [← hW1]; exact (Below.heap_alloc _ _ _ (by simp)).trans (World.alloc_heap_new w _)
  have hp1 : W1.heap[Bp]? = some (strBox sep tS) := (hext.heap Bp p4).trans p2
  have hs1 : W1.heap[Bs]? = some (strBox s tS) := (hext.heap Bs s4).trans s2
  have hv1 : W1.heap[Bv]? = some (.cells #[.int .i64 0] tI (0, 0)) := (hext.heap Bv v4).trans v2
  -- the state with which the rounds begin
  let H0 : Hs := ⟨trOf (mS 0), nx0, [], []⟩
  have hr00 : HRel γ (trOf (mS 0)).get nx0 w := hr.sub (fun b k hb => (hsub b k hb).1)
  have hr0 : HRel γ H0.m.get H0.nx W1 := ext_rel hr00 hext
  have hnB : ∀ b0 B k0, pre.get b0 = some k0 → γ b0 = some (B, 0) → (∀ b k, (trOf (mS 0)).get b = some k → b ≠ b0) → NoImg γ (trOf (mS 0)).get B := by
    intro b0 B k0 h1 h2 h3 b k x hb hgb
    exact h3 b k hb (hr.inj b b0 k k0 B x 0 (hsub b k hb).1 h1 hgb h2)
  have nBp := hnB bp Bp _ hp p1 (fun b k hb => (hsub b k hb).2.1)
  have nBs := hnB bs Bs _ hs s1 (fun b k hb => (hsub b k hb).2.2.1)
  have nBv := hnB bv Bv _ hv v1 (fun b k hb => (hsub b k hb).2.2.2)
  have zBp : γ.fz Bp = none := hr.fzo bp _ Bp 0 hp rfl p1
  have zBs : γ.fz Bs = none := hr.fzo bs _ Bs 0 hs rfl s1
  have zBv : γ.fz Bv = none := hr.fzo bv _ Bv 0 hv rfl v1
  have nl : NoImg γ (trOf (mS 0)).get (w.heap.size + 1) := noimg_obj hr0 hL1 rfl
  have nD : NoImg γ (trOf (mS 0)).get w.heap.size := noimg_obj hr0 hD1 rfl
  have zl : γ.fz (w.heap.size + 1) = none := fz_ge hr (by omega)
  have zD : γ.fz w.heap.size = none := fz_ge hr (by omega)
  have off : ∀ {l : Nat} {γ1 : Gm} {S : Hs} {W : World}, RunR γ H0 W1 γ1 S W → l < W1.heap.size → NoImg γ (trOf (mS 0)).get l → γ.fz l = none → NoImg γ1 S.m.get l ∧ γ1.fz l = none := fun hR hl h1 h2 => noimg_step hr0 hR.stp hl h1 h2
  obtain ⟨os, hos⟩ : ∃ os, os = strBox s tS := ⟨_, rfl⟩
  let J : Nat → World → Prop := fun k W => k ≤ K ∧ (∃ γ1, RunR γ H0 W1 γ1 (stH ⟨[], mS k, nx1⟩ []) (W.putObj Bs os)) ∧ W.heap[w.heap.size + 1]? = some (.loop (rec .ready none)) ∧ W.heap[w.heap.size]? = some (.deferred (some [])) ∧ W1.heap.size ≤ W.heap.size
  let Jx : World → Prop := fun W => K < ws.length ∧ (∃ γ1, RunR γ H0 W1 γ1 (stH ⟨[], fin.2, nx1⟩ []) ((W.putObj (w.heap.size + 1) (.loop (rec .ready none))).putObj Bs os)) ∧ W.heap[w.heap.size + 1]? = some (.loop (rec .done (some .ret))) ∧ W.heap[w.heap.size]? = some (.deferred (some [])) ∧ W1.heap.size ≤ W.heap.size
  refine ⟨w.heap.size + 1, [mark w.heap.size], W1, { target := .fn (.func gf) #[ptr0 Bp, ptr0 Bs, ptr0 Bv], args := #[.func (.yield (w.heap.size + 1)) #[] #[]] }, W1, gf,
    #[.func (.yield (w.heap.size + 1)) #[] #[]] ++ #[ptr0 Bp, ptr0 Bs, ptr0 Bv], W1, ?_, ?_, fun _ _ => trivial, ?_, fun h => by simp [Fence.wide] at h, ?_⟩
  · rw [← hW1, hrec]; exact run_enterLoop_outer _ _ _ _ _
  · simp only [resolve, hgv]
    simp [go_sem]
  · simp [invoke, go_sem, eg]
  have hJ0 : J 0 W1 := by
    refine ⟨Nat.zero_le _, ⟨γ, ?_⟩, hL1, hD1, Nat.le_refl _⟩
    rw [put_self (by rw [hos]; exact hs1)]
    exact ⟨Stp.refl (hr0.nx_mono hnx), hnx, fun _ _ => rfl⟩
  have hstable : ∀ k A B, J k A → ItStep Bs A B → J k B := by
    rintro k A B ⟨j1, ⟨γ1, hR⟩, j3, j4, j5⟩ h
    refine ⟨j1, ⟨γ1, hR.stp.trans (ext_stp hR.stp.rel ⟨h.os, h.tape, h.output, by simpa using h.size, fun i hi => ?_⟩), hR.nx, hR.keep⟩, ?_, ?_, Nat.le_trans j5 h.size⟩
    · have hi' : i < A.heap.size := by simpa using hi
      by_cases e : i = Bs
      · subst e
        rw [World.putObj_heap_same hi', World.putObj_heap_same (Nat.lt_of_lt_of_le hi' h.size)]
      · rw [put_heap e, put_heap e]
        exact h.heap i hi' e
    · rw [h.heap _ (by omega) (by omega)]; exact j3
    · rw [h.heap _ (by omega) (by omega)]; exact j4
  refine (hit (n - 1) (w.heap.size + 1) Bp Bs Bv J Jx W1 ?_ ?_ hp1 hs1 hv1 hstable ?_ hJ0).mono ?_
  · rintro rfl
    exact hne1 (hr.inj _ _ _ _ _ _ _ hp hs p1 s1)
  · rintro rfl
    exact hne2 (hr.inj _ _ _ _ _ _ _ hv hs v1 s1)
  · -- one round
    rintro m k x V hx ⟨j1, ⟨γ1, hR⟩, j3, j4, j5⟩
    have hBs : Bs < V.heap.size := by omega
    obtain ⟨ov, hov⟩ : ∃ ov, V.heap[Bs]? = some ov := ⟨_, Array.getElem?_eq_getElem hBs⟩
    have hVr : (V.putObj Bs os).putObj Bs ov = V := put_back os hov
    obtain ⟨a1, b1⟩ := off hR (by omega) nBs zBs
    have hrV : HRel γ1 (trOf (mS k)).get nx1 V := by
      have := put_rel hR.stp.rel a1 b1 ov
      rw [hVr] at this
      exact this
    have hf0 := hf.mono hR.stp.le
    have hput : putA N (trOf T0) (some tp) (.vstr x) = some (trOf ((tp, .vstr x) :: T0)) := by
      unfold putA
      have : Nat.blt tp N = true := Nat.ble_eq_true_of_le htp
      simp only [this, cond_true]
      unfold Tr.set
      rw [htop]
      rfl
    have hfr := put_ok hf0 (V := .string x) (.vstr x) hput
    have hd0 : a.defers = [] := hf.defers
    have hact : (a.put (some tp) (.string x)) = lift [] { tmps := (#[tp].zip #[Value.string x]).foldl (fun t (p, v) => t.setIfInBounds p v) a.tmps, defers := [] } := by
      unfold lift Act.put
      simp [hd0]
    have hy := run_yield (P := P) (args := #[Value.string x]) j3 (by rw [hrec]; rfl)
    rw [hrec] at hy
    -- the run of the body
    obtain ⟨fl, q, ms, rn, Sn, hout, hall, hfl⟩ : ∃ (fl : AEx) (q : List Bool) (ms : List Prop) (rn : List (Nat × Nat)) (Sn : List (Nat × Blk)), outS (evCode E call noLo N 999 [1] body (T1 x) (stH ⟨[], mS k, nx1⟩ q)) fl ⟨[], Sn, nx1⟩ nx0 rn = some ms ∧ allP ms ∧ ((fl = .normal ∧ k + 1 ≤ K ∧ Sn = mS (k + 1)) ∨ (fl = .ret ∧ K < ws.length ∧ Sn = fin.2)) := by
      rcases Nat.lt_or_ge k K with h | h
      · obtain ⟨q, ms, rn, h1, h2⟩ := hgo k x hx h
        exact ⟨_, q, ms, rn, _, h1, h2, .inl ⟨rfl, h, rfl⟩⟩
      · have e : k = K := by omega
        subst e
        have hkl := (List.getElem?_eq_some_iff.1 hx).1
        rcases hend with ⟨h1, _⟩ | ⟨h1, h2, h3⟩
        · omega
        · obtain ⟨q, ms, rn, h4, h5⟩ := h3 x hx
          exact ⟨_, q, ms, rn, _, h4, h5, .inr ⟨rfl, h1, rfl⟩⟩
    cases hev : evCode E call noLo N 999 [1] body (T1 x) (stH ⟨[], mS k, nx1⟩ q) with
    | none => rw [hev] at hout; unfold outS at hout; cases hout
    | some res =>
    obtain ⟨e', T', H'⟩ := res
    rw [hev] at hout
    have hms := run_ms hout hall
    refine ⟨fn, _, assign, body, hy, roundIn_of_wpIn trivial ?_⟩
    have h1 := evCode_in hE hc (lo := noLo) (N := N) (ro := some (w.heap.size + 1)) (m := m) (ds := []) 999 [0] assign _ _ _ _ .normal hsa (hna k x q) (fun q hq => by cases hq) γ1 _ V hfr hrV
    have hl0 : ∀ b : Act, lift [] b = b := fun b => by unfold lift; rw [List.append_nil]
    rw [hl0, hact, hl0] at h1
    refine wpIn_mono h1 ?_
    rintro e a₁ w₁ ⟨rfl, γ2, a0, rfl, hf2, hR2⟩
    have hlV : w.heap.size + 1 < V.heap.size := by omega
    obtain ⟨al, bl⟩ := off hR (by omega) nl zl
    obtain ⟨aD, bD⟩ := off hR (by omega) nD zD
    obtain ⟨ap, bpz⟩ := off hR (by omega) nBp zBp
    obtain ⟨av, bvz⟩ := off hR (by omega) nBv zBv
    obtain ⟨al2, bl2⟩ := noimg_step hrV hR2.stp hlV al bl
    obtain ⟨aD2, bD2⟩ := noimg_step hrV hR2.stp (by omega) aD bD
    obtain ⟨as2, bs2⟩ := noimg_step hrV hR2.stp hBs a1 b1
    obtain ⟨ap2, bp2⟩ := noimg_step hrV hR2.stp (by omega) ap bpz
    obtain ⟨av2, bv2⟩ := noimg_step hrV hR2.stp (by omega) av bvz
    have hsz2 := hR2.stp.size
    have hl1 : w₁.heap[w.heap.size + 1]? = some (.loop (rec .ready none)) := (hR2.stp.frame _ hlV al.own).trans j3
    have hD2 : w₁.heap[w.heap.size]? = some (.deferred (some [])) := (hR2.stp.frame _ (by omega) aD.own).trans j4
    refine ⟨_, run_beginRound hl1 (by rw [hrec]), ?_⟩
    obtain ⟨w₂, hw2⟩ : ∃ w₂, w₂ = w₁.putObj (w.heap.size + 1) (.loop { rec .ready none with state := .busy }) := ⟨_, rfl⟩
    rw [← hw2]
    have hrel2 : HRel γ2 (trOf (mS k)).get nx1 w₂ := by rw [hw2]; exact put_rel hR2.stp.rel al2 bl2 _
    have hsz22 : w₂.heap.size = w₁.heap.size := by rw [hw2]; simp
    have h2 := evCode_in hE hc (lo := noLo) (N := N) (ro := some (w.heap.size + 1)) (m := m) (ds := []) 999 [1] body _ _ _ _ e' hsb hev hms γ2 a0 w₂ hf2 hrel2
    rw [hl0] at h2
    rw [hl0]
    refine wpIn_mono h2 ?_
    rintro e2 a3 W3 ⟨rfl, γ3, a4, rfl, hf3, hR3⟩
    have hl2 : w₂.heap[w.heap.size + 1]? = some (.loop { rec .ready none with state := .busy }) := by rw [hw2]; exact World.putObj_heap_same (by omega)
    have hl3 : W3.heap[w.heap.size + 1]? = some (.loop { rec .ready none with state := .busy }) := (hR3.stp.frame _ (by omega) al2.own).trans hl2
    have hoth : ∀ B, B < V.heap.size → B ≠ w.heap.size + 1 → NoImg γ1 (trOf (mS k)).get B → NoImg γ2 (trOf (mS k)).get B → W3.heap[B]? = V.heap[B]? := by
      intro B hB hne i1 i2
      rw [hR3.stp.frame B (by omega) i2.own, hw2, put_heap hne, hR2.stp.frame B hB i1.own]
    have hsz3 := hR3.stp.size
    have hD3 : W3.heap[w.heap.size]? = some (.deferred (some [])) := (hoth _ (by omega) (by omega) aD aD2).trans j4
    -- as though the record were ready and the box as it was
    have hRR : RunR γ H0 W1 γ3 H' ((W3.putObj (w.heap.size + 1) (.loop (rec .ready none))).putObj Bs os) := by
      have t1 := put_stp hrV hBs a1 b1 hR2.stp os
      have t2 := put_stp hrel2 (l := w.heap.size + 1) (by omega) al2 bl2 hR3.stp (.loop (rec .ready none))
      rw [hw2, put_back _ hl1] at t2
      have t3 := put_stp hR2.stp.rel (l := Bs) (by omega) as2 bs2 t2 os
      exact ⟨hR.stp.trans (t1.trans t3), Nat.le_trans hR.nx (Nat.le_trans hR2.nx hR3.nx), fun c hc' => ((hR3.keep c (Nat.lt_of_lt_of_le hc' (Nat.le_trans hR.nx hR2.nx))).trans (hR2.keep c (Nat.lt_of_lt_of_le hc' hR.nx))).trans (hR.keep c hc')⟩
    obtain ⟨he, γ4, g1, g2⟩ := outS_ok (ng := E.ng) hr0 hng hout ((allP_iff ms).1 hall) hf3 hRR
    have hkeep : ∀ o, Keeps3 [Bp, Bs, Bv] V (W3.putObj (w.heap.size + 1) o) := by
      intro o
      refine ⟨by simp; omega, fun i hi => ?_⟩
      have hcase : i = Bp ∨ i = Bs ∨ i = Bv := by simpa using hi
      rcases hcase with rfl | rfl | rfl
      · rw [put_heap (by omega)]; exact hoth _ (by omega) (by omega) ap ap2
      · rw [put_heap (by omega)]; exact hoth _ (by omega) (by omega) a1 as2
      · rw [put_heap (by omega)]; exact hoth _ (by omega) (by omega) av av2
    have hlt3 : w.heap.size + 1 < W3.heap.size := by omega
    rcases hfl with ⟨rfl, hk, rfl⟩ | ⟨rfl, hk, rfl⟩
    · subst he
      have hend3 := run_endRound (P := P) none hl3
      refine ⟨_, _, hend3, hkeep _, .inl ⟨rfl, hk, ⟨γ4, ?_⟩, ?_, ?_, ?_⟩⟩
      · rw [hrec] at g2 ⊢; exact g2
      · rw [hrec]; exact World.putObj_heap_same hlt3
      · rw [put_heap (by omega)]; exact hD3
      · simp; omega
    · subst he
      have hend3 := run_endRound (P := P) (some .ret) hl3
      refine ⟨_, _, hend3, hkeep _, .inr ⟨rfl, hk, ⟨γ4, ?_⟩, ?_, ?_, ?_⟩⟩
      · rw [put_put]; exact g2
      · rw [hrec]; exact World.putObj_heap_same hlt3
      · rw [put_heap (by omega)]; exact hD3
      · simp; omega
  · -- behind the iterator
    have back : ∀ (W2 : World) (S : List (Nat × Blk)) (γ1 : Gm) (st : LoopState) (pe : Option Code), RunR γ H0 W1 γ1 (stH ⟨[], S, nx1⟩ []) ((W2.putObj (w.heap.size + 1) (.loop (rec .ready none))).putObj Bs os) → W1.heap.size ≤ W2.heap.size → W2.heap[w.heap.size + 1]? = some (.loop (rec st pe)) → W2.heap[w.heap.size]? = some (.deferred (some [])) → ∀ o, RunR γ ⟨pre, nx0, [], []⟩ w γ1 ⟨trOf S, nx1, [], []⟩ (W2.putObj (w.heap.size + 1) o) ∧ (W2.putObj (w.heap.size + 1) o).heap[w.heap.size]? = some (.deferred (some [])) ∧ γ1.fz w.heap.size = none := by
      intro W2 S γ1 st pe hR hsz hl hD o
      have hw : weaker γ pre.get (trOf (mS 0)).get := fun b k hb => ⟨k, (hsub b k hb).1, rfl, rfl, rfl, rfl, fun _ h => h, fun _ => rfl⟩
      obtain ⟨a1, b1⟩ := off hR (by omega) nBs zBs
      obtain ⟨a2, b2⟩ := off hR (by omega) nl zl
      obtain ⟨a3, b3⟩ := off hR (by omega) nD zD
      have t0 := (ext_stp hr hext).trans (hR.stp.weak hw)
      have hBs2 : Bs < W2.heap.size := by omega
      obtain ⟨ov, hov⟩ : ∃ ov, (W2.putObj (w.heap.size + 1) (.loop (rec .ready none))).heap[Bs]? = some ov := ⟨_, Array.getElem?_eq_getElem (by simpa using hBs2)⟩
      have t1 := put_end t0 a1 b1 (.inl ⟨bs, _, 0, hs, rfl, s1⟩) ov
      rw [put_back os hov] at t1
      have t2 := put_end t1 a2 b2 (.inr (by omega)) o
      rw [put_put] at t2
      exact ⟨⟨t2, Nat.le_trans hnx (Nat.le_refl _), fun c hc' => hR.keep c hc'⟩, by rw [put_heap (by omega)]; exact hD, b3⟩
    have hlift : ({ a with defers := [mark w.heap.size] ++ a.defers } : Act) = lift [mark w.heap.size] a := by unfold lift; rw [hf.defers]; rfl
    rintro e W2 ⟨⟨v, rfl⟩, ⟨j1, ⟨γ1, hR⟩, j3, j4, j5⟩ | ⟨j1, ⟨γ1, hR⟩, j3, j4, j5⟩⟩
    · have hfin : K = ws.length ∧ fin = (.normal, mS K) := by
        rcases hend with h | ⟨h, _⟩
        · exact h
        · omega
      have hR' : RunR γ H0 W1 γ1 (stH ⟨[], mS ws.length, nx1⟩ []) ((W2.putObj (w.heap.size + 1) (.loop (rec .ready none))).putObj Bs os) := by rw [put_self j3]; exact hR
      obtain ⟨q1, q2, q3⟩ := back W2 _ γ1 _ _ hR' j5 j3 j4 (.loop { rec .ready none with state := .exhausted })
      refine ⟨none, _, (run_endLoop (P := P) j3 (by rw [hrec]; simp)).trans (congrArg (fun p => Result.ok p _) (show (rec .ready none).pending = none by rw [hrec])), ?_⟩
      show _ ∧ _
      rw [hfin.2, hlift]
      refine ⟨rfl, γ1, w.heap.size, rfl, hf.mono q1.stp.le, ?_, Nat.le_refl _, ?_, q3⟩
      · rw [hfin.1]; exact q1
      · exact q2
    · have hfin : fin.1 = .ret := by
        rcases hend with ⟨h, _⟩ | ⟨_, h, _⟩
        · omega
        · exact h
      obtain ⟨q1, q2, q3⟩ := back W2 _ γ1 _ _ hR j5 j3 j4 (.loop { rec .done (some .ret) with state := .exhausted })
      refine ⟨some .ret, _, (run_endLoop (P := P) j3 (by rw [hrec]; simp)).trans (congrArg (fun p => Result.ok p _) (show (rec .done (some .ret)).pending = some .ret by rw [hrec])), ?_⟩
      refine wpIn_ret ?_
      rw [hfin, hlift]
      refine ⟨rfl, γ1, w.heap.size, rfl, hf.mono q1.stp.le, ?_, Nat.le_refl _, ?_, q3⟩
      · exact q1
      · exact q2
end Go.QfSy

namespace Go.QfSy
open Go.RowKit
def orcB (E : Env) (call : CallF) (f0 n0 : Nat) (l : List (List Nat × Ann)) (orc : CallF) : CallF := fun f args H =>
  bif Nat.beq f f0 && Nat.beq args.length n0 then bodyF E call (loL l) f args H else orc f args H
theorem orcB_ok {P : Program} {E : Env} (hE : EnvOk P E) {call : CallF} (hcall : CallOk P E.ng call) {f0 n0 : Nat} {fn : Func} (hf : P.funcs[f0]? = some fn) {l : List (List Nat × Ann)} (hl : ∀ x ∈ l, AnnOk P E.ng (Nat.max n0 fn.ntmps) (bodyAt fn x.1) x.2) {orc : CallF} (ho : CallOk P E.ng orc) : CallOk P E.ng (orcB E call f0 n0 l orc) := by
  intro f args H v H' h
  unfold orcB at h
  cases hb : (Nat.beq f f0 && Nat.beq args.length n0) with
  | false => rw [hb] at h; exact ho f args H v H' h
  | true =>
    rw [hb] at h
    simp only [cond_true] at h
    simp only [Bool.and_eq_true] at hb
    have h1 := Nat.eq_of_beq_eq_true hb.1
    have h2 := Nat.eq_of_beq_eq_true hb.2
    subst h1
    subst h2
    exact bodyF_ok hE hcall (fun fn' c h1 h2 => by
      rw [hf] at h1
      cases h1
      exact loL_ok h2 hl) h
theorem RRel.rows {F : Fz} {n sz : Nat} {row row' : Nat → List RV} (h : ∀ i, i < n → row i = row' i) {V : Value} (k : RRel F (.sl n sz row) V) : RRel F (.sl n sz row') V := by
  cases k with
  | sl0 sz row a c hn => exact .sl0 sz _ a c hn
  | sl cs hc hl hf hr => exact .sl cs hc hl hf (fun i hi => h i hi ▸ hr i hi)
theorem PureC.args {P : Program} {tabs : List Tb} {f : Nat} {A A' : List RV} {R : RV} (h : PureC P tabs f A' R) (ha : ∀ F Args, RsRel F A Args → RsRel F A' Args) : PureC P tabs f A R :=
  ⟨h.1, fun w F Args ht hF hr => h.2 w F Args ht hF (ha F Args hr)⟩
theorem ofR_rvs (c : Con) : Con.ofR c.rvs = c := rfl
theorem consR_ro (L : List Con) : consR L.length (fun i => (L.getD i Con.zero).rvs) = L := by
  apply List.ext_getElem
  · simp [consR]
  · intro i h1 h2
    simp [consR, ofR_rvs, h2]
theorem roC_ro {n : Nat} {row : Nat → List RV} (h : ∀ i, i < n → row i = (Con.ofR (row i)).rvs) {F : Fz} {V : Value} (k : RRel F (.sl n 5 row) V) : RRel F (roC (consR n row)) V := by
  unfold roC
  have hn : (consR n row).length = n := by simp [consR]
  rw [hn]
  refine k.rows (fun i hi => ?_)
  rw [h i hi]
  congr 1
  simp [consR, hi]
end Go.QfSy
namespace Go.QfSy
abbrev rws (L : List Con) : Nat → List RV := fun i => (L.getD i Con.zero).rvs
theorem oe (c : Bool) {P : Prop} (h : c = true → P) (h2 : c = false → P) : P := Or.elim (Bool.eq_false_or_eq_true c) h h2
end Go.QfSy

namespace Go.QfSy
open Go.RowKit
def preC : List Code → Code → Code
  | [], D => D
  | c :: l, D => .seq c (preC l D)
section
variable {P : Program} {E : Env} (hE : EnvOk P E) {call : CallF} (hc : CallOk P E.ng call) {lo : List Nat → Option Ann} {N : Nat}
include hE hc
theorem pre_in {m : Nat} {D X R : Code} {Q : Exit → Act → World → Prop} : ∀ (L : List Code) (n : Nat) (p : List Nat) (T T' : Tr AV) (H H' : Hs), straight (preC L D) = true → evCode E call lo N n p (preC L D) T H = some (.normal, T', H') → (∀ q ∈ H'.ms, q) → ∀ (γ : Gm) (a : Act) (w : World), FRel γ E.ng T N a → HRel γ H.m.get H.nx w →
      (∀ γ' a0 w', FRel γ' E.ng T' N a0 → RunR γ H w γ' H' w' → X.wpIn Fence.wide m P (Exit.then (R.wpIn Fence.wide m P Q) Q) a0 w') →
      (preC L (.seq (.seq D X) R)).wpIn Fence.wide m P Q a w
  | [], n, p, T, T', H, H', hs, h, hm, γ, a, w, hf, hr, hk => by
    have h1 := evCode_in hE hc (ro := none) (m := m) (ds := []) n p D T T' H H' .normal hs h hm γ a w hf hr
    have hl0 : ∀ b : Act, lift [] b = b := fun b => by unfold lift; rw [List.append_nil]
    rw [hl0] at h1
    refine wpIn_seq (wpIn_seq (wpIn_mono h1 ?_))
    rintro x a' w' ⟨rfl, γ', a0, rfl, g1, g2⟩
    rw [hl0]
    exact hk γ' a0 w' g1 g2
  | c :: l, n, p, T, T', H, H', hs, h, hm, γ, a, w, hf, hr, hk => by
    cases n with
    | zero => simp [evCode] at h
    | succ n =>
    obtain ⟨s1, s2⟩ := and_split (show (straight c && straight (preC l D)) = true from hs)
    simp only [preC, evCode] at h
    split at h
    · rename_i T1 H1 h1
      have hm1 := fun q hq => hm q (evCode_ms hc _ _ _ _ _ _ _ _ h q hq)
      have e1 := evCode_in hE hc (ro := none) (m := m) (ds := []) n (0 :: p) c T T1 H H1 .normal s1 h1 hm1 γ a w hf hr
      have hl0 : ∀ b : Act, lift [] b = b := fun b => by unfold lift; rw [List.append_nil]
      rw [hl0] at e1
      refine wpIn_seq (wpIn_mono e1 ?_)
      rintro x a' w' ⟨rfl, γ', a0, rfl, g1, g2⟩
      rw [hl0]
      exact pre_in l n (1 :: p) T1 T' H1 H' s2 h hm γ' a0 w' g1 g2.stp.rel fun γ'' a1 w'' g3 g4 => hk γ'' a1 w'' g3 (g2.trans g4)
    · rename_i hne
      exact (hne T' H' h).elim
end
def resF (E : Env) (fn : Func) (T : Tr AV) (H : Hs) : Option (AV × Hs) := match resA E.ti T H.m fn.results.toList with
  | none => none
  | some vs => some (tupA vs, H)
def postF (E : Env) (call : CallF) (N : Nat) (fn : Func) (R : Code) (T0 : List (Nat × AV)) (fin : AEx × List (Nat × Blk)) (nx : Nat) (q : List Bool) : Option (AV × Hs) := match fin.1 with
  | .exit _ => none
  | .ret => resF E fn (trOf T0) ⟨trOf fin.2, nx, [], []⟩
  | .normal => match evCode E call noLo N 999 [2] R (trOf T0) ⟨trOf fin.2, nx, q, []⟩ with
    | none => none
    | some (.exit _, _, _) => none
    | some (_, T, H) => resF E fn T H
theorem pure_of_calls {P : Program} {ng : Nat} {f : Nat} {fn : Func} (hfn : P.funcs[f]? = some fn) (hbd : fn.body.isSome = true) {A : List RV} {tabs : List Tb} (hg : tabs.all (fun t => Nat.blt t.g ng) = true) (hok : okNames (tabList tabs) = true) (hng : Nat.ble ng 1000 = true)
    {v : AV} {H' : Hs} {R : RV} {m1 : List Prop} (hrd : rd H'.m v R = some m1) (hm1 : ∀ q ∈ m1, q)
    (hb : ∀ γ w Args, HRel γ (trOf (tabList tabs)).get 1000 w → VsRel γ (RV.avl A) Args → Glob ng γ → Calls P f Args.toArray w fun e w' => ∃ V γ', e = .returned V ∧ VRel γ' v V ∧ RunR γ ⟨trOf (tabList tabs), 1000, [], []⟩ w γ' H' w') : PureC P tabs f A R := by
  have hng := Nat.le_of_ble_eq_true hng
  refine ⟨⟨fn, hfn, hbd⟩, fun w F Args hT hF hA => ?_⟩
  have hcalls := hb (gam0 ng F) w Args (hrel0 hT hF hng hg hok) hA.avl (fun g hg' => by simp [gam0, hg'])
  refine hcalls.mono ?_
  rintro e w' ⟨V, γ', rfl, hV, hR⟩
  have hbel : Below w.heap.size w w' := ⟨hR.stp.os, hR.stp.tape, hR.stp.output, hR.stp.size, fun k hk => hR.stp.frame k hk (noOwn0 hok k)⟩
  let F' : Fz := fun B => match γ'.fz B with
    | some x => some x
    | none => if w.heap.size ≤ B then w'.heap[B]? else none
  have hle : γ'.fz.le F' := by intro B x hx; simp only [F', hx]
  refine ⟨V, F', rfl, fun B x hx => hle B x (hR.stp.le.fz B x hx), ?_, ?_, ?_, hbel⟩
  · intro B x hx
    simp only [F'] at hx
    split at hx
    · rename_i y hy; cases hx; exact hR.stp.rel.fzr B x hy
    · split at hx
      · exact hx
      · cases hx
  · intro B x hx
    simp only [F'] at hx
    split at hx
    · rename_i y hy
      cases hx
      rcases hR.stp.fzn B x hy with h1 | h1 | h1
      · exact .inl h1
      · exact .inr h1
      · exact (noOwn0 hok B h1).elim
    · split at hx
      · rename_i hB; exact .inr hB
      · cases hx
  · refine rd_ok hR.stp.rel hle (fun b k B x y hk hown hgb hy => ?_) hrd hm1 hV
    have hz := hR.stp.rel.fzo b k B x hk hown hgb
    simp only [F', hz]
    rw [if_pos, hy]
    rcases Nat.lt_or_ge B w.heap.size with h1 | h1
    · exact (noOwn0 hok B (hR.stp.own B h1 ⟨b, k, x, hk, hown, hgb⟩)).elim
    · exact h1
theorem run_e {e' e : AEx} {T' : Tr AV} {H' : Hs} {S : St} {b : Nat} {rn : List (Nat × Nat)} {ms : List Prop} (h1 : outS (some (e', T', H')) e S b rn = some ms) : e = e' := by
  unfold outS at h1
  simp only at h1
  have hc := (bif_some h1).1
  simp only [Bool.and_eq_true] at hc
  exact beqE_ok hc.1.1.1.1.1.1.1.1
theorem pure_rf {P : Program} {E : Env} (hE : EnvOk P E) {call : CallF} (hc : CallOk P E.ng call) {f : Nat} {fn : Func} (hfn : P.funcs[f]? = some fn) {L : List Code} {D R assign body : Code} {tg tp id : Nat}
    (hbd : fn.body = some (preC L (.seq (.seq D (.block id (.rangeFunc (.tmp tg) #[tp] assign body))) R))) (hsp : straight (preC L D) = true) (hsR : straight R = true) (hsa : straight assign = true) (hsb : straight body = true)
    {A : List RV} (hlen : (RV.avl A).length < 1000) {N : Nat} (hN : N = Nat.max (RV.avl A).length fn.ntmps) {tabs : List Tb} (hg : tabs.all (fun t => Nat.blt t.g E.ng) = true) (hok : okNames (tabList tabs) = true) (hng : Nat.ble E.ng 1000 = true)
    {gf tS tI : Nat} {sep s : ByteArray} {ws : List ByteArray} (hit : IterC P gf tS tI sep s ws) (eg : ∀ args w, (callFunc gf args).run P w = .ok (.enter gf args) w)
    {T0 : List (Nat × AV)} {pre : List (Nat × Blk)} {bp bs bv nx0 nx1 : Nat} (hnx0 : 1000 ≤ nx0) (hnx : nx0 ≤ nx1)
    (hpre : ∃ q ms, outA (evCode E call noLo N 999 [] (preC L D) (Tr.ofList (RV.avl A)) ⟨trOf (tabList tabs), 1000, q, []⟩) .normal ⟨T0, pre, nx0⟩ 1000 = some ms ∧ allP ms)
    (mS : Nat → List (Nat × Blk)) (fin : AEx × List (Nat × Blk)) (K : Nat)
    (hgt : (trOf T0).get tg = some (.fn gf [.ptr bp 0, .ptr bs 0, .ptr bv 0])) (htp : tp < N) (htop : Nat.ble tp Tr.top = true)
    (hp : (trOf pre).get bp = some ⟨.plain [.str sep], tS, 0, false, true⟩) (hs : (trOf pre).get bs = some ⟨.plain [.vstr s], tS, 0, false, true⟩) (hv : (trOf pre).get bv = some ⟨.plain [.int .i64 0], tI, 0, false, true⟩) (hne1 : bp ≠ bs) (hne2 : bv ≠ bs)
    (hsub : ∀ b k, (trOf (mS 0)).get b = some k → (trOf pre).get b = some k ∧ b ≠ bp ∧ b ≠ bs ∧ b ≠ bv)
    (T1 : ByteArray → Tr AV) (hna : ∀ k x q, evCode E call noLo N 999 [0] assign (trOf ((tp, .vstr x) :: T0)) (stH ⟨[], mS k, nx1⟩ q) = some (.normal, T1 x, stH ⟨[], mS k, nx1⟩ q))
    (hgo : ∀ k x, ws[k]? = some x → k < K → ∃ q ms rn, outS (evCode E call noLo N 999 [1] body (T1 x) (stH ⟨[], mS k, nx1⟩ q)) .normal ⟨[], mS (k + 1), nx1⟩ nx0 rn = some ms ∧ allP ms)
    (hend : (K = ws.length ∧ fin = (.normal, mS K)) ∨ (K < ws.length ∧ fin.1 = .ret ∧ ∀ x, ws[K]? = some x → ∃ q ms rn, outS (evCode E call noLo N 999 [1] body (T1 x) (stH ⟨[], mS K, nx1⟩ q)) .ret ⟨[], fin.2, nx1⟩ nx0 rn = some ms ∧ allP ms))
    {V : RV} (hpost : ∃ q ms, outR (postF E call N fn R T0 fin nx1 q) V = some ms ∧ allP ms) : PureC P tabs f A V := by
  obtain ⟨q1, ms1, hout1, hall1⟩ := hpre
  obtain ⟨q2, ms2, hout2, hall2⟩ := hpost
  have hng0 := Nat.le_of_ble_eq_true hng
  -- what comes behind the range
  obtain ⟨v, H', m1, hpf, hrd, hm1, hHm⟩ : ∃ v H' m1, postF E call N fn R T0 fin nx1 q2 = some (v, H') ∧ rd H'.m v V = some m1 ∧ (∀ q ∈ m1, q) ∧ ∀ q ∈ H'.ms, q := by
    unfold outR at hout2
    split at hout2
    · cases hout2
    · rename_i v H' hpf
      split at hout2
      · cases hout2
      · rename_i m1 hrd
        cases hout2
        rw [allP_iff] at hall2
        obtain ⟨h1, h2⟩ := split2 hall2
        exact ⟨v, H', m1, hpf, hrd, h1, h2⟩
  refine pure_of_calls hfn (by rw [hbd]; rfl) hg hok hng hrd hm1 ?_
  intro γ w Args hr hA hgl
  have hl := hA.length
  have hNs : (Args.toArray ++ Array.replicate (fn.ntmps - Args.toArray.size) undef).size = N := by
    rw [hN]
    simp only [Array.size_append, List.size_toArray, Array.size_replicate, hl]
    show _ = max _ _
    omega
  have hf : FRel γ E.ng (Tr.ofList (RV.avl A)) N { tmps := Args.toArray ++ Array.replicate (fn.ntmps - Args.toArray.size) undef, defers := [] } :=
    ⟨rfl, hNs, fun t v hv => args_get hA (by omega) _ t hv, hgl⟩
  refine (callsIn_wide (n := 0)).1 (callsIn_of_wp_marks hfn hbd trivial ?_ rfl)
  cases hev : evCode E call noLo N 999 [] (preC L D) (Tr.ofList (RV.avl A)) ⟨trOf (tabList tabs), 1000, q1, []⟩ with
  | none => rw [hev] at hout1; unfold outA outS at hout1; cases hout1
  | some res =>
  obtain ⟨e', T', H1⟩ := res
  rw [hev] at hout1
  have hms1 := run_ms hout1 hall1
  have he0 := run_e hout1
  subst he0
  refine pre_in hE hc L 999 [] _ _ _ _ hsp hev hms1 γ _ w hf hr ?_
  intro γ1 a1 w1 hf1 hR1
  obtain ⟨_, γ2, hf2, hR2⟩ := outS_ok (ng := E.ng) (H0 := ⟨trOf (tabList tabs), 1000, [], []⟩) hr hng0 hout1 ((allP_iff ms1).1 hall1) hf1 ⟨hR1.stp, hR1.nx, hR1.keep⟩
  refine wpIn_block (wpIn_mono (rf_of hE hc hsa hsb hit eg (by omega) hnx mS fin K hgt htp htop hp hs hv hne1 hne2 hsub T1 hna hgo hend γ2 a1 w1 hf2 hR2.stp.rel) ?_)
  rintro x a' w2 ⟨rfl, γ3, Dk, rfl, hf3, hR3, hD1, hD2, hD3⟩
  -- the end, at a state that says T, H
  have finish : ∀ (e : AEx) (T : Tr AV) (a4 : Act) (w4 : World) (γ4 : Gm), (∀ i, e ≠ .exit i) → resF E fn T H' = some (v, H') → FRel γ4 E.ng T N a4 → RunR γ3 ⟨trOf fin.2, nx1, [], []⟩ w2 γ4 H' w4 →
      bodyPostM Fence.wide 0 P fn (fun e w' => ∃ V γ', e = .returned V ∧ VRel γ' v V ∧ RunR γ ⟨trOf (tabList tabs), 1000, [], []⟩ w γ' H' w') e.den (lift [mark Dk] a4) w4 := by
    intro e T a4 w4 γ4 hne hres hf4 hR4
    have nD := noimg_obj hR3.stp.rel hD2 rfl
    have hDlt : Dk < w2.heap.size := (Array.getElem?_eq_some_iff.1 hD2).1
    obtain ⟨n4, z4⟩ := noimg_step hR3.stp.rel hR4.stp hDlt nD hD3
    have hD4 : w4.heap[Dk]? = some (.deferred (some [])) := (hR4.stp.frame _ hDlt nD.own).trans hD2
    have tot : RunR γ ⟨trOf (tabList tabs), 1000, [], []⟩ w γ4 H' (w4.putObj Dk (.deferred none)) := by
      have t1 := (hR2.trans (H1 := ⟨trOf pre, nx0, [], []⟩) hR3).trans hR4
      exact ⟨put_end t1.stp n4 z4 (.inr (Nat.le_trans hR2.stp.size hD1)) _, t1.nx, t1.keep⟩
    unfold resF at hres
    split at hres
    · cases hres
    · rename_i vs hvs
      cases hres
      obtain ⟨Vs, h1, h2⟩ := resA_ok (P := P) hE.ti hf4 tot.stp.rel fn.results.toList vs hvs
      have hres : (results fn a4.tmps).run P (w4.putObj Dk (.deferred none)) = .ok (if hs : Vs.toArray.size = 1 then Vs.toArray[0] else .tuple Vs.toArray) (w4.putObj Dk (.deferred none)) := by
        unfold results
        rw [Array.mapM_eq_mapM_toList]
        simp only [Sem.run_bind, Sem.run_map, Sem.run_pure]
        exact congrArg (fun r : Result (List Value) => (r.andThen fun a w' => Result.ok a.toArray w').andThen fun a w' => Result.ok (if h : a.size = 1 then a[0] else Value.tuple a) w') h1
      have hd : (lift [mark Dk] a4).defers = [mark Dk] := by unfold lift; rw [hf4.defers]; rfl
      have hleave : LeavesInM Fence.wide 0 P fn (lift [mark Dk] a4).tmps (fun e w' => ∃ V γ', e = .returned V ∧ VRel γ' (tupA vs) V ∧ RunR γ ⟨trOf (tabList tabs), 1000, [], []⟩ w γ' H' w') (lift [mark Dk] a4).defers .returning w4 := by
        rw [hd]
        exact ⟨by simp, .inl ⟨Dk, _, rfl, run_takeDeferred hD4, _, hres, _, γ4, rfl, tupA_ok h2, tot⟩⟩
      cases e with
      | normal => exact hleave
      | ret => exact hleave
      | exit i => exact (hne i rfl).elim
  unfold postF at hpf
  obtain ⟨f1, f2⟩ := fin
  cases f1 with
  | exit i => cases hpf
  | ret =>
    have hH : H' = ⟨trOf f2, nx1, [], []⟩ := by
      simp only [resF] at hpf
      split at hpf
      · cases hpf
      · cases hpf; rfl
    subst hH
    exact finish .ret _ a1 w2 γ3 (fun i h => by cases h) hpf hf3 (RunR.refl hR3.stp.rel)
  | normal =>
    simp only at hpf
    split at hpf
    · cases hpf
    · cases hpf
    · rename_i e4 T4 H4 hne4 hev4
      have hH : H' = H4 := by
        simp only [resF] at hpf
        split at hpf
        · cases hpf
        · cases hpf; rfl
      subst hH
      have h4 := evCode_in hE hc (lo := noLo) (N := N) (ro := none) (m := 0) (ds := [mark Dk]) 999 [2] R _ _ _ _ e4 hsR hev4 hHm γ3 a1 w2 hf3 hR3.stp.rel
      refine wpIn_mono h4 ?_
      rintro x a5 w5 ⟨rfl, γ5, a6, rfl, g1, g2⟩
      exact finish e4 T4 a6 w5 γ5 (fun i h => hne4 i h) hpf g1 ⟨g2.stp, g2.nx, g2.keep⟩
end Go.QfSy

namespace Go.QfSy
open Go.RowKit
end Go.QfSy

namespace Go.QfSy
open Go.RowKit
def fz0 : Fz := fun _ => none
def PtrC (P : Program) (el : Nat) (f : Nat) (V : List RV) (A : List RV) (R : RV) (V' : List RV) : Prop :=
  (∃ fn, P.funcs[f]? = some fn ∧ fn.body.isSome = true) ∧
  ∀ (w : World) (F : Fz) (Args : List Value) (B : Nat) (cs : List Value), Vld F w → F B = none → w.heap[B]? = some (.cells cs.toArray el (0, 0)) → RsRel F V cs → RsRel F A Args →
    Calls P f (Value.pointer (some ⟨B, 0, none⟩) :: Args).toArray w fun e w' => ∃ v cs', e = .returned v ∧ RRel fz0 R v ∧ w.heap.size ≤ w'.heap.size ∧ w'.os = w.os ∧ w'.tape = w.tape ∧ w'.output = w.output ∧
      (∀ j, j < w.heap.size → j ≠ B → w'.heap[j]? = w.heap[j]?) ∧ w'.heap[B]? = some (.cells cs'.toArray el (0, 0)) ∧ RsRel fz0 V' cs'
def ptrH (el : Nat) (V : List RV) (tp : List Bool) : Hs := ⟨trOf [(1000, ⟨.plain (RV.avl V), el, 0, false, true⟩)], 1001, tp, []⟩
def outP (el : Nat) (x : Option (AV × Hs)) (R : RV) (V' : List RV) : Option (List Prop) := match x with
  | none => none
  | some (v, H) => match rd H.m v R with
    | none => none
    | some m1 => match H.m.get 1000 with
      | none => none
      | some k => bif (Nat.beq k.elem el && Nat.beq k.sz 0) && (R.flatV && RV.flatVs V') then (match k.view with
        | .plain M => match rds H.m M V' with
          | none => none
          | some m2 => some (m1 ++ (m2 ++ H.ms))
        | _ => none) else none
theorem ptr_of_run {P : Program} {E : Env} (hE : EnvOk P E) {call : CallF} (hcall : CallOk P E.ng call) {f : Nat} {fn : Func} (hf : P.funcs[f]? = some fn) {A V V' : List RV} {el N : Nat} (hN : N = Nat.max (AV.ptr 1000 0 :: RV.avl A).length fn.ntmps) {l : List (List Nat × Ann)} (hl : ∀ x ∈ l, AnnOk P E.ng N (bodyAt fn x.1) x.2) (hng : Nat.ble E.ng 1000 = true)
    {R : RV} {tp : List Bool} {ms : List Prop} (h : outP el (bodyF E call (loL l) f (.ptr 1000 0 :: RV.avl A) (ptrH el V tp)) R V' = some ms) (hm : allP ms) : PtrC P el f V A R V' := by
  have hlo : ∀ fn' c, P.funcs[f]? = some fn' → fn'.body = some c → LoOk P E.ng (Nat.max (AV.ptr 1000 0 :: RV.avl A).length fn'.ntmps) (loL l) c := fun fn' c h1 h2 => by
    rw [hf] at h1
    cases h1
    subst hN
    exact loL_ok h2 hl
  unfold outP at h
  split at h
  · cases h
  · rename_i v H' hrun
    split at h
    · cases h
    · rename_i m1 hrd
      split at h
      · cases h
      · rename_i k hk
        obtain ⟨hb0, h⟩ := bif_some h
        obtain ⟨hb1, hb2⟩ := and_split hb0
        obtain ⟨he1, he2⟩ := and_split hb1
        obtain ⟨hf1, hf2⟩ := and_split hb2
        have he1 := Nat.eq_of_beq_eq_true he1
        have he2 := Nat.eq_of_beq_eq_true he2
        split at h
        · rename_i M hM
          split at h
          · cases h
          · rename_i m2 hrd2
            cases h
            rw [allP_iff] at hm
            have hm1 : ∀ p ∈ m1, p := fun p hp => hm p (by simp [hp])
            have hm2 : ∀ p ∈ m2, p := fun p hp => hm p (by simp [hp])
            have hm3 : ∀ p ∈ H'.ms, p := fun p hp => hm p (by simp [hp])
            have hb := (bodyF_ok hE hcall hlo hrun).2 hm3
            have hng := Nat.le_of_ble_eq_true hng
            refine ⟨?_, fun w F Args B cs hF hB hw hcs hA => ?_⟩
            · unfold bodyF at hrun
              split at hrun
              · cases hrun
              · rename_i fn hfn
                rw [hE.fs f] at hfn
                split at hrun
                · cases hrun
                · rename_i c hc
                  exact ⟨fn, hfn, by rw [hc]; rfl⟩
            · have hget : ∀ b k, (ptrH el V tp).m.get b = some k → b = 1000 ∧ k = ⟨.plain (RV.avl V), el, 0, false, true⟩ := by
                intro b k hb
                have := trOf_get _ _ _ (by rfl) hb
                simp only [List.mem_singleton, Prod.mk.injEq] at this
                exact this
              have hself : ((gam0 E.ng F).put 1000 (some (B, 0))) 1000 = some (B, 0) := Gm.put_same _ _ _
              have hrel : HRel ((gam0 E.ng F).put 1000 (some (B, 0))) (ptrH el V tp).m.get (ptrH el V tp).nx w := by
                refine ⟨fun b k hb => ?_, fun b b' k k' B x x' h1 h2 _ _ => ?_, fun b hb => ?_, hF, fun b k B' x' hb _ hg => ?_⟩
                · obtain ⟨rfl, rfl⟩ := hget b k hb
                  exact ⟨B, 0, cs, [], hself, by rw [List.append_nil]; exact hw, RsRel.avl (γ := (gam0 E.ng F).put 1000 (some (B, 0))) hcs, rfl, fun _ => rfl⟩
                · rw [(hget b k h1).1, (hget b' k' h2).1]
                · have hb : 1001 ≤ b := hb
                  rw [Gm.put_other _ _ (by omega)]
                  show (if b < E.ng then some (b, 0) else none) = none
                  rw [if_neg (by omega)]
                · obtain ⟨rfl, rfl⟩ := hget b k hb
                  rw [hself] at hg
                  cases hg
                  exact hB
              obtain ⟨_, hcalls⟩ := hb ((gam0 E.ng F).put 1000 (some (B, 0))) w (Value.pointer (some ⟨B, 0, none⟩) :: Args) hrel (.cons (.ptr 0 hself) (RsRel.avl (γ := (gam0 E.ng F).put 1000 (some (B, 0))) hA)) (fun g hg' => by
                rw [Gm.put_other _ _ (by omega)]; simp [gam0, hg'])
              refine hcalls.mono ?_
              rintro e w' ⟨v', γ', rfl, hV, hR⟩
              obtain ⟨B', x', cs', ex', g1, g2, g3, g4, _⟩ := hR.stp.rel.blk 1000 k hk
              have := hR.stp.le.nm _ _ hself
              rw [show γ'.nm 1000 = some (B', x') from g1] at this
              cases this
              have hex : ex' = [] := by
                rw [he2] at g4
                exact List.eq_nil_of_length_eq_zero (by omega)
              subst hex
              rw [List.append_nil] at g2
              have hle : γ'.fz.le (fun B => w'.heap[B]?) := fun B x h => hR.stp.rel.fzr B x h
              have r1 := rd_ok hR.stp.rel hle (fun b k B x y _ _ _ hy => hy) hrd hm1 hV
              have hc : k.cells = M := by unfold Blk.cells; rw [hM]; rfl
              rw [hc] at g3
              have r2 := rds_ok hR.stp.rel hle (fun b k B x y _ _ _ hy => hy) hrd2 hm2 g3
              refine ⟨v', cs', rfl, r1.flat hf1, hR.stp.size, hR.stp.os, hR.stp.tape, hR.stp.output, fun j hj hne => hR.stp.frame j hj ?_, by rw [← he1]; exact g2, r2.flat hf2⟩
              rintro ⟨b, k, y, q1, _, q3⟩
              obtain ⟨rfl, rfl⟩ := hget b k q1
              rw [hself] at q3
              cases q3
              exact hne rfl
        · cases h
def orcP (el f0 : Nat) (go : List RV → List RV → Option (RV × List RV × List Prop)) (orc : CallF) : CallF := fun f args H =>
  bif Nat.beq f f0 then (match args with
    | .ptr b 0 :: as => match H.m.get b with
      | none => none
      | some k => bif (Nat.beq k.elem el && Nat.beq k.sz 0) && k.own then (match k.view with
        | .plain M => match rvsOf H.m M with
          | some (V, false, m0) => match rvsOf H.m as with
            | some (A, false, m1) => match go V A with
              | none => none
              | some (R, V', m2) => bif R.flatV && (RV.flatVs V && RV.flatVs V') then (match H.m.set b (some { k with view := .plain (RV.avl V') }) with
                | none => none
                | some m' => some (R.av, (⟨m', H.nx, H.tp, H.ms⟩ : Hs).must (m0 ++ (m1 ++ m2)))) else none
            | _ => none
          | _ => none
        | _ => none) else none
    | _ => none)
  else orc f args H
theorem orcP_ok {P : Program} {ng el f0 : Nat} {go : List RV → List RV → Option (RV × List RV × List Prop)} (he : ∀ V A R V' ms, go V A = some (R, V', ms) → (∀ p ∈ ms, p) → PtrC P el f0 V A R V') {orc : CallF} (ho : CallOk P ng orc) : CallOk P ng (orcP el f0 go orc) := by
  intro f args H v H' h
  unfold orcP at h
  cases hb0 : Nat.beq f f0 with
  | false => rw [hb0] at h; exact ho f args H v H' h
  | true =>
    rw [hb0] at h
    simp only [cond_true] at h
    have hf := Nat.eq_of_beq_eq_true hb0
    subst hf
    split at h
    · rename_i b as
      split at h
      · cases h
      · rename_i k hk
        obtain ⟨hb1, h⟩ := bif_some h
        obtain ⟨hb1, hown⟩ := and_split hb1
        obtain ⟨he1, he2⟩ := and_split hb1
        have he1 := Nat.eq_of_beq_eq_true he1
        have he2 := Nat.eq_of_beq_eq_true he2
        split at h
        · rename_i M hM
          split at h
          · rename_i V m0 hV0
            split at h
            · rename_i A m1 hA
              split at h
              · cases h
              · rename_i R V' m2 hgo
                obtain ⟨hb2, h⟩ := bif_some h
                obtain ⟨hf1, hb2⟩ := and_split hb2
                obtain ⟨hf2, hf3⟩ := and_split hb2
                split at h
                · cases h
                · rename_i m' hset
                  cases h
                  refine ⟨fun p hp => by simp [Hs.must, hp], fun hm γ w Args hr hV hg => ?_⟩
                  have hms : ∀ p ∈ m0 ++ (m1 ++ m2), p := fun p hp => hm p (by simp only [Hs.must]; exact List.mem_append_left _ hp)
                  obtain ⟨hm0, hms⟩ := split2 hms
                  obtain ⟨hm1, hm2⟩ := split2 hms
                  obtain ⟨hfn, hptr⟩ := he V A R V' m2 hgo hm2
                  refine ⟨hfn, ?_⟩
                  cases hV with
                  | cons hVp hVs =>
                    cases hVp with
                    | ptr _ hgb =>
                      rename_i B x
                      obtain ⟨B', x', cs, ex, g1, g2, g3, g4, g5⟩ := hr.blk b k hk
                      rw [hgb] at g1
                      cases g1
                      have hex : ex = [] := by
                        rw [he2] at g4
                        exact List.eq_nil_of_length_eq_zero (by omega)
                      subst hex
                      rw [List.append_nil] at g2
                      have hcells : k.cells = M := by unfold Blk.cells; rw [hM]; rfl
                      rw [hcells] at g3
                      have hfz := hr.fzo b k B x hk hown hgb
                      have hRs := rvsOf_ok hr (F := γ.fz) (fun _ _ h => h) (fun h => by cases h) hA hm1 hVs
                      have hRc := rvsOf_ok hr (F := γ.fz) (fun _ _ h => h) (fun h => by cases h) hV0 hm0 g3
                      refine (hptr w γ.fz _ B cs hr.fzr hfz (by rw [he1] at g2; exact g2) hRc hRs).mono ?_
                      rintro e w' ⟨v, cs', rfl, q0, q1, q2, q3, q4, q5, q6, q7⟩
                      have hget := Tr.get_set hset
                      have hBlt : B < w.heap.size := hr.lt hk hgb
                      refine ⟨v, γ, rfl, RRel.av (γ := γ) (q0.flat hf1), ⟨Gm.le_refl γ, ⟨fun c kc hc => ?_, fun c c' kc kc' B1 y y' h1 h2 => ?_, hr.fresh, fun B1 y hB1 => ?_, fun c kc B1 y hc hco => ?_⟩, q1, q2, q3, q4, fun j hj hno => ?_, fun j hj hoi => ?_, fun c kc hc hco => ?_, fun c kc hc => ?_, fun B1 y h1 => .inl h1⟩, Nat.le_refl _, fun _ _ => rfl⟩
                      · have hc : m'.get c = some kc := hc
                        rw [hget] at hc
                        split at hc
                        · rename_i e
                          cases hc
                          rw [e]
                          exact ⟨B, x, cs', [], hgb, by rw [he1, List.append_nil]; exact q6, RsRel.avl (γ := γ) (q7.flat hf3), by rw [he2]; rfl, g5⟩
                        · rename_i e
                          obtain ⟨B2, x2, cs2, ex2, p1, p2, p3⟩ := hr.blk c kc hc
                          refine ⟨B2, x2, cs2, ex2, p1, ?_, p3⟩
                          rw [q5 B2 (hr.lt hc p1) (fun e2 => e (hr.inj c b kc k B x2 x hc hk (by rw [← e2]; exact p1) hgb))]
                          exact p2
                      · have hs : ∀ c kc, m'.get c = some kc → ∃ kc', H.m.get c = some kc' := by
                          intro c kc hc
                          rw [hget] at hc
                          split at hc
                          · rename_i e; rw [e]; exact ⟨k, hk⟩
                          · exact ⟨kc, hc⟩
                        obtain ⟨_, s1⟩ := hs _ _ h1
                        obtain ⟨_, s2⟩ := hs _ _ h2
                        exact hr.inj _ _ _ _ _ _ _ s1 s2
                      · have h1 := hr.fzr B1 y hB1
                        rw [q5 B1 (Array.getElem?_eq_some_iff.1 h1).1 (fun e => by rw [e, hfz] at hB1; cases hB1)]
                        exact h1
                      · have hc : m'.get c = some kc := hc
                        rw [hget] at hc
                        split at hc
                        · rename_i e; rw [e]; exact hr.fzo b k B1 y hk hown
                        · exact hr.fzo c kc B1 y hc hco
                      · exact q5 j hj (fun e => hno (e ▸ ⟨b, k, x, hk, hown, hgb⟩))
                      · obtain ⟨c, kc, y, s1, s2, s3⟩ := hoi
                        have s1 : m'.get c = some kc := s1
                        rw [hget] at s1
                        split at s1
                        · rename_i e
                          rw [e] at s3
                          exact ⟨b, k, y, hk, hown, s3⟩
                        · exact ⟨c, kc, y, s1, s2, s3⟩
                      · have hc : m'.get c = some kc := hc
                        rw [hget] at hc
                        split at hc
                        · cases hc; rw [hown] at hco; cases hco
                        · exact hc
                      · have hc : m'.get c = some kc := hc
                        rw [hget] at hc
                        split at hc
                        · rename_i e; rw [e]; exact .inl ⟨k, hk⟩
                        · exact .inl ⟨kc, hc⟩
            · cases h
          · cases h
        · cases h
    · cases h
end Go.QfSy

