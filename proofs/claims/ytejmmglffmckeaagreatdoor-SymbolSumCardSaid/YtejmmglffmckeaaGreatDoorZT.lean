/- Operations on open terms and on lists that may be open, continued: loads, slices, numbers. -/
import Derived.Test.YtejmmglffmckeaaGreatDoorZS
set_option linter.unusedSimpArgs false
set_option linter.unusedVariables false
namespace Go.QfSy

/- a field behind an address -/
def sFieldAddr (ti : Tr TypeInfo) (s : Nat) (x : AV) (f : Nat) : Option AV :=
  match und ti s with
  | some (.struct fields) => match fields[f]? with
    | none => none
    | some fd => match szT ti fd.type with
      | some (_ + 1) => match x with
        | .rp cs j => some (.rp cs (j + fd.offset))
        | .lp b i z j => some (.lp b i z (j + fd.offset))
        | _ => none
      | _ => none
  | _ => none

theorem flat_get (L : List Con) : ∀ (i j : Nat), i < L.length → j < 5 → (L.flatMap Con.avs)[i * 5 + j]? = (L.getD i Con.zero).avs[j]? := by
  induction L with
  | nil => intro i j h; simp at h
  | cons c L ih =>
    intro i j hi hj
    rw [List.flatMap_cons]
    cases i with
    | zero =>
      rw [List.getElem?_append_left (by simp [Con.avs]; omega)]
      simp
    | succ i =>
      rw [List.getElem?_append_right (by simp [Con.avs]; omega)]
      have e : (i + 1) * 5 + j - c.avs.length = i * 5 + j := by simp [Con.avs]; omega
      rw [e, ih i j (by simpa using hi) hj]
      simp
theorem flat_len (L : List Con) : (L.flatMap Con.avs).length = L.length * 5 := by
  induction L with
  | nil => rfl
  | cons c L ih => rw [List.flatMap_cons, List.length_append, ih]; simp [Con.avs]; omega
theorem flat_row (L : List Con) (i : Nat) (hi : i < L.length) : ((L.flatMap Con.avs).drop (i * 5)).take 5 = (L.getD i Con.zero).avs := by
  apply List.ext_getElem?
  intro j
  rw [List.getElem?_take]
  split
  · rename_i hj
    rw [List.getElem?_drop]
    exact flat_get L i j hi hj
  · rw [List.getElem?_eq_none]
    simp [Con.avs]; omega

/- the numbers of a row of cells -/
def intsOf (k : IntKind) : List AV → Option (List Int)
  | [] => some []
  | v :: vs => match clr v with
    | .int k' n => bif decide (k = k') then (match intsOf k vs with | none => none | some l => some (n :: l)) else none
    | _ => none
theorem intsOf_ok {γ : Gm} {k : IntKind} {vs : List AV} {Vs : List Value} (h : VsRel γ vs Vs) {l : List Int} (hq : intsOf k vs = some l) : Vs = l.map (Value.int k) := by
  induction vs generalizing Vs l with
  | nil => cases h; simp [intsOf] at hq; subst hq; rfl
  | cons v vs ih =>
    cases h with
    | cons hv ht =>
      have hv := hv.clr
      simp only [intsOf] at hq
      split at hq
      · rename_i k' n hc
        rw [hc] at hv
        cases hv
        obtain ⟨hk, hq'⟩ := bif_some hq
        have hk := of_decide_eq_true hk
        clear hq
        subst hk
        split at hq'
        · cases hq'
        · rename_i l' hl'
          cases hq'
          rw [ih ht hl']
          rfl
      · cases hq

/- what kind of numbers a type has -/
def intT (ti : Tr TypeInfo) (t : Nat) : Option IntKind := match und ti t with
  | some (.int k) => some k
  | _ => none

def sLoad (ti : Tr TypeInfo) (h : Tr Blk) (t : Nat) (x : AV) : Option (AV × List Prop) :=
  match und ti t with
  | none => none
  | some d => match x with
    | .rp cs j =>
      bif aggD d then
        match szT ti t with
        | none => none
        | some n => bif Nat.ble (j + n) cs.length then some (.agg (RV.avl ((cs.drop j).take n)), []) else none
      else (match (cs.drop j).head? with
        | none => none
        | some r => some (r.av, []))
    | .lp b i z j => match h.get b with
      | none => none
      | some k => match k.view with
        | .con L =>
          bif Nat.beq z 5 then
            bif aggD d then
              match szT ti t with
              | none => none
              | some n => bif Nat.beq n 5 && Nat.beq j 0 then some (.agg (L.getD i Con.zero).avs, [i < L.length]) else none
            else (match (L.getD i Con.zero).avs[j]? with
              | none => none
              | some v => some (v, [i < L.length]))
          else none
        | .ints kk L => bif aggD d then none else bif Nat.beq z 1 && Nat.beq j 0 then some (.vint kk (L.getD i 0), [i < L.length]) else none
        | .plain cs => bif aggD d then none else match intT ti t with
          | none => none
          | some kk => match intsOf kk cs with
            | none => none
            | some l => bif Nat.beq z 1 then some (.vint kk (l.getD (i + j) 0), [i + j < l.length]) else none
    | _ => none

section
variable {P : Program} {ti : Tr TypeInfo} (ht : TabOk P ti) {γ : Gm} {w : World}
include ht

theorem sFieldAddr_ok {s f : Nat} {x v : AV} {X : Value} (hx : VRel γ x X) (hq : sFieldAddr ti s x f = some v) : ∃ V, (Instr.fieldAt s X f).run P w = .ok V w ∧ VRel γ v V := by
  unfold sFieldAddr at hq
  split at hq
  · rename_i fields hd
    split at hq
    · cases hq
    · rename_i fd hf
      split at hq
      · rename_i n hs
        split at hq
        · rename_i cs j
          cases hq
          cases hx with
          | rp h hc =>
            rename_i B o Cs
            refine ⟨.pointer (some ⟨B, o + (j + fd.offset), none⟩), ?_, .rp h hc⟩
            simp [Instr.fieldAt, run_und ht hd, hf, Instr.sureAddr, fieldPlace, run_sizeOf ht hs, addr_add, Nat.add_assoc]
        · rename_i b i z j
          cases hq
          cases hx with
          | lp _ _ _ hg =>
            rename_i B x
            refine ⟨.pointer (some ⟨B, i * z + (j + fd.offset), none⟩), ?_, .lp _ _ _ hg⟩
            simp [Instr.fieldAt, run_und ht hd, hf, Instr.sureAddr, fieldPlace, run_sizeOf ht hs, addr_add, Nat.add_assoc]
        · cases hq
      · cases hq
  · cases hq

omit ht in
theorem loadVar_agg (ht : TabOk P ti) {t n : Nat} {d : TypeDesc} (hd : und ti t = some d) (hag : aggD d = true) (hs : szT ti t = some n) {B o : Nat} {Vs : List Value} (hl : Vs.length = n) (hc : ∀ j v, Vs[j]? = some v → w.cell? ⟨B, o + j, none⟩ = some v) :
    (loadVar t ⟨B, o, none⟩).run P w = .ok (.agg Vs.toArray) w := by
  have hl' := run_loadCells_list (P := P) w ⟨B, o, none⟩ Vs (fun j v hv => by rw [addr_add]; exact hc j v hv)
  rw [hl] at hl'
  simp [loadVar, run_isAgg ht hd, hag, run_sizeOf ht hs, hl']
omit ht in
theorem loadVar_one (ht : TabOk P ti) {t : Nat} {d : TypeDesc} (hd : und ti t = some d) (hag : aggD d = false) {B o : Nat} {V : Value} (hc : w.cell? ⟨B, o, none⟩ = some V) :
    (loadVar t ⟨B, o, none⟩).run P w = .ok V w := by
  simp [loadVar, run_isAgg ht hd, hag, hc]

theorem sLoad_ok {h : Tr Blk} {nx : Nat} (hr : HRel γ h.get nx w) {t : Nat} {x v : AV} {ms : List Prop} {X : Value} (hx : VRel γ x X) (hq : sLoad ti h t x = some (v, ms)) (hm : ∀ p ∈ ms, p) :
    ∃ V a, X = .pointer (some a) ∧ (loadVar t a).run P w = .ok V w ∧ VRel γ v V := by
  unfold sLoad at hq
  split at hq
  · cases hq
  · rename_i d hd
    split at hq
    · rename_i cs j
      cases hx with
      | rp h1 hf =>
        rename_i B o Cs
        have hlen := h1.length
        cases hag : aggD d with
        | true =>
          rw [hag] at hq
          simp only [cond_true] at hq
          split at hq
          · cases hq
          · rename_i n hs
            obtain ⟨hb, hq⟩ := bif_some hq
            cases hq
            have hb := Nat.le_of_ble_eq_true hb
            refine ⟨_, _, rfl, loadVar_agg ht hd hag hs (Vs := (Cs.drop j).take n) (by simp; omega) (fun i u hu => ?_), .agg (RsRel.avl ((h1.drop j).take n))⟩
            rw [List.getElem?_take] at hu
            split at hu
            · rw [List.getElem?_drop] at hu
              have := (hf _ _ hu).cell hr
              rwa [← Nat.add_assoc] at this
            · cases hu
        | false =>
          rw [hag] at hq
          simp only [cond_false] at hq
          split at hq
          · cases hq
          · rename_i r hr0
            cases hq
            have h2 := h1.drop j
            cases hcs : cs.drop j with
            | nil => rw [hcs] at hr0; simp at hr0
            | cons r' l =>
              rw [hcs] at hr0 h2
              simp at hr0
              subst hr0
              generalize hCs : Cs.drop j = Ds at h2
              cases h2 with
              | @cons _ V _ _ hv _ =>
                refine ⟨V, _, rfl, loadVar_one ht hd hag ?_, hv.av⟩
                refine (hf j V ?_).cell hr
                have : (Cs.drop j)[0]? = some V := by rw [hCs]; rfl
                rwa [List.getElem?_drop, Nat.add_zero] at this
    · rename_i b i z j
      cases hx with
      | lp _ _ _ hg =>
        rename_i B x
        split at hq
        · cases hq
        · rename_i k hk
          split at hq
          · rename_i L hv
            obtain ⟨hz, hq⟩ := bif_some hq
            have hz := beq_eq hz
            subst hz
            have hcells : k.cells = L.flatMap Con.avs := by unfold Blk.cells; rw [hv]; rfl
            cases hag : aggD d with
            | true =>
              rw [hag] at hq
              simp only [cond_true] at hq
              split at hq
              · cases hq
              · rename_i n hs
                obtain ⟨hb, hq'⟩ := bif_some (c := Nat.beq n 5 && Nat.beq j 0) hq
                clear hq
                obtain ⟨hb1, hb2⟩ := and_split hb
                have hb1 := beq_eq hb1
                have hb2 := beq_eq hb2
                subst hb1 hb2
                cases hq'
                have hi := all_one hm
                obtain ⟨Vs, q1, q2, q3⟩ := hr.load hk hg (i * 5) 5 (by rw [hcells, flat_len]; omega)
                rw [hcells, flat_row L i hi] at q1
                exact ⟨_, _, rfl, loadVar_agg ht hd hag hs q2 (fun j u hu => by have := q3 j u hu; rwa [addr_add] at this), .agg q1⟩
            | false =>
              rw [hag] at hq
              simp only [cond_false] at hq
              split at hq
              · cases hq
              · rename_i u hu
                cases hq
                have hi := all_one hm
                have hj : j < 5 := by
                  have := (List.getElem?_eq_some_iff.1 hu).1
                  simpa [Con.avs] using this
                obtain ⟨Vs, q1, q2, q3⟩ := hr.load hk hg (i * 5 + j) 1 (by rw [hcells, flat_len]; omega)
                have e : (k.cells.drop (i * 5 + j)).take 1 = [v] := by
                  rw [List.take_one, List.head?_drop, hcells, flat_get L i j hi hj, hu]; rfl
                rw [e] at q1
                cases q1 with
                | @cons _ V _ _ hv' _ =>
                  have := q3 0 V rfl
                  rw [addr_add, Nat.add_zero] at this
                  exact ⟨V, _, rfl, loadVar_one ht hd hag this, hv'⟩
          · rename_i kk L hv
            cases hag : aggD d with
            | true => rw [hag] at hq; cases hq
            | false =>
              rw [hag] at hq
              simp only [cond_false] at hq
              obtain ⟨hb, hq⟩ := bif_some hq
              cases hq
              obtain ⟨hb1, hb2⟩ := and_split hb
              have hb1 := beq_eq hb1
              have hb2 := beq_eq hb2
              subst hb1 hb2
              have hi := all_one hm
              have hcells : k.cells = L.map (AV.vint kk) := by unfold Blk.cells; rw [hv]; rfl
              obtain ⟨Vs, q1, q2, q3⟩ := hr.load hk hg (i * 1 + 0) 1 (by rw [hcells]; simp; omega)
              have e : (k.cells.drop (i * 1 + 0)).take 1 = [AV.vint kk (L.getD i 0)] := by
                rw [List.take_one, List.head?_drop, hcells]
                simp [hi]
              rw [e] at q1
              cases q1 with
              | @cons _ V _ _ hv' _ =>
                have := q3 0 V rfl
                rw [addr_add, Nat.add_zero] at this
                exact ⟨V, _, rfl, loadVar_one ht hd hag this, hv'⟩
          · rename_i cs hv
            cases hag : aggD d with
            | true => rw [hag] at hq; cases hq
            | false =>
              rw [hag] at hq
              simp only [cond_false] at hq
              split at hq
              · cases hq
              · rename_i kk hkk
                split at hq
                · cases hq
                · rename_i l hl
                  obtain ⟨hb, hq⟩ := bif_some hq
                  cases hq
                  have hb := beq_eq hb
                  subst hb
                  have hi := all_one hm
                  have hcells : k.cells = cs := by unfold Blk.cells; rw [hv]; rfl
                  obtain ⟨B', x', Cs, ex, g1, g2, g3, _⟩ := hr.blk b k hk
                  rw [hg] at g1
                  cases g1
                  rw [hcells] at g3
                  have hCs := intsOf_ok g3 hl
                  subst hCs
                  refine ⟨.int kk (l.getD (i + j) 0), _, rfl, loadVar_one ht hd hag ?_, .vint _ _⟩
                  rw [Nat.mul_one, cell_of_row w B (i + j) _ _ _ g2, List.getElem?_toArray, List.getElem?_append_left (by simpa using hi)]
                  simp [hi]
    · cases hq
end
end Go.QfSy
