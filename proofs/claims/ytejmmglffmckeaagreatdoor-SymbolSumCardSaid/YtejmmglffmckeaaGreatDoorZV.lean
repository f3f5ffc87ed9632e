/- Writing to lists that may be open, and appending to them. -/
import Derived.Test.YtejmmglffmckeaaGreatDoorZU
set_option linter.unusedSimpArgs false
set_option linter.unusedVariables false
namespace Go.QfSy

theorem VsRel.imp {γ : Gm} : ∀ {A B : List AV}, A.length = B.length → (∀ (p : Nat) a b, A[p]? = some a → B[p]? = some b → ∀ V, VRel γ a V → VRel γ b V) → ∀ {cs : List Value}, VsRel γ A cs → VsRel γ B cs
  | [], [], _, _, cs, h => h
  | [], _ :: _, hl, _, _, _ => by simp at hl
  | _ :: _, [], hl, _, _, _ => by simp at hl
  | a :: A, b :: B, hl, hp, cs, h => by
    cases h with
    | cons hv ht => exact .cons (hp 0 a b rfl rfl _ hv) (VsRel.imp (by simpa using hl) (fun p x y hx hy => hp (p + 1) x y (by simpa using hx) (by simpa using hy)) ht)

/- another view of the same cells -/
theorem Stp.view {γ γ' : Gm} {f f' : Hf} {nx : Nat} {w w' : World} {b : Nat} {k k' : Blk} (h : Stp γ f w γ' (upd f' b (some k)) nx w') (hk : ∀ cs, VsRel γ' k.cells cs → VsRel γ' k'.cells cs) (h1 : k'.elem = k.elem) (h2 : k'.sz = k.sz) (h3 : k'.opn = k.opn) (h4 : k.own = true) (h5 : k'.own = true) :
    Stp γ f w γ' (upd f' b (some k')) nx w' := by
  have hold : ∀ c kc, upd f' b (some k') c = some kc → ∃ kc', upd f' b (some k) c = some kc' ∧ kc'.own = kc.own := by
    intro c kc hc
    by_cases e : c = b
    · subst e; rw [upd_same] at hc; cases hc; exact ⟨k, upd_same _ _ _, by rw [h4, h5]⟩
    · rw [upd_other _ _ e] at hc; exact ⟨kc, by rw [upd_other _ _ e]; exact hc, rfl⟩
  refine ⟨h.le, ⟨?_, ?_, h.rel.fresh, h.rel.fzr, ?_⟩, h.size, h.os, h.tape, h.output, h.frame, ?_, ?_, ?_, h.fzn⟩
  · intro c kc hc
    by_cases e : c = b
    · subst e
      rw [upd_same] at hc
      cases hc
      obtain ⟨B, x, cs, ex, g1, g2, g3, g4, g5⟩ := h.rel.blk c k (upd_same _ _ _)
      exact ⟨B, x, cs, ex, g1, by rw [h1]; exact g2, hk _ g3, by rw [h2]; exact g4, by rw [h3]; exact g5⟩
    · rw [upd_other _ _ e] at hc
      exact h.rel.blk c kc (by rw [upd_other _ _ e]; exact hc)
  · intro c c' kc kc' B x x' q1 q2 q3 q4
    obtain ⟨_, r1, _⟩ := hold _ _ q1
    obtain ⟨_, r2, _⟩ := hold _ _ q2
    exact h.rel.inj _ _ _ _ _ _ _ r1 r2 q3 q4
  · intro c kc B x hc ho hg
    obtain ⟨kc', r1, r2⟩ := hold _ _ hc
    exact h.rel.fzo c kc' B x r1 (by rw [r2]; exact ho) hg
  · intro i hi ⟨c, kc, y, q1, q2, q3⟩
    obtain ⟨kc', r1, r2⟩ := hold _ _ q1
    exact h.own i hi ⟨c, kc', y, r1, by rw [r2]; exact q2, q3⟩
  · intro c kc hc ho
    by_cases e : c = b
    · subst e; rw [upd_same] at hc; cases hc; rw [h5] at ho; cases ho
    · rw [upd_other _ _ e] at hc
      exact h.ro c kc (by rw [upd_other _ _ e]; exact hc) ho
  · intro c kc hc
    obtain ⟨kc', r1, _⟩ := hold _ _ hc
    exact h.dom c kc' r1

/- one field of a constituent -/
def Con.setf (c : Con) (j : Nat) (v : AV) : Option Con :=
  match j, tnt v with
  | 0, .vint .i64 n => some { c with exp := n }
  | 1, .vint .i64 n => some { c with dim := n }
  | 2, .vint .i64 n => some { c with sign := n }
  | 3, .vbool b => some { c with odd := b }
  | 4, .vint .i64 n => some { c with oddity := n }
  | _, _ => none
theorem Con.setf_avs {c c' : Con} {j : Nat} {v : AV} (h : c.setf j v = some c') : j < 5 ∧ c'.avs = c.avs.set j (tnt v) := by
  unfold Con.setf at h
  split at h <;> first | (cases h; done) | skip
  all_goals
    rename_i he
    cases h
    rw [he]
    exact ⟨by decide, rfl⟩

def Con.ofAvs : List AV → Option Con
  | [a, b, c, d, e] => match tnt a, tnt b, tnt c, tnt d, tnt e with
    | .vint .i64 x, .vint .i64 n, .vint .i64 s, .vbool o, .vint .i64 t => some ⟨x, n, s, o, t⟩
    | _, _, _, _, _ => none
  | _ => none
theorem Con.ofAvs_ok {l : List AV} {c : Con} (h : Con.ofAvs l = some c) : l.map tnt = c.avs := by
  unfold Con.ofAvs at h
  split at h
  · split at h
    · rename_i h1 h2 h3 h4 h5
      cases h
      simp only [List.map_cons, List.map_nil, h1, h2, h3, h4, h5]
      rfl
    · cases h
  · cases h

theorem flat_set : ∀ {L : List Con} {i j : Nat} {c : Con} {u : AV}, i < L.length → j < 5 → c.avs = (L.getD i Con.zero).avs.set j u → (L.set i c).flatMap Con.avs = (L.flatMap Con.avs).set (i * 5 + j) u
  | [], _, _, _, _, h, _, _ => by simp at h
  | x :: L, 0, j, c, u, h, hj, hv => by
    simp only [List.set_cons_zero, List.flatMap_cons, Nat.zero_mul, Nat.zero_add]
    rw [List.set_append_left _ _ (by simpa [Con.avs] using hj), hv]
    rfl
  | x :: L, i + 1, j, c, u, h, hj, hv => by
    simp only [List.set_cons_succ, List.flatMap_cons]
    rw [List.set_append_right _ _ (by simp [Con.avs]; omega), flat_set (by simpa using h) hj (by simpa using hv)]
    have e : (i + 1) * 5 + j - x.avs.length = i * 5 + j := by simp [Con.avs]; omega
    rw [e]
theorem flat_put : ∀ {L : List Con} {i : Nat} {c : Con}, i < L.length → (L.set i c).flatMap Con.avs = (L.flatMap Con.avs).take (i * 5) ++ c.avs ++ (L.flatMap Con.avs).drop (i * 5 + 5)
  | [], _, _, h => by simp at h
  | x :: L, 0, c, h => by
    simp only [List.set_cons_zero, List.flatMap_cons, Nat.zero_mul, Nat.zero_add, List.take_zero, List.nil_append]
    have e : 5 = x.avs.length := rfl
    congr 1
  | x :: L, i + 1, c, h => by
    simp only [List.set_cons_succ, List.flatMap_cons]
    rw [flat_put (by simpa using h)]
    have e : (i + 1) * 5 = x.avs.length + i * 5 := by simp [Con.avs]; omega
    rw [e, List.take_length_add_append, show x.avs.length + i * 5 + 5 = x.avs.length + (i * 5 + 5) by omega, List.drop_length_add_append]
    simp

def sStore (ti : Tr TypeInfo) (h : Tr Blk) (t : Nat) (x v : AV) : Option (Tr Blk × List Prop) :=
  match x with
  | .lp b i z j => match h.get b with
    | none => none
    | some k => bif k.own then (match szT ti t with
      | none => none
      | some n => match k.view with
        | .con L => bif Nat.beq z 5 then
            (bif Nat.beq n 5 && Nat.beq j 0 then
              (match Con.ofAvs v.cells with
              | none => none
              | some c => match h.set b (some { k with view := .con (L.set i c) }) with
                | none => none
                | some h' => some (h', [i < L.length]))
            else bif Nat.beq n 1 && v.one then
              (match (L.getD i Con.zero).setf j v with
              | none => none
              | some c => match h.set b (some { k with view := .con (L.set i c) }) with
                | none => none
                | some h' => some (h', [i < L.length]))
            else none)
          else none
        | .ints kk L => bif Nat.beq z 1 && Nat.beq n 1 && Nat.beq j 0 then
            (match clr v with
            | .int k' a => bif decide (k' = kk) then (match h.set b (some { k with view := .ints kk (L.set i a) }) with
              | none => none
              | some h' => some (h', [i < L.length])) else none
            | _ => none)
          else none
        | _ => none) else none
  | _ => none

theorem sStore_ok {P : Program} {ti : Tr TypeInfo} (ht : TabOk P ti) {γ : Gm} {h h' : Tr Blk} {nx : Nat} {w : World} (hr : HRel γ h.get nx w) {t : Nat} {x v : AV} {ms : List Prop} {X V : Value} (hx : VRel γ x X) (hv : VRel γ v V) (hq : sStore ti h t x v = some (h', ms)) (hm : ∀ p ∈ ms, p) :
    ∃ w', (Instr.storeAt t X V).run P w = .ok () w' ∧ Stp γ h.get w γ h'.get nx w' := by
  unfold sStore at hq
  split at hq
  · rename_i b i z j
    cases hx with
    | lp _ _ _ hg =>
      rename_i B x
      split at hq
      · cases hq
      · rename_i k hk
        have hown := (bif_some hq).1
        replace hq := (bif_some hq).2
        split at hq
        · cases hq
        · rename_i n hn
          -- what a store into the block gives
          have key : ∀ (vs : List AV) (Vs : List Value) (k' : Blk), VsRel γ vs Vs → vs.all AV.one = true → i * z + j + vs.length ≤ k.cells.length → V.cells.toList = Vs → V.cells.size = n → (∀ cs, VsRel γ (k.cells.take (i * z + j) ++ vs ++ k.cells.drop (i * z + j + vs.length)) cs → VsRel γ k'.cells cs) →
              k'.elem = k.elem → k'.sz = k.sz → k'.opn = k.opn → k'.own = true → h.set b (some k') = some h' → ∃ w', (Instr.storeAt t (.pointer (some ⟨B, i * z + j, none⟩)) V).run P w = .ok () w' ∧ Stp γ h.get w γ h'.get nx w' := by
            intro vs Vs k' hvs hone hle hVs hsz himp e1 e2 e3 e4 hset
            obtain ⟨w', g1, g2⟩ := hr.store hk hown hg (i * z + j) hvs hone hle P
            refine ⟨w', ?_, ?_⟩
            · simp [Instr.storeAt, Instr.sureAddr, storeVar, run_sizeOf ht hn, hsz, hVs, g1]
            · rw [get_set_upd hset]
              exact g2.view himp e1 e2 e3 hown e4
          split at hq
          · rename_i L hview
            have hcells : k.cells = L.flatMap Con.avs := by unfold Blk.cells; rw [hview]; rfl
            have hz := (bif_some hq).1
            replace hq := (bif_some hq).2
            have hz := beq_eq hz
            subst hz
            cases hb : (Nat.beq n 5 && Nat.beq j 0) with
            | true =>
              rw [hb] at hq
              simp only [cond_true] at hq
              obtain ⟨hb1, hb2⟩ := and_split hb
              have hb1 := beq_eq hb1
              have hb2 := beq_eq hb2
              subst hb1 hb2
              split at hq
              · cases hq
              · rename_i c hc
                split at hq
                · cases hq
                · rename_i h2 hset
                  cases hq
                  have hi := all_one hm
                  have hco := Con.ofAvs_ok hc
                  have hlen : v.cells.length = 5 := by have := congrArg List.length hco; simpa [Con.avs] using this
                  have hvc := hv.cells
                  have hvl := hvc.length
                  refine key v.cells V.cells.toList { k with view := .con (L.set i c) } hvc ?_ (by rw [hcells, flat_len, hlen]; omega) rfl (by simpa [hlen] using hvl) ?_ rfl rfl rfl hown hset
                  · unfold Con.ofAvs at hc
                    split at hc
                    · rename_i a1 a2 a3 a4 a5 hl5
                      rw [hl5]
                      split at hc
                      · rename_i t1 t2 t3 t4 t5
                        have one_of : ∀ {a u : AV}, tnt a = u → u.one = true → a.one = true := by
                          intro a u e1 e2
                          cases a <;> first | rfl | (simp only [tnt] at e1; rw [← e1] at e2; exact e2)
                        simp only [List.all_cons, List.all_nil, Bool.and_true, Bool.and_eq_true]
                        exact ⟨one_of t1 rfl, one_of t2 rfl, one_of t3 rfl, one_of t4 rfl, one_of t5 rfl⟩
                      · cases hc
                    · cases hc
                  · intro cs hcs
                    show VsRel γ ((L.set i c).flatMap Con.avs) cs
                    rw [flat_put hi, ← hco]
                    rw [hcells, hlen] at hcs
                    refine VsRel.imp (by simp) (fun p a b ha hb V hV => ?_) hcs
                    simp only [Nat.add_zero] at ha
                    by_cases hp : p < ((L.flatMap Con.avs).take (i * 5) ++ v.cells).length
                    · rw [List.getElem?_append_left hp] at ha
                      rw [List.getElem?_append_left (by simpa using hp)] at hb
                      by_cases hp2 : p < ((L.flatMap Con.avs).take (i * 5)).length
                      · rw [List.getElem?_append_left hp2] at ha hb
                        rw [ha] at hb; cases hb; exact hV
                      · rw [List.getElem?_append_right (by omega)] at ha hb
                        rw [List.getElem?_map, ha] at hb
                        simp only [Option.map_some, Option.some.injEq] at hb
                        subst hb
                        exact hV.tnt
                    · rw [List.getElem?_append_right (by omega)] at ha
                      rw [List.getElem?_append_right (by simpa using hp)] at hb
                      have e : ((L.flatMap Con.avs).take (i * 5) ++ List.map tnt v.cells).length = ((L.flatMap Con.avs).take (i * 5) ++ v.cells).length := by simp
                      rw [e, ha] at hb
                      cases hb; exact hV
            | false =>
              rw [hb] at hq
              simp only [cond_false] at hq
              cases hb2 : (Nat.beq n 1 && v.one) with
              | false => rw [hb2] at hq; cases hq
              | true =>
                rw [hb2] at hq
                simp only [cond_true] at hq
                obtain ⟨hb3, hb4⟩ := and_split hb2
                have hb3 := beq_eq hb3
                subst hb3
                split at hq
                · cases hq
                · rename_i c hc
                  split at hq
                  · cases hq
                  · rename_i h2 hset
                    cases hq
                    have hi := all_one hm
                    obtain ⟨hj, hca⟩ := Con.setf_avs hc
                    have hvc : v.cells = [v] := by cases v <;> first | rfl | (simp [AV.one] at hb4)
                    have hVc := hv.cells
                    rw [hvc] at hVc
                    have hVl := hVc.length
                    refine key [v] V.cells.toList { k with view := .con (L.set i c) } hVc (by simp [hb4]) (by rw [hcells, flat_len]; simp; omega) rfl (by simpa using hVl) ?_ rfl rfl rfl hown hset
                    intro cs hcs
                    show VsRel γ ((L.set i c).flatMap Con.avs) cs
                    rw [flat_set hi hj hca]
                    rw [hcells] at hcs
                    have e : (L.flatMap Con.avs).take (i * 5 + j) ++ [v] ++ (L.flatMap Con.avs).drop (i * 5 + j + [v].length) = (L.flatMap Con.avs).set (i * 5 + j) v := by
                      rw [List.set_eq_take_append_cons_drop, if_pos (by rw [flat_len]; omega)]
                      simp
                    rw [e] at hcs
                    refine VsRel.imp (by simp) (fun p a b ha hb V hV => ?_) hcs
                    rw [List.getElem?_set] at ha hb
                    by_cases hp : i * 5 + j = p
                    · rw [if_pos hp] at ha hb
                      split at ha
                      · rw [if_pos (by assumption)] at hb
                        cases ha; cases hb; exact hV.tnt
                      · cases ha
                    · rw [if_neg hp] at ha hb
                      rw [ha] at hb; cases hb; exact hV
          · rename_i kk L hview
            have hcells : k.cells = L.map (AV.vint kk) := by unfold Blk.cells; rw [hview]; rfl
            have hb := (bif_some hq).1
            replace hq := (bif_some hq).2
            obtain ⟨hb, hb3⟩ := and_split hb
            obtain ⟨hb1, hb2⟩ := and_split hb
            have hb1 := beq_eq hb1
            have hb2 := beq_eq hb2
            have hb3 := beq_eq hb3
            subst hb1 hb2 hb3
            have hvt := hv.clr
            split at hq
            · rename_i k' a hca
              rw [hca] at hvt
              obtain ⟨hk', hq⟩ := bif_some hq
              have hk' := of_decide_eq_true hk'
              split at hq
              · cases hq
              · rename_i h2 hset
                cases hq
                have hi := all_one hm
                cases hvt
                subst hk'
                refine key [.vint k' a] [.int k' a] { k with view := .ints k' (L.set i a) } (.cons (.vint _ _) .nil) rfl (by rw [hcells]; simp; omega) rfl rfl ?_ rfl rfl rfl hown hset
                intro cs hcs
                show VsRel γ ((L.set i a).map (AV.vint k')) cs
                rw [hcells] at hcs
                have e : (L.map (AV.vint k')).take (i * 1 + 0) ++ [.vint k' a] ++ (L.map (AV.vint k')).drop (i * 1 + 0 + [AV.vint k' a].length) = (L.set i a).map (AV.vint k') := by
                  rw [List.map_set, List.set_eq_take_append_cons_drop, if_pos (by simpa using hi)]
                  simp
                rw [e] at hcs
                exact hcs
            · cases hq
          · cases hq
  · cases hq
end Go.QfSy
