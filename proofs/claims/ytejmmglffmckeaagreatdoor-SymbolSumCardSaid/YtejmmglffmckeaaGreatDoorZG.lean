/- The operations that make blocks. -/
import Derived.Test.YtejmmglffmckeaaGreatDoorZF
import Derived.Laws.MakeOwn
set_option linter.unusedSimpArgs false
set_option linter.unusedVariables false
namespace Go.QfSy

/- a list gone round -/
def cyc (z : List AV) (n : Nat) : List AV := (List.range n).map fun i => z.getD (i % z.length) .nilif

theorem cyc_ok {γ : Gm} {z : List AV} {Z : Array Value} (h : VsRel γ z Z.toList) (hz : z ≠ []) (n : Nat) : VsRel γ (cyc z n) ((Array.range n).map (Z[· % Z.size]!)).toList := by
  have hl := h.length
  simp only [Array.length_toList] at hl
  have key : ∀ (l : List Nat), VsRel γ (l.map fun i => z.getD (i % z.length) .nilif) (l.map fun i => Z[i % Z.size]!) := by
    intro l
    induction l with
    | nil => exact .nil
    | cons i l ih =>
      refine .cons ?_ ih
      have hpos : 0 < z.length := List.length_pos_iff.2 hz
      have hlt : i % z.length < z.length := Nat.mod_lt _ hpos
      rcases h.get (i % z.length) with ⟨h1, h2⟩ | ⟨v, V, h1, h2, h3⟩
      · rw [List.getElem?_eq_none_iff] at h1; omega
      · show VRel γ (z.getD (i % z.length) AV.nilif) (Z[i % Z.size]!)
        rw [List.getD_eq_getElem?_getD, h1, hl]
        simp only [Option.getD_some]
        simp only [Array.getElem?_toList] at h2
        rw [getElem!_pos Z (i % z.length) (by omega)]
        have : Z[i % z.length]'(by omega) = V := by
          rw [Array.getElem?_eq_getElem (by omega)] at h2
          exact Option.some.inj h2
        rw [this]
        exact h3
  rw [Array.toList_map, Array.toList_range]
  exact key _

structure Made where
  v : AV
  blk : Blk

def bytesT (ti : Tr TypeInfo) (t : Nat) : Option Nat := match ti.get t with
  | none => none
  | some i => some i.bytes

theorem bytes_ok {P : Program} {ti : Tr TypeInfo} (ht : TabOk P ti) {t n : Nat} {i : TypeInfo} (h : bytesT ti t = some n) (hi : P.info? t = some i) : i.bytes = n := by
  unfold bytesT at h
  split at h
  · cases h
  · rename_i j hj
    rw [ht _ _ hj] at hi
    cases hi
    exact Option.some.inj h

def eMake (ti : Tr TypeInfo) (i t : Nat) (l c : AV) : Option Made :=
  match l, c with
  | .int _ l, .int _ c =>
    match und ti t with
    | some (.slice el) =>
      match szT ti el, bytesT ti el, zeroA ti el with
      | some z, some by_, some zs =>
        bif decide (0 ≤ l) && decide (l ≤ c) && decide (c ≤ 1000000000) && decide ((by_ : Int) * c ≤ 281474976710656) && !zs.isEmpty then
          some ⟨.slc i 0 l.toNat c.toNat, ⟨.plain (cyc zs (c.toNat * z)), el, z, false, true⟩⟩
        else none
      | _, _, _ => none
    | _ => none
  | _, _ => none

def eBuildSlice (ti : Tr TypeInfo) (i t len : Nat) (ps : List (Nat × AV)) : Option Made :=
  match und ti t with
  | some (.slice el) =>
    match szT ti el, zeroA ti el with
    | some z, some zs =>
      bif Nat.ble (len * z) 16777216 && !zs.isEmpty then
        match aFill (fun j => some (j * z, z)) (cyc zs (len * z)) ps with
        | none => none
        | some cs => some ⟨.slc i 0 len len, ⟨.plain cs, el, z, false, true⟩⟩
      else none
    | _, _ => none
  | _ => none

/- the new block gets the name i -/
def evA (ti : Tr TypeInfo) (ρ : Operand → Option AV) (op : Op) (i : Nat) : Option Made :=
  match op with
  | .alloc el => match zeroA ti el with
    | none => none
    | some zs => some ⟨.ptr i 0, ⟨.plain zs, el, 0, false, true⟩⟩
  | .box el x => match ρ x with
    | none => none
    | some v => some ⟨.ptr i 0, ⟨.plain v.cells, el, 0, false, true⟩⟩
  | .buildSlice t len ⟨ps⟩ => match evPs ρ ps with
    | none => none
    | some vs => eBuildSlice ti i t len vs
  | .makeSlice t l c => match ρ l with
    | none => none
    | some u => match ρ c with
      | none => none
      | some v => eMake ti i t u v
  | _ => none

section
variable {P : Program} {ti : Tr TypeInfo} (ht : TabOk P ti)

theorem new_ok {γ : Gm} {f : Hf} {nx : Nat} {w : World} (hr : HRel γ f nx w) {i nx' : Nat} (hi : γ i = none) (hi' : i < nx') (hn : nx ≤ nx') {vs : List AV} {Vs : Array Value} (hv : VsRel γ vs Vs.toList) (el z : Nat) :
    Stp γ f w (γ.put i (some (w.heap.size, 0))) (upd f i (some ⟨.plain vs, el, z, false, true⟩)) nx' (w.alloc (.cells Vs el)) := by
  have := hr.new i nx' hi hi' hn hv (ex := []) el z false 0 (by simp) (fun _ => rfl) (w1 := w) rfl rfl rfl rfl
  simpa using this

include ht in
theorem evA_ok {γ : Gm} {f : Hf} {nx : Nat} {w : World} (hr : HRel γ f nx w) {ρ : Operand → Option AV} {R : Operand → Value} (hρ : ∀ x v, ρ x = some v → VRel γ v (R x)) {o : Oper} {i nx' : Nat} (hi : γ i = none) (hi' : i < nx') (hn : nx ≤ nx') {m : Made}
    (hq : evA ti ρ o.op i = some m) : ∃ V w', (execOp R o).run P w = .ok (.value V) w' ∧ Stp γ f w (γ.put i (some (w.heap.size, 0))) (upd f i (some m.blk)) nx' w' ∧ VRel (γ.put i (some (w.heap.size, 0))) m.v V := by
  obtain ⟨dst, op, ty, pos, after, guard⟩ := o
  simp only at hq
  have hg : (γ.put i (some (w.heap.size, 0))) i = some (w.heap.size, 0) := Gm.put_same _ _ _
  unfold evA at hq
  split at hq
  · rename_i el
    split at hq
    · cases hq
    · rename_i zs hz
      cases hq
      obtain ⟨Z, h1, h2⟩ := run_zero (P := P) (γ := γ) ht w hz
      refine ⟨_, _, ?_, new_ok hr hi hi' hn h2 el 0, .ptr 0 hg⟩
      simp [execOp, Instr.alloc, h1, newVar, newRow]
  · rename_i el x
    split at hq
    · cases hq
    · rename_i v hv
      cases hq
      refine ⟨_, _, ?_, new_ok hr hi hi' hn (hρ _ _ hv).cells el 0, .ptr 0 hg⟩
      simp [execOp, Instr.box, newVar, newRow]
  · rename_i t len ps
    split at hq
    · cases hq
    · rename_i vs hvs
      have hp := evPs_ok hρ hvs
      unfold eBuildSlice at hq
      split at hq
      · rename_i el hd
        split at hq
        · rename_i z zs hz hzs
          cases hb : (Nat.ble (len * z) 16777216 && !zs.isEmpty) with
          | false => simp [hb] at hq
          | true =>
            simp only [hb, cond_true] at hq
            obtain ⟨b1, b2⟩ := and_split hb
            have b1 := Nat.le_of_ble_eq_true b1
            have hne : zs ≠ [] := by intro e; rw [e] at b2; simp at b2
            split at hq
            · cases hq
            · rename_i cs hcs
              cases hq
              obtain ⟨Z, h1, h2⟩ := run_zero (P := P) (γ := γ) ht w hzs
              have hzl : zs.length = Z.cells.size := by have := h2.length; simpa using this.symm
              have hcy := cyc_ok h2 hne (len * z)
              obtain ⟨RR, g1, g2⟩ := aFill_ok (Place := fun j => some (j * z, z)) (fun _ _ h => h) hp hcy hcs
              refine ⟨_, _, ?_, new_ok hr hi hi' hn g2 el z, .slc (x := 0) 0 len len hg⟩
              have e : (Array.map (fun x : Nat × Operand => (x.1, R x.2)) ⟨ps⟩) = (ps.map fun p => (p.1, R p.2)).toArray := by simp
              show ((do let r ← Instr.buildSlice t len (Array.map (fun x : Nat × Operand => (x.1, R x.2)) ⟨ps⟩); pure (Next.value r)) : Sem Next).run P w = _
              rw [e]
              have hle : ¬ (len * z > 2 ^ 24) := by omega
              simp only [Instr.buildSlice, Sem.run_bind, run_und ht hd, Result.andThen_ok, run_sizeOf ht hz, Sem.run_ite, hle, if_false]
              simp only [Sem.run_bind, Sem.run_pure, Result.andThen_ok, h1]
              have hfin : ∀ (a : Array Value), (if len * z = 0 then a = #[] else a = Z.cells) → Instr.fill (fun j => some (j * z, z)) ((Array.range (len * z)).map (a[· % a.size]!)) (ps.map fun p => (p.1, R p.2)) = some RR := by
                intro a ha
                by_cases h0 : len * z = 0
                · simp only [h0, if_true] at ha
                  subst ha
                  rw [← g1]
                  simp [h0, Array.range_zero']
                · simp only [h0, if_false] at ha
                  subst ha
                  exact g1
              by_cases h0 : len * z = 0
              · simp only [h0, if_true, Result.andThen_ok]
                have := hfin #[] (by simp [h0])
                simp only [h0] at this
                simp only [this, newRow, Sem.run_bind, run_newObj, Result.andThen_ok, Sem.run_pure]
                rfl
              · simp only [h0, if_false, Result.andThen_ok]
                have := hfin Z.cells (by simp [h0])
                simp [this, newRow]
        · cases hq
      · cases hq
  · rename_i t l c
    split at hq
    · cases hq
    · rename_i u hu
      split at hq
      · cases hq
      · rename_i v hv
        have h1 := hρ _ _ hu
        have h2 := hρ _ _ hv
        unfold eMake at hq
        split at hq
        · rename_i kl l' kc c'
          cases hL : R l <;> rw [hL] at h1 <;> cases h1
          cases hC : R c <;> rw [hC] at h2 <;> cases h2
          split at hq
          · rename_i el hd
            split at hq
            · rename_i z by_ zs hz hby hzs
              cases hb : (decide (0 ≤ l') && decide (l' ≤ c') && decide (c' ≤ 1000000000) && decide ((by_ : Int) * c' ≤ 281474976710656) && !zs.isEmpty) with
              | false => simp [hb] at hq
              | true =>
                simp only [hb, cond_true, Option.some.injEq] at hq
                subst hq
                simp only [Bool.and_eq_true, decide_eq_true_eq] at hb
                obtain ⟨⟨⟨⟨b1, b2⟩, b3⟩, b4⟩, b5⟩ := hb
                have hne : zs ≠ [] := by intro e; rw [e] at b5; simp at b5
                obtain ⟨inf, Z, g1, g2, g3⟩ := zeroA_ok (P := P) (γ := γ) ht hzs
                obtain ⟨inf', q1, q2⟩ := info_of_szT ht hz
                rw [g1] at q1
                cases q1
                have hbytes : inf.bytes = by_ := bytes_ok ht hby g1
                have hu2 : P.underlying t = some (.slice el) := und_ok ht hd
                have hrun := run_make (P := P) w t el inf Z hu2 g1 g2 kl kc l' c' b1 b2 (by rw [hbytes]; exact b4) (by omega)
                have hcy := cyc_ok g3 hne (c'.toNat * z)
                refine ⟨_, _, ?_, new_ok hr hi hi' hn hcy el z, .slc (x := 0) 0 l'.toNat c'.toNat hg⟩
                simp only [execOp, hL, hC, Sem.run_bind, hrun, Result.andThen_ok, Sem.run_pure]
                rw [← q2]
                simp [madeCells]
            · cases hq
          · cases hq
        · cases hq
  · cases hq
end

end Go.QfSy
