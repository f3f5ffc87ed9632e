/- Composite literals, zero values, and the quiet operations joined. -/
import Derived.Test.YtejmmglffmckeaaGreatDoorZE
set_option linter.unusedSimpArgs false
set_option linter.unusedVariables false
namespace Go.QfSy

inductive PsRel (γ : Gm) : List (Nat × AV) → List (Nat × Value) → Prop
  | nil : PsRel γ [] []
  | cons (i : Nat) {v : AV} {V : Value} {ps : List (Nat × AV)} {Ps : List (Nat × Value)} (h : VRel γ v V) (t : PsRel γ ps Ps) : PsRel γ ((i, v) :: ps) ((i, V) :: Ps)

theorem foldl_set (off : Nat) : ∀ (vs : List Value) (k : Nat) (cells : Array Value), off + k + vs.length ≤ cells.size →
    ((vs.zipIdx k).foldl (fun (cs : Array Value) (p : Value × Nat) => cs.setIfInBounds (off + p.2) p.1) cells).toList = cells.toList.take (off + k) ++ vs ++ cells.toList.drop (off + k + vs.length)
  | [], k, cells, _ => by simp
  | v :: vs, k, cells, h => by
    simp only [List.length_cons] at h
    simp only [List.zipIdx_cons, List.foldl_cons]
    rw [foldl_set off vs (k + 1) _ (by simp; omega)]
    have := list_seg_step cells.toList (off + k) v vs (by simp; omega)
    simp only [Array.toList_setIfInBounds, List.length_cons]
    rw [show off + (k + 1) = off + k + 1 by omega]
    exact this

def aFill (place : Nat → Option (Nat × Nat)) (cells : List AV) : List (Nat × AV) → Option (List AV)
  | [] => some cells
  | (i, v) :: rest =>
    match place i with
    | none => none
    | some (off, size) =>
      bif Nat.beq v.cells.length size && Nat.ble (off + size) cells.length then aFill place (cells.take off ++ v.cells ++ cells.drop (off + size)) rest
      else none

theorem aFill_ok {γ : Gm} {place Place : Nat → Option (Nat × Nat)} (hp : ∀ i p, place i = some p → Place i = some p) :
    ∀ {ps : List (Nat × AV)} {Ps : List (Nat × Value)} (h : PsRel γ ps Ps) {cs : List AV} {Cs : Array Value} (hc : VsRel γ cs Cs.toList) {r : List AV} (hq : aFill place cs ps = some r),
    ∃ R, Instr.fill Place Cs Ps = some R ∧ VsRel γ r R.toList := by
  intro ps
  induction ps with
  | nil =>
    intro Ps h cs Cs hc r hq
    cases h
    simp only [aFill, Option.some.injEq] at hq
    subst hq
    exact ⟨Cs, rfl, hc⟩
  | cons p ps ih =>
    intro Ps h cs Cs hc r hq
    cases h with
    | cons i hv ht =>
      rename_i v V Ps'
      simp only [aFill] at hq
      cases hpl : place i with
      | none => simp [hpl] at hq
      | some q =>
        obtain ⟨off, size⟩ := q
        simp only [hpl] at hq
        cases hb : (Nat.beq v.cells.length size && Nat.ble (off + size) cs.length) with
        | false => simp [hb] at hq
        | true =>
          simp only [hb, cond_true] at hq
          obtain ⟨b1, b2⟩ := and_split hb
          have b1 := beq_eq b1
          have b2 := Nat.le_of_ble_eq_true b2
          have hvc := hv.cells
          have hvl := hvc.length
          have hcl := hc.length
          have hsz : V.cells.size = size := by rw [← b1, ← hvl]; simp
          have hcs : cs.length = Cs.size := by rw [← hcl]; simp
          have hst := foldl_set off V.cells.toList 0 Cs (by simp; omega)
          simp only [Nat.add_zero, Array.length_toList] at hst
          have hfold : (V.cells.zipIdx.foldl (fun (cs : Array Value) (p : Value × Nat) => cs.setIfInBounds (off + p.2) p.1) Cs).toList = Cs.toList.take off ++ V.cells.toList ++ Cs.toList.drop (off + size) := by
            rw [← hsz, ← hst, ← Array.foldl_toList]
            simp
          obtain ⟨R, h1, h2⟩ := ih ht (cs := cs.take off ++ v.cells ++ cs.drop (off + size)) (Cs := V.cells.zipIdx.foldl (fun (cs : Array Value) (p : Value × Nat) => cs.setIfInBounds (off + p.2) p.1) Cs)
            (by rw [hfold]; exact ((hc.take off).append hvc).append (hc.drop _)) hq
          refine ⟨R, ?_, h2⟩
          simp only [Instr.fill, hp i _ hpl]
          rw [if_neg (by simp [hsz]; omega)]
          exact h1

/- zero values -/
def zeroA (ti : Tr TypeInfo) (t : Nat) : Option (List AV) :=
  match ti.get t with
  | none => none
  | some i => match i.zero with
    | none => none
    | some z => match ofVal z with
      | none => none
      | some v => some v.cells

/- the sizes of a struct's fields -/
def placesA (ti : Tr TypeInfo) : List Field → Option (List (Nat × Nat))
  | [] => some []
  | f :: fs => match szT ti f.type with
    | none => none
    | some n => match placesA ti fs with
      | none => none
      | some ps => some ((f.offset, n) :: ps)

section
variable {P : Program} {ti : Tr TypeInfo} (ht : TabOk P ti) {γ : Gm} (w : World)

include ht in
theorem zeroA_ok {t : Nat} {cs : List AV} (h : zeroA ti t = some cs) : ∃ i Z, P.info? t = some i ∧ i.zero = some Z ∧ VsRel γ cs Z.cells.toList := by
  unfold zeroA at h
  split at h
  · cases h
  · rename_i i hi
    split at h
    · cases h
    · rename_i z hz
      split at h
      · cases h
      · rename_i v hv
        cases h
        exact ⟨i, z, ht _ _ hi, hz, (ofVal_ok γ hv).cells⟩

include ht in
theorem run_zero {t : Nat} {cs : List AV} (h : zeroA ti t = some cs) : ∃ Z, (zeroValue t).run P w = .ok Z w ∧ VsRel γ cs Z.cells.toList := by
  obtain ⟨i, Z, hi, hz, hr⟩ := zeroA_ok (γ := γ) ht h
  exact ⟨Z, by simp [zeroValue, typeInfo, hi, hz], hr⟩

include ht in
theorem placesA_ok {fs : List Field} {ps : List (Nat × Nat)} (h : placesA ti fs = some ps) : (fs.mapM (fun f => do pure (f.offset, ← sizeOf f.type) : Field → Sem (Nat × Nat))).run P w = .ok ps w := by
  induction fs generalizing ps with
  | nil => simp [placesA] at h; subst h; rfl
  | cons f fs ih =>
    simp only [placesA] at h
    split at h
    · cases h
    · rename_i n hn
      split at h
      · cases h
      · rename_i ps' hps
        cases h
        have := ih hps
        rw [List.mapM_cons]
        simp only [Sem.run_bind, run_sizeOf ht hn, Result.andThen_ok, Sem.run_pure, this]

def qBuild (ti : Tr TypeInfo) (t : Nat) (ps : List (Nat × AV)) : Option AV :=
  match zeroA ti t with
  | none => none
  | some z => match und ti t with
    | some (.struct fields) => match placesA ti fields.toList with
      | none => none
      | some pl => match aFill (fun i => pl[i]?) z ps with
        | none => none
        | some cs => some (.agg cs)
    | some (.array _ e) => match szT ti e with
      | none => none
      | some size => match aFill (fun i => some (i * size, size)) z ps with
        | none => none
        | some cs => some (.agg cs)
    | _ => none

include ht in
theorem qBuild_ok {t : Nat} {ps : List (Nat × AV)} {Ps : Array (Nat × Value)} (hp : PsRel γ ps Ps.toList) {v : AV} (hq : qBuild ti t ps = some v) : ∃ V, (Instr.build t Ps).run P w = .ok V w ∧ VRel γ v V := by
  unfold qBuild at hq
  cases hz : zeroA ti t with
  | none => simp [hz] at hq
  | some z =>
    simp only [hz] at hq
    obtain ⟨Z, hz1, hz2⟩ := run_zero (P := P) (γ := γ) ht w hz
    split at hq
    · rename_i fields hd
      cases hpl : placesA ti fields.toList with
      | none => simp [hpl] at hq
      | some pl =>
        simp only [hpl] at hq
        cases hf : aFill (fun i => pl[i]?) z ps with
        | none => simp [hf] at hq
        | some cs =>
          simp only [hf, Option.some.injEq] at hq
          subst hq
          obtain ⟨R, h1, h2⟩ := aFill_ok (Place := fun i => pl.toArray[i]?) (fun i p h => by simpa using h) hp hz2 hf
          refine ⟨.agg R, ?_, ?_⟩
          · have hm := placesA_ok (P := P) ht w hpl
            simp only [Instr.build, Sem.run_bind, hz1, Result.andThen_ok, run_und ht hd, Array.mapM_eq_mapM_toList, Sem.run_map, hm]
            rw [h1]
            simp
          · have := VRel.agg h2
            simpa using this
    · rename_i n e hd
      cases hs : szT ti e with
      | none => simp [hs] at hq
      | some size =>
        simp only [hs] at hq
        cases hf : aFill (fun i => some (i * size, size)) z ps with
        | none => simp [hf] at hq
        | some cs =>
          simp only [hf, Option.some.injEq] at hq
          subst hq
          obtain ⟨R, h1, h2⟩ := aFill_ok (Place := fun i => some (i * size, size)) (fun i p h => h) hp hz2 hf
          refine ⟨.agg R, ?_, ?_⟩
          · simp only [Instr.build, Sem.run_bind, hz1, Result.andThen_ok, run_und ht hd, run_sizeOf ht hs]
            rw [h1]
            simp
          · have := VRel.agg h2
            simpa using this
    · cases hq

/- min and max of integers -/
def intsV : List AV → Option (List Value)
  | [] => some []
  | .int k n :: l => match intsV l with
    | none => none
    | some vs => some (.int k n :: vs)
  | _ => none

theorem intsV_ok {vs : List AV} {Vs Us : List Value} (h : VsRel γ vs Vs) (hi : intsV vs = some Us) : Vs = Us := by
  induction vs generalizing Vs Us with
  | nil => cases h; simp [intsV] at hi; exact hi.symm ▸ rfl
  | cons v vs ih =>
    cases h with
    | cons hv ht =>
      cases v <;> simp [intsV] at hi
      split at hi
      · cases hi
      · rename_i us hus
        cases hi
        cases hv
        rw [ih ht hus]

/- x's dynamic type -/
def qIface (ti : Tr TypeInfo) (t : Nat) (x : AV) : Option AV :=
  match und ti t with
  | none => none
  | some (.interface _) => none
  | some _ => some (.ifc t x)

include ht in
theorem qIface_ok {t : Nat} {x v : AV} {X : Value} (hx : VRel γ x X) (hq : qIface ti t x = some v) : ∃ V, (Instr.makeInterface t X).run P w = .ok V w ∧ VRel γ v V := by
  unfold qIface at hq
  split at hq
  · cases hq
  · cases hq
  · rename_i d hn hd
    cases hq
    refine ⟨_, ?_, .ifc _ hx⟩
    simp only [Instr.makeInterface, Sem.run_bind, run_und ht hd, Result.andThen_ok]
    cases d <;> first | rfl | exact absurd rfl (hn _)

end

/- operands -/
def evs (ρ : Operand → Option AV) : List Operand → Option (List AV)
  | [] => some []
  | x :: l => match ρ x with
    | none => none
    | some v => match evs ρ l with
      | none => none
      | some vs => some (v :: vs)

def evPs (ρ : Operand → Option AV) : List (Nat × Operand) → Option (List (Nat × AV))
  | [] => some []
  | (i, x) :: l => match ρ x with
    | none => none
    | some v => match evPs ρ l with
      | none => none
      | some vs => some ((i, v) :: vs)

def evO (ρ : Operand → Option AV) : Option Operand → Option (Option AV)
  | none => some none
  | some x => match ρ x with
    | none => none
    | some v => some (some v)

section
variable {γ : Gm} {ρ : Operand → Option AV} {R : Operand → Value} (hρ : ∀ x v, ρ x = some v → VRel γ v (R x))
include hρ

theorem evs_ok {l : List Operand} {vs : List AV} (h : evs ρ l = some vs) : VsRel γ vs (l.map R) := by
  induction l generalizing vs with
  | nil => simp [evs] at h; subst h; exact .nil
  | cons x l ih =>
    simp only [evs] at h
    split at h
    · cases h
    · rename_i v hv
      split at h
      · cases h
      · rename_i us hus
        cases h
        exact .cons (hρ _ _ hv) (ih hus)

theorem evPs_ok {l : List (Nat × Operand)} {vs : List (Nat × AV)} (h : evPs ρ l = some vs) : PsRel γ vs (l.map fun p => (p.1, R p.2)) := by
  induction l generalizing vs with
  | nil => simp [evPs] at h; subst h; exact .nil
  | cons p l ih =>
    obtain ⟨i, x⟩ := p
    simp only [evPs] at h
    split at h
    · cases h
    · rename_i v hv
      split at h
      · cases h
      · rename_i us hus
        cases h
        exact .cons i (hρ _ _ hv) (ih hus)

theorem evO_ok {o : Option Operand} {v : Option AV} (h : evO ρ o = some v) : OptRel γ v (o.map R) := by
  cases o with
  | none => simp [evO] at h; subst h; trivial
  | some x =>
    simp only [evO] at h
    split at h
    · cases h
    · rename_i u hu; cases h; exact hρ _ _ hu
end

/- the quiet operations -/
def evQ (ti : Tr TypeInfo) (lz : Nat → Nat → Nat → Nat → Bool) (h : Tr Blk) (ρ : Operand → Option AV) (op : Op) (ty : Nat) : Option AV :=
  match op with
  | .move x => ρ x
  | .assign x => ρ x
  | .pick c a b => match ρ c with
    | some (.bool true) => ρ a
    | some (.bool false) => ρ b
    | _ => none
  | .load t a => match ρ a with
    | none => none
    | some x => qLoad ti h t x
  | .nilCheck x => match ρ x with
    | some (.ptr b o) => some (.ptr b o)
    | some (.fn f vs) => some (.fn f vs)
    | _ => none
  | .binOp op t x y _ => match ρ x with
    | none => none
    | some u => match ρ y with
      | none => none
      | some v => qBin ti op t x y u v
  | .unOp op _ x => match ρ x with
    | none => none
    | some u => qUn op u
  | .convert s d x => match ρ x with
    | none => none
    | some u => qConv ti lz h s d u
  | .makeInterface t x => match ρ x with
    | none => none
    | some u => qIface ti t u
  | .makeFunc (.func f) ⟨[]⟩ ⟨captured⟩ => match evs ρ captured with
    | none => none
    | some vs => some (.fn f vs)
  | .build t ⟨ps⟩ => match evPs ρ ps with
    | none => none
    | some vs => qBuild ti t vs
  | .slice t x lo hi mx => match ρ x with
    | none => none
    | some u => match evO ρ lo with
      | none => none
      | some l => match evO ρ hi with
        | none => none
        | some e => match evO ρ mx with
          | none => none
          | some m => qSlice ti h t u l e m
  | .fieldAddr s x f => match ρ x with
    | none => none
    | some u => qFieldAddr ti s u f
  | .field s x f => match ρ x with
    | none => none
    | some u => qField ti s u f
  | .indexAddr t x i => match ρ x with
    | none => none
    | some u => match ρ i with
      | none => none
      | some v => qIndexAddr ti t u v
  | .index t x i => match ρ x with
    | none => none
    | some u => match ρ i with
      | none => none
      | some v => qIndex ti t u v
  | .extract x i => match ρ x with
    | none => none
    | some u => qExtract u i
  | .call ⟨.builtin .len, ⟨[x]⟩, ⟨t :: _⟩⟩ => match ρ x with
    | none => none
    | some u => qLen ti t u
  | .call ⟨.builtin .unsafeSliceData, ⟨[x]⟩, _⟩ => match ρ x with
    | none => none
    | some u => qData u
  | .call ⟨.builtin .min, ⟨xs⟩, ts⟩ => match evs ρ xs with
    | none => none
    | some vs => match intsV vs with
      | none => none
      | some us => ofPure (Builtin.min_ ts ty us.toArray)
  | .call ⟨.builtin .max, ⟨xs⟩, ts⟩ => match evs ρ xs with
    | none => none
    | some vs => match intsV vs with
      | none => none
      | some us => ofPure (Builtin.max_ ts ty us.toArray)
  | _ => none

theorem evQ_ok {P : Program} {ti : Tr TypeInfo} (ht : TabOk P ti) {lz : Nat → Nat → Nat → Nat → Bool} (hlz : LiesOk P lz) {γ : Gm} {h : Tr Blk} {nx : Nat} {w : World} (hr : HRel γ h.get nx w) {ρ : Operand → Option AV} {R : Operand → Value} (hρ : ∀ x v, ρ x = some v → VRel γ v (R x)) {o : Oper} {v : AV}
    (hq : evQ ti lz h ρ o.op o.type = some v) : ∃ V, (execOp R o).run P w = .ok (.value V) w ∧ VRel γ v V := by
  obtain ⟨dst, op, ty, pos, after, guard⟩ := o
  simp only at hq
  unfold evQ at hq
  split at hq
  · exact ⟨_, rfl, hρ _ _ hq⟩
  · exact ⟨_, rfl, hρ _ _ hq⟩
  · rename_i c a b
    split at hq
    · rename_i hc
      have h1 := hρ _ _ hc
      cases hR : R c <;> rw [hR] at h1 <;> cases h1
      exact ⟨R a, by simp [execOp, hR, asBool], hρ _ _ hq⟩
    · rename_i hc
      have h1 := hρ _ _ hc
      cases hR : R c <;> rw [hR] at h1 <;> cases h1
      exact ⟨R b, by simp [execOp, hR, asBool], hρ _ _ hq⟩
    · cases hq
  · rename_i t a
    split at hq
    · cases hq
    · rename_i x hx
      obtain ⟨V, ad, h1, h2, h3⟩ := qLoad_ok ht hr (hρ _ _ hx) hq
      exact ⟨V, by simp [execOp, Instr.loadAt, h1, Instr.sureAddr, h2], h3⟩
  · rename_i x
    split at hq
    · rename_i hx
      cases hq
      have h1 := hρ _ _ hx
      cases hR : R x <;> rw [hR] at h1 <;> cases h1
      rename_i hg
      exact ⟨_, by simp [execOp, hR], .ptr _ hg⟩
    · rename_i hx
      cases hq
      have h1 := hρ _ _ hx
      cases hR : R x <;> rw [hR] at h1 <;> cases h1
      rename_i hg
      exact ⟨_, by simp [execOp, hR], .fn _ hg⟩
    · cases hq
  · rename_i op' t x y yt
    split at hq
    · cases hq
    · rename_i u hu
      split at hq
      · cases hq
      · rename_i v' hv
        obtain ⟨V, h1, h2⟩ := qBin_ok (P := P) ht w (hρ _ _ hu) (hρ _ _ hv) hq
        refine ⟨V, ?_, h2⟩
        show ((do let r ← (do eqGuard op' t x y (R x) (R y); binOp op' t (R x) (R y) : Sem Value); pure (Next.value r)) : Sem Next).run P w = _
        rw [Sem.run_bind, h1]
        rfl
  · rename_i op' t x
    split at hq
    · cases hq
    · rename_i u hu
      obtain ⟨V, h1, h2⟩ := qUn_ok (P := P) w (hρ _ _ hu) hq
      exact ⟨V, by simp [execOp, h1], h2⟩
  · rename_i s d x
    split at hq
    · cases hq
    · rename_i u hu
      obtain ⟨V, h1, h2⟩ := qConv_ok (P := P) ht w hlz hr (hρ _ _ hu) hq
      exact ⟨V, by simp [execOp, h1], h2⟩
  · rename_i t x
    split at hq
    · cases hq
    · rename_i u hu
      obtain ⟨V, h1, h2⟩ := qIface_ok (P := P) ht w (hρ _ _ hu) hq
      exact ⟨V, by simp [execOp, h1], h2⟩
  · rename_i f captured
    split at hq
    · cases hq
    · rename_i vs hvs
      cases hq
      refine ⟨.func (.func f) #[] (captured.map R).toArray, ?_, .fn f (evs_ok hρ hvs)⟩
      simp [execOp, Instr.makeFunc]
  · rename_i t ps
    split at hq
    · cases hq
    · rename_i vs hvs
      have hp := evPs_ok hρ hvs
      obtain ⟨V, h1, h2⟩ := qBuild_ok (P := P) (Ps := (ps.map fun p => (p.1, R p.2)).toArray) ht w (by simpa using hp) hq
      refine ⟨V, ?_, h2⟩
      simp only [execOp]
      have e : (Array.map (fun x : Nat × Operand => (x.1, R x.2)) ⟨ps⟩) = (ps.map fun p => (p.1, R p.2)).toArray := by simp
      show ((do let r ← Instr.build t (Array.map (fun x : Nat × Operand => (x.1, R x.2)) ⟨ps⟩); pure (Next.value r)) : Sem Next).run P w = _
      rw [e, Sem.run_bind, h1]
      rfl
  · rename_i t x lo hi mx
    split at hq
    · cases hq
    · rename_i u hu
      split at hq
      · cases hq
      · rename_i l hl
        split at hq
        · cases hq
        · rename_i e he
          split at hq
          · cases hq
          · rename_i m hm
            obtain ⟨V, h1, h2⟩ := qSlice_ok (P := P) ht w hr (hρ _ _ hu) (evO_ok hρ hl) (evO_ok hρ he) (evO_ok hρ hm) hq
            exact ⟨V, by simp [execOp, h1], h2⟩
  · rename_i s x f
    split at hq
    · cases hq
    · rename_i u hu
      obtain ⟨V, h1, h2⟩ := qFieldAddr_ok (P := P) ht w (hρ _ _ hu) hq
      exact ⟨V, by simp [execOp, h1], h2⟩
  · rename_i s x f
    split at hq
    · cases hq
    · rename_i u hu
      obtain ⟨V, h1, h2⟩ := qField_ok (P := P) ht w (hρ _ _ hu) hq
      exact ⟨V, by simp [execOp, h1], h2⟩
  · rename_i t x i
    split at hq
    · cases hq
    · rename_i u hu
      split at hq
      · cases hq
      · rename_i v' hv
        obtain ⟨V, h1, h2⟩ := qIndexAddr_ok (P := P) ht w (hρ _ _ hu) (hρ _ _ hv) hq
        exact ⟨V, by simp [execOp, h1], h2⟩
  · rename_i t x i
    split at hq
    · cases hq
    · rename_i u hu
      split at hq
      · cases hq
      · rename_i v' hv
        obtain ⟨V, h1, h2⟩ := qIndex_ok (P := P) ht w (hρ _ _ hu) (hρ _ _ hv) hq
        exact ⟨V, by simp [execOp, h1], h2⟩
  · rename_i x i
    split at hq
    · cases hq
    · rename_i u hu
      obtain ⟨V, h1, h2⟩ := qExtract_ok (P := P) w (hρ _ _ hu) hq
      exact ⟨V, by simp [execOp, h1], h2⟩
  · rename_i x t ts
    split at hq
    · cases hq
    · rename_i u hu
      obtain ⟨V, h1, h2⟩ := qLen_ok (P := P) (ty := ty) (ts := ⟨t :: ts⟩) (Xs := #[R x]) ht w (by simp) (by simp) (hρ _ _ hu) hq
      refine ⟨V, ?_, h2⟩
      simp [execOp, resolve, invoke, builtin, h1]
  · rename_i x ts
    split at hq
    · cases hq
    · rename_i u hu
      obtain ⟨V, h1, h2⟩ := qData_ok (P := P) w (hρ _ _ hu) hq ts ty
      refine ⟨V, ?_, h2⟩
      simp [execOp, resolve, invoke, builtin, h1]
  · rename_i xs ts
    split at hq
    · cases hq
    · rename_i vs hvs
      split at hq
      · cases hq
      · rename_i us hus
        obtain ⟨V, h1, h2⟩ := ofPure_ok γ hq
        have e := intsV_ok (evs_ok hρ hvs) hus
        refine ⟨V, ?_, h2⟩
        have e2 : Array.map R ⟨xs⟩ = us.toArray := by rw [← e]; simp
        simp [execOp, resolve, invoke, builtin, e2, h1]
  · rename_i xs ts
    split at hq
    · cases hq
    · rename_i vs hvs
      split at hq
      · cases hq
      · rename_i us hus
        obtain ⟨V, h1, h2⟩ := ofPure_ok γ hq
        have e := intsV_ok (evs_ok hρ hvs) hus
        refine ⟨V, ?_, h2⟩
        have e2 : Array.map R ⟨xs⟩ = us.toArray := by rw [← e]; simp
        simp [execOp, resolve, invoke, builtin, e2, h1]
  · cases hq

end Go.QfSy
