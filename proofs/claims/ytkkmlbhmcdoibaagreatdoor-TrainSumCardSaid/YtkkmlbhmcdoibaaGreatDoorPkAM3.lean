/- A part of the proof of the laws: ZQ, ZR, ZX, ZG2. -/
import Derived.Test.YtkkmlbhmcdoibaaGreatDoorPkAM2
import Derived.Deep.LoopGhost
set_option linter.unusedSimpArgs false
set_option linter.unusedVariables false
namespace Go.QfSy
open Go.RowKit
def look : List (Nat × Nat) → Nat → Nat
  | [], b => b
  | (a, c) :: l, b => bif Nat.beq a b then c else look l b
mutual
def ren (σ : Nat → Nat) : AV → AV
  | .ptr b o => .ptr (σ b) o
  | .slc b o n c => .slc (σ b) o n c
  | .lo b n => .lo (σ b) n
  | .lp b i z j => .lp (σ b) i z j
  | .fn f vs => .fn f (renl σ vs)
  | .ifc t v => .ifc t (ren σ v)
  | .agg vs => .agg (renl σ vs)
  | .tup vs => .tup (renl σ vs)
  | v => v
def renl (σ : Nat → Nat) : List AV → List AV
  | [] => []
  | v :: vs => ren σ v :: renl σ vs
end
mutual
def nmsOk (p : Nat → Bool) : AV → Bool
  | .ptr b _ => p b
  | .slc b _ _ _ => p b
  | .lo b _ => p b
  | .lp b _ _ _ => p b
  | .fn _ vs => nmslOk p vs
  | .ifc _ v => nmsOk p v
  | .agg vs => nmslOk p vs
  | .tup vs => nmslOk p vs
  | _ => true
def nmslOk (p : Nat → Bool) : List AV → Bool
  | [] => true
  | v :: vs => nmsOk p v && nmslOk p vs
end
mutual
theorem ren_back {γ1 γ2 : Gm} {σ : Nat → Nat} {p : Nat → Bool} (hs : ∀ b, p b = true → γ2 b = γ1 (σ b)) (hz : γ2.fz = γ1.fz) : ∀ {v : AV} {V : Value}, nmsOk p v = true → VRel γ1 (ren σ v) V → VRel γ2 v V := by
  intro v V hn h
  cases v with
  | ptr b o => simp only [ren] at h; cases h with | ptr _ hg => exact .ptr _ (by rw [hs b hn]; exact hg)
  | slc b o n c => simp only [ren] at h; cases h with | slc _ _ _ hg => exact .slc _ _ _ (by rw [hs b hn]; exact hg)
  | lo b n => simp only [ren] at h; cases h with | lo _ hg => exact .lo _ (by rw [hs b hn]; exact hg)
  | lp b i z j => simp only [ren] at h; cases h with | lp _ _ _ hg => exact .lp _ _ _ (by rw [hs b hn]; exact hg)
  | fn f vs => simp only [ren] at h; cases h with | fn _ hv => exact .fn _ (renl_back hs hz hn hv)
  | ifc t u => simp only [ren] at h; cases h with | ifc _ hv => exact .ifc _ (ren_back hs hz hn hv)
  | agg vs => simp only [ren] at h; cases h with | agg hv => exact .agg (renl_back hs hz hn hv)
  | tup vs => simp only [ren] at h; cases h with | tup hv => exact .tup (renl_back hs hz hn hv)
  | vbool b => simp only [ren] at h; cases h; exact .vbool _
  | vint k n => simp only [ren] at h; cases h; exact .vint _ _
  | vstr s => simp only [ren] at h; cases h; exact .vstr _
  | ro n sz row => simp only [ren] at h; cases h with | ro hR => exact .ro (by rw [hz]; exact hR)
  | rp cs j => simp only [ren] at h; cases h with | rp hR hf => exact .rp (by rw [hz]; exact hR) (fun i v hv => by rw [hz]; exact hf i v hv)
  | z0 => simp only [ren] at h; cases h; exact .z0 _
  | bool b => simp only [ren] at h; cases h; exact .bool _
  | int k n => simp only [ren] at h; cases h; exact .int _ _
  | str s => simp only [ren] at h; cases h; exact .str _
  | nilp => simp only [ren] at h; cases h; exact .nilp
  | nils => simp only [ren] at h; cases h; exact .nils
  | emp => simp only [ren] at h; cases h; exact .emp _ _
  | zer => simp only [ren] at h; cases h; exact .zer _
  | nilfn => simp only [ren] at h; cases h; exact .nilfn
  | nilif => simp only [ren] at h; cases h; exact .nilif
theorem renl_back {γ1 γ2 : Gm} {σ : Nat → Nat} {p : Nat → Bool} (hs : ∀ b, p b = true → γ2 b = γ1 (σ b)) (hz : γ2.fz = γ1.fz) : ∀ {vs : List AV} {Vs : List Value}, nmslOk p vs = true → VsRel γ1 (renl σ vs) Vs → VsRel γ2 vs Vs := by
  intro vs Vs hn h
  cases vs with
  | nil => simp only [renl] at h; cases h; exact .nil
  | cons v vs =>
    simp only [renl] at h
    simp only [nmslOk, Bool.and_eq_true] at hn
    cases h with
    | cons hv ht => exact .cons (ren_back hs hz hn.1 hv) (renl_back hs hz hn.2 ht)
end
def renV (σ : Nat → Nat) : View → View
  | .plain cs => .plain (renl σ cs)
  | .rows k L b n => .rows k L (σ b) n
  | v => v
def renB (σ : Nat → Nat) (k : Blk) : Blk := { k with view := renV σ k.view }
def nmsV (p : Nat → Bool) : View → Bool
  | .plain cs => nmslOk p cs
  | .rows _ _ b _ => p b
  | _ => true
def inNames (base : Nat) (rn : List (Nat × Nat)) (b : Nat) : Bool := Nat.blt b base || rn.any (fun p => Nat.beq p.1 b)
def subT2 (σ : Nat → Nat) (p : Nat → Bool) (T : Tr AV) : List (Nat × AV) → Option (List Prop)
  | [] => some []
  | (t, v) :: l => match T.get t with
    | none => none
    | some u => bif nmsOk p v then (match sameS u (ren σ v) with
      | none => none
      | some m1 => match subT2 σ p T l with
        | none => none
        | some m2 => some (m1 ++ m2)) else none
def subM2 (σ : Nat → Nat) (p : Nat → Bool) (m : Tr Blk) : List (Nat × Blk) → Option (List Prop)
  | [] => some []
  | (b, k) :: l => bif p b && nmsV p k.view then (match m.get (σ b) with
    | none => none
    | some k' => match sameB k' (renB σ k) with
      | none => none
      | some m1 => match subM2 σ p m l with
        | none => none
        | some m2 => some (m1 ++ m2)) else none
def beqE : AEx → AEx → Bool
  | .normal, .normal => true
  | .exit i, .exit j => Nat.beq i j
  | .ret, .ret => true
  | _, _ => false
def apartN : List Nat → Bool
  | [] => true
  | a :: l => l.all (fun b => !Nat.beq a b) && apartN l
def outS (x : Option (AEx × Tr AV × Hs)) (e : AEx) (S : St) (base : Nat) (rn : List (Nat × Nat)) : Option (List Prop) := match x with
  | none => none
  | some (e', T, H) =>
    bif beqE e e' && rn.all (fun p => Nat.ble base p.1 && Nat.blt p.1 S.nx) && apartN (rn.map (·.1)) && apartN (rn.map (·.2)) && rn.all (fun p => S.m.all (fun q => !(Nat.blt q.1 base) || !(Nat.beq q.1 p.2))) && okNames S.T && okNames S.m && Nat.ble base S.nx && S.m.all (fun q => q.2.own || (Nat.blt q.1 base && nmsV (fun _ => false) q.2.view)) then
      match subT2 (look rn) (inNames base rn) T S.T with
      | none => none
      | some m1 => match subM2 (look rn) (inNames base rn) H.m S.m with
        | none => none
        | some m2 => some (m1 ++ m2 ++ H.ms)
    else none
mutual
theorem ren_none {σ : Nat → Nat} : ∀ {v : AV}, nmsOk (fun _ => false) v = true → ren σ v = v := by
  intro v h
  cases v with
  | fn f vs => simp only [nmsOk] at h; simp only [ren, renl_none h]
  | ifc t v => simp only [nmsOk] at h; simp only [ren, ren_none h]
  | agg vs => simp only [nmsOk] at h; simp only [ren, renl_none h]
  | tup vs => simp only [nmsOk] at h; simp only [ren, renl_none h]
  | _ => first | rfl | (simp [nmsOk] at h)
theorem renl_none {σ : Nat → Nat} : ∀ {vs : List AV}, nmslOk (fun _ => false) vs = true → renl σ vs = vs := by
  intro vs h
  cases vs with
  | nil => rfl
  | cons v vs =>
    simp only [nmslOk, Bool.and_eq_true] at h
    simp only [renl, ren_none h.1, renl_none h.2]
end
theorem beqE_ok {e e' : AEx} (h : beqE e e' = true) : e = e' := by
  cases e <;> cases e' <;> first | rfl | (simp only [beqE] at h; first | (cases h; done) | (rw [beq_eq h]))
theorem look_base : ∀ {rn : List (Nat × Nat)} {base b : Nat}, rn.all (fun p => Nat.ble base p.1) = true → b < base → look rn b = b
  | [], _, _, _, _ => rfl
  | (a, c) :: l, base, b, h, hb => by
    simp only [List.all_cons, Bool.and_eq_true] at h
    have h1 := Nat.le_of_ble_eq_true h.1
    simp only [look]
    cases hx : Nat.beq a b with
    | true => have := beq_eq hx; omega
    | false => exact look_base h.2 hb
theorem look_mem : ∀ {rn : List (Nat × Nat)} {b : Nat}, rn.any (fun p => Nat.beq p.1 b) = true → (b, look rn b) ∈ rn
  | [], _, h => by cases h
  | (a, c) :: l, b, h => by
    simp only [look]
    cases hx : Nat.beq a b with
    | true => have := beq_eq hx; subst this; exact List.mem_cons_self
    | false =>
      simp only [List.any_cons, hx, Bool.false_or] at h
      exact List.mem_cons_of_mem _ (look_mem h)
theorem apart_inj : ∀ {rn : List (Nat × Nat)}, apartN (rn.map (·.2)) = true → ∀ {a b c : Nat}, (a, c) ∈ rn → (b, c) ∈ rn → a = b
  | [], _, _, _, _, h, _ => by cases h
  | (x, y) :: l, h, a, b, c, ha, hb => by
    simp only [List.map_cons, apartN, Bool.and_eq_true] at h
    have key : ∀ a, (a, y) ∈ l → False := by
      intro a ha
      have := List.all_eq_true.1 h.1 y (List.mem_map.2 ⟨(a, y), ha, rfl⟩)
      rw [Nat.beq_refl] at this
      cases this
    rcases List.mem_cons.1 ha with e | ha
    · cases e
      rcases List.mem_cons.1 hb with e | hb
      · cases e; rfl
      · exact (key _ hb).elim
    · rcases List.mem_cons.1 hb with e | hb
      · cases e; exact (key _ ha).elim
      · exact apart_inj h.2 ha hb
theorem subT2_ok {σ : Nat → Nat} {p : Nat → Bool} {T : Tr AV} : ∀ (l : List (Nat × AV)) (ms : List Prop), subT2 σ p T l = some ms → (∀ q ∈ ms, q) → ∀ t v, (t, v) ∈ l → ∃ u, T.get t = some u ∧ Imp u (ren σ v) ∧ nmsOk p v = true
  | [], ms, h, hm, t, v, ht => by simp at ht
  | (t0, v0) :: l, ms, h, hm, t, v, ht => by
    simp only [subT2] at h
    split at h
    · cases h
    · rename_i u hu
      have hn := (bif_some h).1
      replace h := (bif_some h).2
      split at h
      · cases h
      · rename_i m1 h1
        split at h
        · cases h
        · rename_i m2 h2
          cases h
          obtain ⟨hm1, hm2⟩ := split2 hm
          rcases List.mem_cons.1 ht with e | ht
          · cases e; exact ⟨u, hu, sameS_ok h1 hm1, hn⟩
          · exact subT2_ok l m2 h2 hm2 t v ht
theorem subM2_ok {σ : Nat → Nat} {p : Nat → Bool} {m : Tr Blk} : ∀ (l : List (Nat × Blk)) (ms : List Prop), subM2 σ p m l = some ms → (∀ q ∈ ms, q) → ∀ b k, (b, k) ∈ l → p b = true ∧ nmsV p k.view = true ∧ ∃ k', m.get (σ b) = some k' ∧ k.elem = k'.elem ∧ k.sz = k'.sz ∧ k.opn = k'.opn ∧ k.own = k'.own ∧ (∀ γ cs, VsRel γ k'.cells cs → VsRel γ (renB σ k).cells cs) ∧ (k.own = false → k' = renB σ k)
  | [], ms, h, hm, b, k, hb => by simp at hb
  | (b0, k0) :: l, ms, h, hm, b, k, hb => by
    simp only [subM2] at h
    have hn := (bif_some h).1
    replace h := (bif_some h).2
    obtain ⟨hn1, hn2⟩ := and_split hn
    split at h
    · cases h
    · rename_i k' hk'
      split at h
      · cases h
      · rename_i m1 h1
        split at h
        · cases h
        · rename_i m2 h2
          cases h
          obtain ⟨hm1, hm2⟩ := split2 hm
          rcases List.mem_cons.1 hb with e | hb
          · cases e
            obtain ⟨r1, r2, r3, r4, r5, r6⟩ := sameB_ok h1 hm1
            exact ⟨hn1, hn2, k', hk', r1, r2, r3, r4, r5, r6⟩
          · exact subM2_ok l m2 h2 hm2 b k hb
theorem con_cells {γ1 γ2 : Gm} : ∀ (L : List Con) (cs : List Value), VsRel γ1 (L.flatMap Con.avs) cs → VsRel γ2 (L.flatMap Con.avs) cs
  | [], cs, h => by cases h; exact .nil
  | c :: L, cs, h => by
    have e : (c :: L).flatMap Con.avs = .vint .i64 c.exp :: .vint .i64 c.dim :: .vint .i64 c.sign :: .vbool c.odd :: .vint .i64 c.oddity :: L.flatMap Con.avs := rfl
    rw [e] at h ⊢
    cases h with | cons h1 t1 =>
    cases t1 with | cons h2 t2 =>
    cases t2 with | cons h3 t3 =>
    cases t3 with | cons h4 t4 =>
    cases t4 with | cons h5 t5 =>
    cases h1; cases h2; cases h3; cases h4; cases h5
    exact .cons (.vint _ _) (.cons (.vint _ _) (.cons (.vint _ _) (.cons (.vbool _) (.cons (.vint _ _) (con_cells L _ t5)))))
theorem int_cells {γ1 γ2 : Gm} (k : IntKind) : ∀ (L : List Int) (cs : List Value), VsRel γ1 (L.map (AV.vint k)) cs → VsRel γ2 (L.map (AV.vint k)) cs
  | [], cs, h => by cases h; exact .nil
  | c :: L, cs, h => by cases h with | cons h1 h2 => cases h1; exact .cons (.vint _ _) (int_cells k L _ h2)
theorem renB_cells {γ1 γ2 : Gm} {σ : Nat → Nat} {p : Nat → Bool} (hs : ∀ b, p b = true → γ2 b = γ1 (σ b)) (hz : γ2.fz = γ1.fz) {k : Blk} (hn : nmsV p k.view = true) {cs : List Value} (h : VsRel γ1 (renB σ k).cells cs) : VsRel γ2 k.cells cs := by
  obtain ⟨view, el, sz, opn, own⟩ := k
  cases view with
  | plain l => exact renl_back hs hz hn h
  | con L => exact con_cells L cs h
  | ints kk L => exact int_cells kk L cs h
  | rows kk L b n =>
    refine renl_back (σ := σ) hs hz (vs := L.map (roI kk) ++ [.lo b n]) ?_ ?_
    · replace hn : p b = true := hn
      clear h
      induction L with
      | nil => simp [nmslOk, nmsOk, hn]
      | cons l L ih => simp only [List.map_cons, List.cons_append, nmslOk, ih, Bool.and_true]; rfl
    · have e : renl σ (L.map (roI kk) ++ [.lo b n]) = L.map (roI kk) ++ [.lo (σ b) n] := by
        clear h hn
        induction L with
        | nil => rfl
        | cons l L ih => simp only [List.map_cons, List.cons_append, renl, ih]; rfl
      rw [e]
      exact h
theorem outS_ok {ng N : Nat} {γ0 : Gm} {H0 : Hs} {w0 : World} (hr0 : HRel γ0 H0.m.get H0.nx w0) (hng : ng ≤ H0.nx) {e e' : AEx} {T : Tr AV} {H : Hs} {S : St} {rn : List (Nat × Nat)} {ms : List Prop} (h : outS (some (e', T, H)) e S H0.nx rn = some ms) (hm : ∀ q ∈ ms, q)
    {γ1 : Gm} {a : Act} {w : World} (hf : FRel γ1 ng T N a) (hR : RunR γ0 H0 w0 γ1 H w) : e = e' ∧ ∃ γ2, FRel γ2 ng (trOf S.T) N a ∧ RunR γ0 H0 w0 γ2 ⟨trOf S.m, S.nx, [], []⟩ w := by
  unfold outS at h
  simp only at h
  have hc := (bif_some h).1
  replace h := (bif_some h).2
  simp only [Bool.and_eq_true] at hc
  obtain ⟨⟨⟨⟨⟨⟨⟨⟨c1, c2⟩, c3⟩, c4⟩, c5⟩, c6⟩, c7⟩, c8⟩, c9⟩ := hc
  have c8 := Nat.le_of_ble_eq_true c8
  refine ⟨beqE_ok c1, ?_⟩
  split at h
  · cases h
  · rename_i m1 h1
    split at h
    · cases h
    · rename_i m2 h2
      cases h
      obtain ⟨hm12, _⟩ := split2 hm
      obtain ⟨hm1, hm2⟩ := split2 hm12
      have c2a : rn.all (fun p => Nat.ble H0.nx p.1) = true := by
        rw [List.all_eq_true] at c2 ⊢
        intro p hp
        exact (and_split (c2 p hp)).1
      have hkey : ∀ b, rn.any (fun p => Nat.beq p.1 b) = true → H0.nx ≤ b ∧ b < S.nx := by
        intro b hb
        have := c2
        rw [List.all_eq_true] at this
        obtain ⟨q1, q2⟩ := and_split (this _ (look_mem hb))
        exact ⟨Nat.le_of_ble_eq_true q1, Nat.le_of_ble_eq_true q2⟩
      let γ2 : Gm := ⟨fun b => if b < H0.nx then γ1 b else if rn.any (fun p => Nat.beq p.1 b) = true then γ1 (look rn b) else none, γ1.fz⟩
      have hs : ∀ b, inNames H0.nx rn b = true → γ2 b = γ1 (look rn b) := by
        intro b hb
        unfold inNames at hb
        by_cases hlt : b < H0.nx
        · show (if b < H0.nx then _ else _) = _
          rw [if_pos hlt, look_base c2a hlt]
        · have : rn.any (fun p => Nat.beq p.1 b) = true := by
            rcases or_split hb with h' | h'
            · exact absurd (Nat.le_of_ble_eq_true h') (by omega)
            · exact h'
          show (if b < H0.nx then _ else _) = _
          rw [if_neg hlt, if_pos this]
      have hbase : ∀ b, b < H0.nx → γ2 b = γ1 b := by
        intro b hb
        show (if b < H0.nx then _ else _) = _
        rw [if_pos hb]
      have hmem : ∀ b k, (trOf S.m).get b = some k → (b, k) ∈ S.m := fun b k hb => trOf_get _ _ _ c7 hb
      have hblk : ∀ b k, (trOf S.m).get b = some k → inNames H0.nx rn b = true ∧ nmsV (inNames H0.nx rn) k.view = true ∧ ∃ k', H.m.get (look rn b) = some k' ∧ k.elem = k'.elem ∧ k.sz = k'.sz ∧ k.opn = k'.opn ∧ k.own = k'.own ∧ (∀ γ cs, VsRel γ k'.cells cs → VsRel γ (renB (look rn) k).cells cs) ∧ (k.own = false → k' = renB (look rn) k) :=
        fun b k hb => subM2_ok _ _ h2 hm2 b k (hmem b k hb)
      have hown : ∀ B, OwnImg γ2 (trOf S.m).get B → OwnImg γ1 H.m.get B := by
        rintro B ⟨b, k, x, q1, q2, q3⟩
        obtain ⟨r1, r2, k', r3, r4, r5, r6, r7, r8, r9⟩ := hblk b k q1
        exact ⟨look rn b, k', x, r3, by rw [← r7]; exact q2, by rw [← hs b r1]; exact q3⟩
      refine ⟨γ2, ⟨hf.defers, hf.size, fun t v hv => ?_, fun g hg => ?_⟩, ⟨⟨⟨fun b q hb => ?_, hR.stp.le.fz⟩, ⟨?_, ?_, ?_, hR.stp.rel.fzr, ?_⟩, hR.stp.size, hR.stp.os, hR.stp.tape, hR.stp.output, hR.stp.frame, fun k hk ho => hR.stp.own k hk (hown k ho), ?_, ?_, hR.stp.fzn⟩, c8, fun b hb => ?_⟩⟩
      · obtain ⟨u, q1, q2, q3⟩ := subT2_ok _ _ h1 hm1 t v (trOf_get _ _ _ c6 hv)
        exact ren_back hs rfl q3 (q2 γ1 _ (hf.tmp t u q1))
      · rw [hbase g (by omega)]; exact hf.glob g hg
      · have hlt : b < H0.nx := by
          rcases Nat.lt_or_ge b H0.nx with h' | h'
          · exact h'
          · rw [hr0.fresh b h'] at hb; cases hb
        rw [hbase b hlt]
        exact hR.stp.le.nm b q hb
      · intro b k hb
        obtain ⟨r1, r2, k', r3, r4, r5, r6, r7, r8, r9⟩ := hblk b k hb
        obtain ⟨B, x, cs, ex, g1, g2, g3, g4, g5⟩ := hR.stp.rel.blk _ _ r3
        exact ⟨B, x, cs, ex, by rw [hs b r1]; exact g1, by rw [r4]; exact g2, renB_cells hs rfl r2 (r8 γ1 cs g3), by rw [r5]; exact g4, by rw [r6]; exact g5⟩
      · intro b b' k k' B x x' q1 q2 q3 q4
        obtain ⟨r1, _, kk, r3, _⟩ := hblk b k q1
        obtain ⟨s1, _, kk', s3, _⟩ := hblk b' k' q2
        rw [hs b r1] at q3
        rw [hs b' s1] at q4
        have heq := hR.stp.rel.inj _ _ _ _ _ _ _ r3 s3 q3 q4
        have mixed : ∀ b b' k, (b, k) ∈ S.m → b < H0.nx → ¬ b' < H0.nx → inNames H0.nx rn b' = true → look rn b = look rn b' → False := by
          intro b b' k hk hb hb' hn he
          rw [look_base c2a hb] at he
          unfold inNames at hn
          have hany : rn.any (fun p => Nat.beq p.1 b') = true := by
            rcases or_split hn with h' | h'
            · exact absurd (Nat.le_of_ble_eq_true h') (by omega)
            · exact h'
          have hm' := look_mem hany
          have := List.all_eq_true.1 (List.all_eq_true.1 c5 _ hm') _ hk
          simp only [he] at this
          rw [Nat.beq_refl] at this
          have hbl : Nat.blt (look rn b') H0.nx = true := Nat.ble_eq_true_of_le (by rw [← he]; exact hb)
          rw [hbl] at this
          cases this
        by_cases hb : b < H0.nx
        · by_cases hb' : b' < H0.nx
          · rw [look_base c2a hb, look_base c2a hb'] at heq; exact heq
          · exact (mixed b b' k (hmem _ _ q1) hb hb' s1 heq).elim
        · by_cases hb' : b' < H0.nx
          · exact (mixed b' b k' (hmem _ _ q2) hb' hb r1 heq.symm).elim
          · have a1 : rn.any (fun p => Nat.beq p.1 b) = true := by
              unfold inNames at r1
              rcases or_split r1 with h' | h'
              · exact absurd (Nat.le_of_ble_eq_true h') (by omega)
              · exact h'
            have a2 : rn.any (fun p => Nat.beq p.1 b') = true := by
              unfold inNames at s1
              rcases or_split s1 with h' | h'
              · exact absurd (Nat.le_of_ble_eq_true h') (by omega)
              · exact h'
            have m1 := look_mem a1
            have m2 := look_mem a2
            rw [heq] at m1
            exact apart_inj c4 m1 m2
      · intro b hb
        show (if b < H0.nx then _ else _) = _
        have hb : S.nx ≤ b := hb
        rw [if_neg (by omega), if_neg]
        intro hany
        have := (hkey b hany).2
        omega
      · intro b k B x hb ho hg
        obtain ⟨r1, r2, k', r3, r4, r5, r6, r7, r8, r9⟩ := hblk b k hb
        rw [hs b r1] at hg
        exact hR.stp.rel.fzo _ k' B x r3 (by rw [← r7]; exact ho) hg
      · intro b k hb ho
        obtain ⟨r1, r2, k', r3, r4, r5, r6, r7, r8, r9⟩ := hblk b k hb
        have := List.all_eq_true.1 c9 _ (hmem b k hb)
        simp only [ho, Bool.false_or] at this
        obtain ⟨q1, q2⟩ := and_split this
        have hlt := Nat.le_of_ble_eq_true q1
        rw [look_base c2a hlt] at r3
        have hk : renB (look rn) k = k := by
          obtain ⟨view, el, sz, opn, own⟩ := k
          cases view with
          | plain l => simp only [nmsV] at q2; simp only [renB, renV, renl_none q2]
          | con L => rfl
          | ints kk L => rfl
          | rows kk L b n => simp [nmsV] at q2
        rw [r9 ho, hk] at r3
        exact hR.stp.ro b k r3 ho
      · intro b k hb
        obtain ⟨r1, r2, k', r3, _⟩ := hblk b k hb
        by_cases hlt : b < H0.nx
        · rw [look_base c2a hlt] at r3
          exact hR.stp.dom b k' r3
        · exact .inr (hr0.fresh b (by omega))
      · rw [hbase b hb]; exact hR.keep b hb
def TestOk (A : Ann) (d : Bool) : Prop := match A.test with
  | none => d = true
  | some c => c = d
def stH (S : St) (tp : List Bool) : Hs := ⟨trOf S.m, S.nx, tp, []⟩
theorem ann_of_body {P : Program} {E : Env} (hE : EnvOk P E) {call : CallF} (hc : CallOk P E.ng call) {c0 : Code} {N : Nat} {p : List Nat} {b : Code} (hp : subC p.reverse c0 = some (.loop b)) {A : Ann} (hng : Nat.ble E.ng A.pre.nx = true)
    {ι : Type} (S : ι → St) (μ : ι → Nat) (I : Bool → ι → Prop) {lo : ι → List Nat → Option Ann} (hlo : ∀ d i, TestOk A d → I d i → LoOk P E.ng N (lo i) c0)
    (hstart : ∀ d, TestOk A d → ∃ i rn ms, outS (some (.normal, trOf A.pre.T, stH A.pre [])) .normal (S i) A.pre.nx rn = some ms ∧ allP ms ∧ I d i)
    (hbody : ∀ d, TestOk A d → ∀ i, I d i → ∃ tp,
      (∃ j rn ms, outS (evCode E call (lo i) N 100000 (0 :: p) b (trOf (S i).T) (stH (S i) tp)) .normal (S j) A.pre.nx rn = some ms ∧ allP ms ∧ μ j < μ i ∧ I d j) ∨
      (∃ rn ms, outS (evCode E call (lo i) N 100000 (0 :: p) b (trOf (S i).T) (stH (S i) tp)) (A.post d).1 (A.post d).2 A.pre.nx rn = some ms ∧ allP ms ∧ beqE (A.post d).1 .normal = false)) : AnnOk P E.ng N b A := by
  intro d hd γ a w hf hr
  have hng := Nat.le_of_ble_eq_true hng
  let H0 : Hs := ⟨trOf A.pre.m, A.pre.nx, [], []⟩
  have hr0 : HRel γ H0.m.get H0.nx w := hr
  have hpb : subC (0 :: p).reverse c0 = some b := by
    rw [List.reverse_cons, subC_append, hp]
    cases b <;> rfl
  have hJ : ∀ (n : Nat) (a1 : Act) (w1 : World), (∃ i, μ i = n ∧ I d i ∧ ∃ γ1, FRel γ1 E.ng (trOf (S i).T) N a1 ∧ RunR γ H0 w γ1 ⟨trOf (S i).m, (S i).nx, [], []⟩ w1) →
      b.wp P (Exit.then (fun a' w' => ∃ n', n' < n ∧ ∃ i, μ i = n' ∧ I d i ∧ ∃ γ1, FRel γ1 E.ng (trOf (S i).T) N a' ∧ RunR γ H0 w γ1 ⟨trOf (S i).m, (S i).nx, [], []⟩ w') (fun x a' w' => x = (A.post d).1.den ∧ ∃ γ', FRel γ' E.ng (trOf (A.post d).2.T) N a' ∧ RunR γ ⟨trOf A.pre.m, A.pre.nx, [], []⟩ w γ' ⟨trOf (A.post d).2.m, (A.post d).2.nx, [], []⟩ w')) a1 w1 := by
    rintro n a1 w1 ⟨i, rfl, hI, γ1, hf1, hR1⟩
    obtain ⟨tp, h⟩ := hbody d hd i hI
    generalize hev : evCode E call (lo i) N 100000 (0 :: p) b (trOf (S i).T) (stH (S i) tp) = r at h
    cases r with
    | none => rcases h with ⟨j, rn, ms, h1, _⟩ | ⟨rn, ms, h1, _⟩ <;> (unfold outS at h1; cases h1)
    | some r =>
      obtain ⟨e', T', H'⟩ := r
      have hms : ∀ q ∈ H'.ms, q := by
        have key : ∀ {e : AEx} {S' : St} {rn : List (Nat × Nat)} {ms : List Prop}, outS (some (e', T', H')) e S' A.pre.nx rn = some ms → allP ms → ∀ q ∈ H'.ms, q := by
          intro e S' rn ms h1 h2 q hq
          rw [allP_iff] at h2
          unfold outS at h1
          simp only at h1
          replace h1 := (bif_some h1).2
          split at h1
          · cases h1
          · split at h1
            · cases h1
            · cases h1
              exact h2 q (List.mem_append_right _ hq)
        rcases h with ⟨j, rn, ms, h1, h2, _⟩ | ⟨rn, ms, h1, h2, _⟩
        · exact key h1 h2
        · exact key h1 h2
      refine wp_mono ((evCode_both hE hc (hlo d i hd hI) _).1 (0 :: p) b _ T' _ H' e' hpb hev hms γ1 a1 w1 hf1 hR1.stp.rel) ?_
      rintro x a' w' ⟨rfl, γ', hf', hR'⟩
      have hRR : RunR γ H0 w γ' H' w' := ⟨hR1.stp.trans hR'.stp, Nat.le_trans hR1.nx hR'.nx, fun c hc' => (hR'.keep c (Nat.lt_of_lt_of_le hc' hR1.nx)).trans (hR1.keep c hc')⟩
      rcases h with ⟨j, rn, ms, h1, h2, h3, h4⟩ | ⟨rn, ms, h1, h2, h3⟩
      · obtain ⟨he, γ2, g1, g2⟩ := outS_ok (ng := E.ng) hr0 hng h1 ((allP_iff ms).1 h2) hf' hRR
        subst he
        exact ⟨μ j, h3, j, rfl, h4, γ2, g1, g2⟩
      · obtain ⟨he, γ2, g1, g2⟩ := outS_ok (ng := E.ng) hr0 hng h1 ((allP_iff ms).1 h2) hf' hRR
        subst he
        have fin : (A.post d).1.den = (A.post d).1.den ∧ ∃ γ', FRel γ' E.ng (trOf (A.post d).2.T) N a' ∧ RunR γ ⟨trOf A.pre.m, A.pre.nx, [], []⟩ w γ' ⟨trOf (A.post d).2.m, (A.post d).2.nx, [], []⟩ w' := ⟨rfl, γ2, g1, g2⟩
        cases hx : (A.post d).1 with
        | normal => rw [hx] at h3; cases h3
        | exit j => rw [hx] at fin; exact fin
        | ret => rw [hx] at fin; exact fin
  obtain ⟨i, rn, ms, h1, h2, h3⟩ := hstart d hd
  obtain ⟨_, γ2, g1, g2⟩ := outS_ok (ng := E.ng) (N := N) hr0 hng h1 ((allP_iff ms).1 h2) hf (H := stH A.pre []) ⟨Stp.refl hr0, Nat.le_refl _, fun _ _ => rfl⟩
  exact wp_loop_ghost (fun n a1 w1 => ∃ i, μ i = n ∧ I d i ∧ ∃ γ1, FRel γ1 E.ng (trOf (S i).T) N a1 ∧ RunR γ H0 w γ1 ⟨trOf (S i).m, (S i).nx, [], []⟩ w1) (μ i) ⟨i, rfl, h3, γ2, g1, g2⟩ hJ
end Go.QfSy

namespace Go.QfSy
open Go.RowKit
mutual
def pairV : AV → AV → List (Nat × Nat)
  | .lo c _, .lo b _ => [(c, b)]
  | .ptr c _, .ptr b _ => [(c, b)]
  | .slc c _ _ _, .slc b _ _ _ => [(c, b)]
  | .lp c _ _ _, .lp b _ _ _ => [(c, b)]
  | .agg vs, .agg us => pairVs vs us
  | .tup vs, .tup us => pairVs vs us
  | .fn _ vs, .fn _ us => pairVs vs us
  | _, _ => []
def pairVs : List AV → List AV → List (Nat × Nat)
  | v :: vs, u :: us => pairV v u ++ pairVs vs us
  | _, _ => []
end
def pairT (T : Tr AV) : List (Nat × AV) → List (Nat × Nat)
  | [] => []
  | (t, v) :: l => (match T.get t with
    | none => []
    | some u => pairV v u) ++ pairT T l
def pairM (base : Nat) (m : Tr Blk) : List (Nat × Blk) → List (Nat × Nat)
  | [] => []
  | (b, k) :: l => (bif Nat.blt b base then (match m.get b with
    | none => []
    | some k' => match k.view, k'.view with
      | .plain cs, .plain cs' => pairVs cs cs'
      | _, _ => []) else []) ++ pairM base m l
def dedup (base : Nat) : List (Nat × Nat) → List (Nat × Nat) → List (Nat × Nat)
  | [], acc => acc
  | (c, b) :: l, acc => bif Nat.blt c base || acc.any (fun p => Nat.beq p.1 c) then dedup base l acc else dedup base l ((c, b) :: acc)
def pairR (rn : List (Nat × Nat)) (m : Tr Blk) : List (Nat × Blk) → List (Nat × Nat)
  | [] => []
  | (b, k) :: l => (match k.view with
    | .rows _ _ c _ => (match m.get (look rn b) with
      | none => []
      | some k' => match k'.view with
        | .rows _ _ c' _ => [(c, c')]
        | _ => [])
    | _ => []) ++ pairR rn m l
def autoRn2 (base : Nat) (rn : List (Nat × Nat)) (m : Tr Blk) (S : St) : List (Nat × Nat) := dedup base (pairR rn m S.m) rn
def autoRn (base : Nat) (x : Option (AEx × Tr AV × Hs)) (S : St) : List (Nat × Nat) := match x with
  | none => []
  | some (_, T, H) => autoRn2 base (dedup base (pairT T S.T ++ pairM base H.m S.m) []) H.m S
def outA (x : Option (AEx × Tr AV × Hs)) (e : AEx) (S : St) (base : Nat) : Option (List Prop) := outS x e S base (autoRn base x S)
def bodyAt (fn : Func) (p : List Nat) : Code := match fn.body with
  | none => .skip
  | some c => match subC p.reverse c with
    | some (.loop b) => b
    | _ => .skip
def loL : List (List Nat × Ann) → List Nat → Option Ann
  | [], _ => none
  | (p, A) :: l, q => bif beqL p q then some A else loL l q
theorem beqL_eq : ∀ {p q : List Nat}, beqL p q = true → p = q
  | [], [], _ => rfl
  | [], _ :: _, h => by cases h
  | _ :: _, [], h => by cases h
  | a :: p, b :: q, h => by
    simp only [beqL, Bool.and_eq_true] at h
    rw [beq_eq h.1, beqL_eq h.2]
theorem loL_mem : ∀ {l : List (List Nat × Ann)} {q : List Nat} {A : Ann}, loL l q = some A → (q, A) ∈ l
  | [], _, _, h => by cases h
  | (p, B) :: l, q, A, h => by
    simp only [loL] at h
    cases hb : beqL p q with
    | true => rw [hb] at h; cases h; rw [beqL_eq hb]; exact List.mem_cons_self
    | false => rw [hb] at h; exact List.mem_cons_of_mem _ (loL_mem h)
theorem bodyAt_eq {fn : Func} {c : Code} (hc : fn.body = some c) {p : List Nat} {b : Code} (h : subC p.reverse c = some (.loop b)) : bodyAt fn p = b := by
  unfold bodyAt
  rw [hc]
  simp only [h]
theorem loL_ok {P : Program} {ng N : Nat} {fn : Func} {c : Code} (hc : fn.body = some c) {l : List (List Nat × Ann)} (h : ∀ x ∈ l, AnnOk P ng N (bodyAt fn x.1) x.2) : LoOk P ng N (loL l) c := by
  intro p A b hl hs
  have := h _ (loL_mem hl)
  rw [bodyAt_eq hc hs] at this
  exact this
def isLoop (fn : Func) (p : List Nat) : Bool := match fn.body with
  | none => false
  | some c => match subC p.reverse c with
    | some (.loop _) => true
    | _ => false
theorem isLoop_ok {fn : Func} {p : List Nat} (h : isLoop fn p = true) : ∃ c, fn.body = some c ∧ subC p.reverse c = some (.loop (bodyAt fn p)) := by
  unfold isLoop at h
  split at h
  · cases h
  · rename_i c hc
    split at h
    · rename_i b hb
      exact ⟨c, hc, by rw [bodyAt_eq hc hb]; exact hb⟩
    · cases h
theorem ann_of {P : Program} {E : Env} (hE : EnvOk P E) {call : CallF} (hc : CallOk P E.ng call) {fn : Func} {N : Nat} {inner : List (List Nat × Ann)} (hin : ∀ x ∈ inner, AnnOk P E.ng N (bodyAt fn x.1) x.2) {p : List Nat} (hp : isLoop fn p = true) {A : Ann} (hng : Nat.ble E.ng A.pre.nx = true)
    {ι : Type} (S : ι → St) (μ : ι → Nat) (I : Bool → ι → Prop)
    (hstart : ∀ d, TestOk A d → ∃ i ms, outA (some (.normal, trOf A.pre.T, stH A.pre [])) .normal (S i) A.pre.nx = some ms ∧ allP ms ∧ I d i)
    (hbody : ∀ d, TestOk A d → ∀ i, I d i → ∃ tp,
      (∃ j ms, outA (evCode E call (loL inner) N 100000 (0 :: p) (bodyAt fn p) (trOf (S i).T) (stH (S i) tp)) .normal (S j) A.pre.nx = some ms ∧ allP ms ∧ μ j < μ i ∧ I d j) ∨
      (∃ ms, outA (evCode E call (loL inner) N 100000 (0 :: p) (bodyAt fn p) (trOf (S i).T) (stH (S i) tp)) (A.post d).1 (A.post d).2 A.pre.nx = some ms ∧ allP ms ∧ beqE (A.post d).1 .normal = false)) : AnnOk P E.ng N (bodyAt fn p) A := by
  obtain ⟨c, h1, h2⟩ := isLoop_ok hp
  refine ann_of_body hE hc h2 hng S μ I (lo := fun _ => loL inner) (fun _ _ _ _ => loL_ok h1 hin) (fun d hd => ?_) (fun d hd i hi => ?_)
  · obtain ⟨i, ms, h3, h4, h5⟩ := hstart d hd
    exact ⟨i, _, ms, h3, h4, h5⟩
  · obtain ⟨tp, h⟩ := hbody d hd i hi
    refine ⟨tp, ?_⟩
    rcases h with ⟨j, ms, h3, h4⟩ | ⟨ms, h3, h4⟩
    · exact .inl ⟨j, _, ms, h3, h4⟩
    · exact .inr ⟨_, ms, h3, h4⟩
theorem ann_ofI {P : Program} {E : Env} (hE : EnvOk P E) {call : CallF} (hc : CallOk P E.ng call) {fn : Func} {N : Nat} {p : List Nat} (hp : isLoop fn p = true) {A : Ann} (hng : Nat.ble E.ng A.pre.nx = true)
    {ι : Type} (S : ι → St) (μ : ι → Nat) (I : Bool → ι → Prop) (inner : ι → List (List Nat × Ann)) (hin : ∀ d, TestOk A d → ∀ i, I d i → ∀ x ∈ inner i, AnnOk P E.ng N (bodyAt fn x.1) x.2)
    (hstart : ∀ d, TestOk A d → ∃ i ms, outA (some (.normal, trOf A.pre.T, stH A.pre [])) .normal (S i) A.pre.nx = some ms ∧ allP ms ∧ I d i)
    (hbody : ∀ d, TestOk A d → ∀ i, I d i → ∃ tp,
      (∃ j ms, outA (evCode E call (loL (inner i)) N 100000 (0 :: p) (bodyAt fn p) (trOf (S i).T) (stH (S i) tp)) .normal (S j) A.pre.nx = some ms ∧ allP ms ∧ μ j < μ i ∧ I d j) ∨
      (∃ ms, outA (evCode E call (loL (inner i)) N 100000 (0 :: p) (bodyAt fn p) (trOf (S i).T) (stH (S i) tp)) (A.post d).1 (A.post d).2 A.pre.nx = some ms ∧ allP ms ∧ beqE (A.post d).1 .normal = false)) : AnnOk P E.ng N (bodyAt fn p) A := by
  obtain ⟨c, h1, h2⟩ := isLoop_ok hp
  refine ann_of_body hE hc h2 hng S μ I (lo := fun i => loL (inner i)) (fun d i hd hi => loL_ok h1 (hin d hd i hi)) (fun d hd => ?_) (fun d hd i hi => ?_)
  · obtain ⟨i, ms, h3, h4, h5⟩ := hstart d hd
    exact ⟨i, _, ms, h3, h4, h5⟩
  · obtain ⟨tp, h⟩ := hbody d hd i hi
    refine ⟨tp, ?_⟩
    rcases h with ⟨j, ms, h3, h4⟩ | ⟨ms, h3, h4⟩
    · exact .inl ⟨j, _, ms, h3, h4⟩
    · exact .inr ⟨_, ms, h3, h4⟩
theorem pure_run {P : Program} {E : Env} (hE : EnvOk P E) {call : CallF} (hcall : CallOk P E.ng call) {f : Nat} {fn : Func} (hf : P.funcs[f]? = some fn) {A : List RV} {N : Nat} (hN : N = Nat.max (RV.avl A).length fn.ntmps) {l : List (List Nat × Ann)} (hl : ∀ x ∈ l, AnnOk P E.ng N (bodyAt fn x.1) x.2) {tabs : List Tb} (hg : tabs.all (fun t => Nat.blt t.g E.ng) = true) (hok : okNames (tabList tabs) = true) (hng : Nat.ble E.ng 1000 = true)
    {R : RV} {tp : List Bool} {ms : List Prop} (h : outR (bodyF E call (loL l) f (RV.avl A) ⟨trOf (tabList tabs), 1000, tp, []⟩) R = some ms) (hm : allP ms) : PureC P tabs f A R :=
  pure_of_run hE hcall (fun fn' c h1 h2 => by
    rw [hf] at h1
    cases h1
    subst hN
    exact loL_ok h2 hl) hg hok hng h hm
theorem none_ann {P : Program} {ng N : Nat} {fn : Func} : ∀ x ∈ ([] : List (List Nat × Ann)), AnnOk P ng N (bodyAt fn x.1) x.2 := fun x h => (nomatch h)
theorem one_ann {P : Program} {ng N : Nat} {fn : Func} {p : List Nat} {A : Ann} (h : AnnOk P ng N (bodyAt fn p) A) : ∀ x ∈ [(p, A)], AnnOk P ng N (bodyAt fn x.1) x.2 := fun x hx => by rw [List.mem_singleton.1 hx]; exact h
def isT0 : Option (AV × Hs) → Bool
  | some (.bool true, ⟨_, _, _, []⟩) => true
  | _ => false
theorem pure_true {P : Program} {E : Env} (hE : EnvOk P E) {call : CallF} (hcall : CallOk P E.ng call) {f : Nat} {A : List RV} {tabs : List Tb} (hg : tabs.all (fun t => Nat.blt t.g E.ng) = true) (hok : okNames (tabList tabs) = true) (hng : Nat.ble E.ng 1000 = true)
    (h : isT0 (bodyF E call noLo f (RV.avl A) ⟨trOf (tabList tabs), 1000, [], []⟩) = true) : PureC P tabs f A (.bool true) := by
  unfold isT0 at h
  split at h
  · rename_i m nx tp heq
    refine pure_of_run hE hcall (fun _ _ _ _ => noLo_ok _ _ _ _) hg hok hng (tp := []) (ms := [true = true]) ?_ rfl
    rw [heq]
    rfl
  · cases h
theorem ct {α : Type} {c : Bool} {a b : α} (h : c = true) : (bif c then a else b) = a := by rw [h]; rfl
theorem cf {α : Type} {c : Bool} {a b : α} (h : c = false) : (bif c then a else b) = b := by rw [h]; rfl
theorem dN {c v : Bool} (h : c = v) : (!c) = !v := by rw [h]
theorem dT {c v : Bool} (h : c = v) : (true == c) = v := by rw [h]; cases v <;> rfl
def roC (L : List Con) : RV := .sl L.length 5 (fun i => (L.getD i Con.zero).rvs)
end Go.QfSy

namespace Go.QfSy
open Go.RowKit
def orcB (E : Env) (call : CallF) (f0 n0 : Nat) (l : List (List Nat × Ann)) (orc : CallF) : CallF := fun f args H =>
  bif Nat.beq f f0 && Nat.beq args.length n0 then bodyF E call (loL l) f args H else orc f args H
theorem orcB_ok {P : Program} {E : Env} (hE : EnvOk P E) {call : CallF} (hcall : CallOk P E.ng call) {f0 n0 : Nat} {fn : Func} (hf : P.funcs[f0]? = some fn) {l : List (List Nat × Ann)} (hl : ∀ x ∈ l, AnnOk P E.ng (Nat.max n0 fn.ntmps) (bodyAt fn x.1) x.2) {orc : CallF} (ho : CallOk P E.ng orc) : CallOk P E.ng (orcB E call f0 n0 l orc) := by
  intro f args H v H' h
  unfold orcB at h
  cases hb : (Nat.beq f f0 && Nat.beq args.length n0) with
  | false => rw [hb] at h; exact ho f args H v H' h
  | true =>
    rw [hb] at h
    simp only [cond_true] at h
    simp only [Bool.and_eq_true] at hb
    have h1 := Nat.eq_of_beq_eq_true hb.1
    have h2 := Nat.eq_of_beq_eq_true hb.2
    subst h1
    subst h2
    exact bodyF_ok hE hcall (fun fn' c h1 h2 => by
      rw [hf] at h1
      cases h1
      exact loL_ok h2 hl) h
theorem RRel.rows {F : Fz} {n sz : Nat} {row row' : Nat → List RV} (h : ∀ i, i < n → row i = row' i) {V : Value} (k : RRel F (.sl n sz row) V) : RRel F (.sl n sz row') V := by
  cases k with
  | sl0 sz row a c hn => exact .sl0 sz _ a c hn
  | sl cs hc hl hf hr => exact .sl cs hc hl hf (fun i hi => h i hi ▸ hr i hi)
theorem PureC.args {P : Program} {tabs : List Tb} {f : Nat} {A A' : List RV} {R : RV} (h : PureC P tabs f A' R) (ha : ∀ F Args, RsRel F A Args → RsRel F A' Args) : PureC P tabs f A R :=
  ⟨h.1, fun w F Args ht hF hr => h.2 w F Args ht hF (ha F Args hr)⟩
theorem ofR_rvs (c : Con) : Con.ofR c.rvs = c := rfl
theorem consR_ro (L : List Con) : consR L.length (fun i => (L.getD i Con.zero).rvs) = L := by
  apply List.ext_getElem
  · simp [consR]
  · intro i h1 h2
    simp [consR, ofR_rvs, h2]
theorem roC_ro {n : Nat} {row : Nat → List RV} (h : ∀ i, i < n → row i = (Con.ofR (row i)).rvs) {F : Fz} {V : Value} (k : RRel F (.sl n 5 row) V) : RRel F (roC (consR n row)) V := by
  unfold roC
  have hn : (consR n row).length = n := by simp [consR]
  rw [hn]
  refine k.rows (fun i hi => ?_)
  rw [h i hi]
  congr 1
  simp [consR, hi]
end Go.QfSy

namespace Go.QfSy
open Go.RowKit
def NewC (P : Program) (el f : Nat) (n : Int) : Prop :=
  (∃ fn, P.funcs[f]? = some fn ∧ fn.body.isSome = true) ∧
  ∀ w : World, Calls P f #[.slice none 0 0, .int .i64 n] w fun e w' => ∃ (x : Nat) (w1 : World) (ex : List Value), e = .returned (.slice (some ⟨w.heap.size, 0, none⟩) 0 x) ∧ w' = w1.alloc (.cells ex.toArray el) ∧ ex.length = x * 5 ∧ w1.heap = w.heap ∧ w1.os = w.os ∧ w1.tape = w.tape ∧ w1.output = w.output
def orcN (el f0 : Nat) (m : Int) (orc : CallF) : CallF := fun f args H =>
  bif Nat.beq f f0 then (match args with
    | [.nils, v] => match clr v with
      | .int .i64 n => match H.m.set H.nx (some ⟨.con [], el, 5, true, true⟩) with
        | none => none
        | some m' => some (.lo H.nx 0, (⟨m', H.nx + 1, H.tp, H.ms⟩ : Hs).must [0 < n ∧ n ≤ m])
      | _ => none
    | _ => none) else orc f args H
theorem orcN_ok {P : Program} {ng el f0 : Nat} {m : Int} (he : ∀ n : Int, 0 < n → n ≤ m → NewC P el f0 n) {orc : CallF} (ho : CallOk P ng orc) : CallOk P ng (orcN el f0 m orc) := by
  intro f args H v H' h
  unfold orcN at h
  cases hb0 : Nat.beq f f0 with
  | false => rw [hb0] at h; exact ho f args H v H' h
  | true =>
    rw [hb0] at h
    simp only [cond_true] at h
    have hf := Nat.eq_of_beq_eq_true hb0
    subst hf
    split at h
    · rename_i u
      split at h
      · rename_i n hu
        split at h
        · cases h
        · rename_i m' hset
          cases h
          refine ⟨fun p hp => by simp [Hs.must, hp], fun hm γ w Args hr hV hg => ?_⟩
          have hn : 0 < n ∧ n ≤ m := hm _ (by simp [Hs.must])
          obtain ⟨hfn, hnew⟩ := he n hn.1 hn.2
          refine ⟨hfn, ?_⟩
          cases hV with
          | cons h1 hV => cases hV with
            | cons h2 hV =>
              cases hV
              cases h1
              have h2 := h2.clr
              rw [hu] at h2
              cases h2
              refine (hnew w).mono ?_
              rintro e w' ⟨x, w1, ex, rfl, rfl, hex, g1, g2, g3, g4⟩
              have hi : γ H.nx = none := hr.fresh _ (Nat.le_refl _)
              have hst := hr.new (w1 := w1) H.nx (H.nx + 1) hi (Nat.lt_succ_self _) (Nat.le_succ _) (vs := []) (Vs := []) (ex := ex) .nil el 5 true x hex (fun h => by cases h) g1 g2 g3 g4
              refine ⟨_, γ.put H.nx (some (w.heap.size, x)), rfl, ?_, ?_, Nat.le_succ _, fun b hb => Gm.put_other _ _ (by omega)⟩
              · have := VRel.lo (γ := γ.put H.nx (some (w.heap.size, x))) (b := H.nx) (B := w.heap.size) (x := x) 0 (Gm.put_same _ _ _)
                rw [Nat.zero_add] at this
                exact this
              · exact put_view hset (by rfl) hst
      · cases h
    · cases h
end Go.QfSy

