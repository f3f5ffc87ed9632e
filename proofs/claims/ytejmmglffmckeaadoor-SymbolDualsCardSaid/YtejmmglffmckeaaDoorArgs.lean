/- Arguments of the types api.Local and quadformscene.Symbol, opened. -/
import Derived.Test.YtejmmglffmckeaaDoorLaid
namespace Go.Proofs.YtejmmglffmckeaaDoor.Q
open Go.ChangeShapes Go.WideShapes Go.ChangeAt Go.RowKit Go.Joins Go.Deep

theorem conTy : ∃ fs, ConTy Tryd.prog 31 3 4 fs :=
  ⟨_, { und := Tryd.underlying31, cells := by kernel_rfl, one := by kernel_rfl, size := by kernel_rfl, f0 := by kernel_rfl, f1 := by kernel_rfl, f2 := by kernel_rfl, f3 := by kernel_rfl, f4 := by kernel_rfl, int := Tryd.underlying3, bool := Tryd.underlying4 }⟩
theorem partTy : PartTy Tryd.prog 69 5 := { und := Tryd.underlying69, cells := by kernel_rfl, u8 := Tryd.underlying5, one := by kernel_rfl }

/-- A struct of two fields of one cell each. -/
structure TwoTy (P : Program) (t t0 t1 : TypeId) (f0 f1 : Field) : Prop where
  und : P.underlying t = some (.struct #[f0, f1])
  one : oneCellFields P #[f0, f1] = true
  cells : P.cellsOf t = 2
  e0 : f0.type = t0
  e1 : f1.type = t1
theorem localTy : ∃ f0 f1, TwoTy Tryd.prog 28 2 26 f0 f1 :=
  ⟨_, _, { und := Tryd.underlying28, one := by kernel_rfl, cells := by kernel_rfl, e0 := rfl, e1 := rfl }⟩
theorem symbolTy : ∃ f0 f1, TwoTy Tryd.prog 24 5 22 f0 f1 :=
  ⟨_, _, { und := Tryd.underlying24, one := by kernel_rfl, cells := by kernel_rfl, e0 := rfl, e1 := rfl }⟩

section
variable {H : Type} {enc : TypeId × Value → H} {w : World} {base : Nat} {spare : Nat → Bool} {held : Bool} {r : Reach} {b0 : Nat} {v : Value} {d : DataW H} {p : List MemPlace}
theorem two_of {P : Program} {t t0 t1 : TypeId} {f0 f1 : Field} (hT : TwoTy P t t0 t1 f0 f1) (hv : Value.okWide P w r b0 t v) (h : DataW.Trod enc P w base spare held t v d p) :
    ∃ v0 v1 y0 y1 n, v = .agg #[v0, v1] ∧ DataW.trod enc P w base spare held n t0 [v0] = some y0 ∧ DataW.trod enc P w base spare held n t1 [v1] = some y1 := by
  obtain ⟨v0, v1, y0, y1, n, e, _, _, h0, h1⟩ := open_agg2 hT.und hT.one hT.cells hv h
  rw [hT.e0] at h0
  rw [hT.e1] at h1
  exact ⟨v0, v1, y0, y1, n, e, h0, h1⟩
theorem open_local_gen {P : Program} {t t0 t1 u ti tb : TypeId} {f0 f1 : Field} {fs : Array Field} (hT : TwoTy P t t0 t1 f0 f1) (hC : ConTy P u ti tb fs) (u0 : P.underlying t0 = some (.int .i64)) (u1 : P.underlying t1 = some (.slice u))
    (hv : Value.okWide P w r b0 t v) (h : DataW.Trod enc P w base spare held t v d p) :
    ∃ q a n c l, v = .agg #[.int .i64 q, .slice a n c] ∧ I64 q ∧ n ≤ maxLen ∧ Lst w (.slice a n c) l ∧ ∀ x ∈ l, x.fits := by
  obtain ⟨v0, v1, y0, y1, n, rfl, h0, h1⟩ := two_of hT hv h
  obtain ⟨z, rfl, hz⟩ := one_int u0 h0 (Option.some_ne_none _)
  obtain ⟨a, m, c, l, rfl, hm, hl, hf⟩ := open_lst hC u1 h1
  exact ⟨z, a, m, c, l, rfl, wf_i64 hz, hm, hl, hf⟩
theorem open_symbol_gen {P : Program} {t t0 t1 u tu : TypeId} {f0 f1 : Field} (hT : TwoTy P t t0 t1 f0 f1) (hC : PartTy P u tu) (u0 : P.underlying t0 = some (.int .u8)) (u1 : P.underlying t1 = some (.slice u))
    (hv : Value.okWide P w r b0 t v) (h : DataW.Trod enc P w base spare held t v d p) :
    ∃ q a n c, v = .agg #[.int .u8 q, .slice a n c] ∧ 0 ≤ q ∧ q ≤ 255 ∧ n ≤ maxLen ∧ Prts w (.slice a n c) n := by
  obtain ⟨v0, v1, y0, y1, n, rfl, h0, h1⟩ := two_of hT hv h
  obtain ⟨z, rfl, hz⟩ := one_int u0 h0 (Option.some_ne_none _)
  obtain ⟨a, m, c, rfl, hm, hp⟩ := open_prts hC u1 h1
  obtain ⟨hz0, hz1⟩ := wf_u8 hz
  exact ⟨z, a, m, c, rfl, hz0, hz1, hm, hp⟩
end
structure LocalTys (P : Program) (t : TypeId) : Prop where
  has : ∃ (t0 t1 u ti tb : TypeId) (f0 f1 : Field) (fs : Array Field), TwoTy P t t0 t1 f0 f1 ∧ ConTy P u ti tb fs ∧ P.underlying t0 = some (.int .i64) ∧ P.underlying t1 = some (.slice u)
structure SymbolTys (P : Program) (t : TypeId) : Prop where
  has : ∃ (t0 t1 u tu : TypeId) (f0 f1 : Field), TwoTy P t t0 t1 f0 f1 ∧ PartTy P u tu ∧ P.underlying t0 = some (.int .u8) ∧ P.underlying t1 = some (.slice u)
theorem localTys : LocalTys Tryd.prog 28 := by
  obtain ⟨f0, f1, hT⟩ := localTy
  obtain ⟨fs, hC⟩ := conTy
  exact ⟨_, _, _, _, _, _, _, _, hT, hC, Tryd.underlying2, Tryd.underlying26⟩
theorem symbolTys : SymbolTys Tryd.prog 24 := by
  obtain ⟨f0, f1, hT⟩ := symbolTy
  exact ⟨_, _, _, _, _, _, hT, partTy, Tryd.underlying5, Tryd.underlying22⟩
section
variable {H : Type} {enc : TypeId × Value → H} {P : Program} {t : TypeId} {w : World} {base : Nat} {spare : Nat → Bool} {held : Bool} {r : Reach} {b0 : Nat} {v : Value} {d : DataW H} {p : List MemPlace}
theorem open_local (hT : LocalTys P t) (hv : Value.okWide P w r b0 t v) (h : DataW.Trod enc P w base spare held t v d p) :
    ∃ q a n c l, v = .agg #[.int .i64 q, .slice a n c] ∧ I64 q ∧ n ≤ maxLen ∧ Lst w (.slice a n c) l ∧ ∀ x ∈ l, x.fits := by
  obtain ⟨_, _, _, _, _, _, _, _, h1, h2, h3, h4⟩ := hT.has
  exact open_local_gen h1 h2 h3 h4 hv h
theorem open_symbol (hT : SymbolTys P t) (hv : Value.okWide P w r b0 t v) (h : DataW.Trod enc P w base spare held t v d p) :
    ∃ q a n c, v = .agg #[.int .u8 q, .slice a n c] ∧ 0 ≤ q ∧ q ≤ 255 ∧ n ≤ maxLen ∧ Prts w (.slice a n c) n := by
  obtain ⟨_, _, _, _, _, _, h1, h2, h3, h4⟩ := hT.has
  exact open_symbol_gen h1 h2 h3 h4 hv h
end
end Go.Proofs.YtejmmglffmckeaaDoor.Q
