/- The old contracts as pure calls. -/
import Derived.Test.YtejmmglffmckeaaGreatDoorYD
import Derived.Test.YtejmmglffmckeaaGreatDoorYS
set_option linter.unusedSimpArgs false
set_option linter.unusedVariables false
namespace Go.Proofs.YtejmmglffmckeaaGreatDoor.S
open Go.QfSy Go.RowKit

def toQ (c : Con) : Q.Con := ⟨c.exp, c.dim, c.sign, c.odd, c.oddity⟩

theorem cell_of {F : Fz} {w : World} (hF : Vld F w) {B o : Nat} {v : Value} (h : FzAt F B o v) : w.cell? ⟨B, o, none⟩ = some v ∧ B < w.heap.size := by
  obtain ⟨cs, el, fr, h1, h2⟩ := h
  have h3 := hF _ _ h1
  refine ⟨?_, (Array.getElem?_eq_some_iff.1 h3).1⟩
  simp [World.cell?, h3, h2]

theorem rs5 {F : Fz} {c : Con} {Vs : List Value} (h : RsRel F c.rvs Vs) : Vs = [.int .i64 c.exp, .int .i64 c.dim, .int .i64 c.sign, .bool c.odd, .int .i64 c.oddity] := by
  unfold Con.rvs at h
  cases h with | cons h0 h => cases h with | cons h1 h => cases h with | cons h2 h => cases h with | cons h3 h => cases h with | cons h4 h =>
  cases h; cases h0; cases h1; cases h2; cases h3; cases h4
  rfl

theorem lst_of {F : Fz} {w : World} (hF : Vld F w) {L : List Con} {V : Value} (h : RRel F (roC L) V) : Q.Lst w V (L.map toQ) ∧ ∃ a n c, V = .slice a n c := by
  unfold roC at h
  cases h with
  | sl0 sz row a c hn =>
    have : L = [] := List.eq_nil_of_length_eq_zero hn
    subst this
    exact ⟨.inl ⟨rfl, a, c, rfl⟩, _, _, _, rfl⟩
  | @sl _ _ B o c _ cs hc hl hf h =>
    refine ⟨?_, _, _, _, rfl⟩
    cases L with
    | nil => exact .inl ⟨rfl, _, _, rfl⟩
    | cons c0 l =>
      have key : ∀ i, i < (c0 :: l).length → ∀ j v, ([.int .i64 ((c0 :: l).getD i Con.zero).exp, .int .i64 ((c0 :: l).getD i Con.zero).dim, .int .i64 ((c0 :: l).getD i Con.zero).sign, .bool ((c0 :: l).getD i Con.zero).odd, .int .i64 ((c0 :: l).getD i Con.zero).oddity] : List Value)[j]? = some v → w.cell? ⟨B, o + i * 5 + j, none⟩ = some v ∧ B < w.heap.size := by
        intro i hi j v hv
        have := rs5 (h i hi)
        exact cell_of hF (hf i j v hi (by rw [this]; exact hv))
      refine .inr ⟨by simp, B, o, c, by simp, (key 0 (by simp) 0 _ rfl).2, by simpa using hc, ?_⟩
      intro i q hq
      rw [List.getElem?_map] at hq
      cases hi : (c0 :: l)[i]? with
      | none => rw [hi] at hq; cases hq
      | some x =>
        rw [hi] at hq
        cases hq
        have hlt := (List.getElem?_eq_some_iff.1 hi).1
        have hx : (c0 :: l).getD i Con.zero = x := by rw [List.getD_eq_getElem?_getD, hi]; rfl
        have k := key i hlt
        rw [hx] at k
        exact ⟨(k 0 _ rfl).1, (k 1 _ rfl).1, (k 2 _ rfl).1, (k 3 _ rfl).1, (k 4 _ rfl).1⟩

/-- A result without slices makes a pure call. -/
theorem flat_pure {tabs : List Tb} {f : Nat} {A : List RV} {R : RV} {V : Value} (hR : ∀ F, RRel F R V) (hfn : ∃ fn, Tryz.prog.funcs[f]? = some fn ∧ fn.body.isSome = true)
    (h : ∀ (w : World) (F : Fz) (Args : List Value), TabW tabs w → Vld F w → RsRel F A Args → Calls Tryz.prog f Args.toArray w fun e w' => e = .returned V ∧ Below w.heap.size w w') : PureC Tryz.prog tabs f A R := by
  refine ⟨hfn, ?_⟩
  intro w F Args ht hF hr
  refine (h w F Args ht hF hr).mono ?_
  rintro e w' ⟨rfl, hb⟩
  exact ⟨V, F, rfl, fun _ _ h => h, hF.below hb, fun _ _ h => .inl h, hR F, hb⟩

def offT : Tb := ⟨0, .i64, [7, 11, 13, 17, 19, 23, 29, 31], 215⟩
theorem offs_of {w : World} (h : TabW [offT] w) : Q.Offs w := h offT (by simp)

theorem valid_pure (p : Int) (L : List Con) (hn : L.length ≤ 1000) : PureC Tryz.prog [offT] 18 [.agg [.int .i64 p, roC L]] (.bool (Q.vS p (L.map toQ))) := by
  refine flat_pure (fun _ => .bool _) ⟨_, Tryz.func18, rfl⟩ ?_
  intro w F Args ht hF hr
  cases hr with | cons h0 hr => cases hr; cases h0 with | agg h0 => cases h0 with | cons h1 h0 => cases h1; cases h0 with | cons h2 h0 =>
  cases h0
  exact Q.valid_calls p _ _ w (offs_of ht) (lst_of hF h2).1 (by simpa using hn)

theorem rvalid_pure (p : Int) (L : List Con) (hn : L.length ≤ 1000) : PureC Tryz.prog [] 19 [.agg [.int .i64 p, roC L]] (.bool (Q.vS p (L.map toQ))) := by
  refine flat_pure (fun _ => .bool _) ⟨_, Tryz.func19, rfl⟩ ?_
  intro w F Args ht hF hr
  cases hr with | cons h0 hr => cases hr; cases h0 with | agg h0 => cases h0 with | cons h1 h0 => cases h1; cases h0 with | cons h2 h0 =>
  cases h0
  exact Q.rvalid_calls p _ _ w (lst_of hF h2).1 (by simpa using hn)

theorem same_pure (p : Int) (L : List Con) (hn : L.length ≤ 1000) : PureC Tryz.prog [] 27 [.agg [.int .i64 p, roC L], .agg [.int .i64 p, roC L]] (.bool true) := by
  refine flat_pure (fun _ => .bool _) ⟨_, Tryz.func27, rfl⟩ ?_
  intro w F Args ht hF hr
  cases hr with | cons h0 hr => cases hr with | cons k0 hr => cases hr; cases h0 with | agg h0 => cases h0 with | cons h1 h0 => cases h1; cases h0 with | cons h2 h0 => cases h0; cases k0 with | agg k0 => cases k0 with | cons k1 k0 => cases k1; cases k0 with | cons k2 k0 =>
  cases k0
  obtain ⟨l1, a, n, c, rfl⟩ := lst_of hF h2
  obtain ⟨l2, a', n', c', rfl⟩ := lst_of hF k2
  exact Q.same_calls p _ a a' n n' c c' w (Lib.hid l1) (Lib.hid l2) (Lib.hid (by simpa using hn))

theorem oddPrime_pure (k : Int) (h0 : 0 ≤ k) (h1 : k ≤ 255) : PureC Tryz.prog [] 29 [.int .u8 k] (.int .i64 (Q.oddPr k)) := by
  refine flat_pure (fun _ => .int _ _) ⟨_, Tryz.func29, rfl⟩ ?_
  intro w F Args ht hF hr
  cases hr with | cons k0 hr =>
  cases hr; cases k0
  exact Q.oddPrime_calls k w h0 h1

end Go.Proofs.YtejmmglffmckeaaGreatDoor.S
