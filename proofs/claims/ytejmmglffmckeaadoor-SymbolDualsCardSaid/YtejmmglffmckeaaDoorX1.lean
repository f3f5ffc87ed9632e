/- quadformscene.Symbol.Local. -/
import Derived.Test.YtejmmglffmckeaaDoorW9
namespace Go.Proofs.YtejmmglffmckeaaDoor.Q
open Go.RowKit

theorem Prts.below {w w' : World} {v : Value} {n m : Nat} (h : Prts w v n) (hb : Below m w w') (hm : w.heap.size ≤ m) : Prts w' v n := by
  obtain ⟨a, cap, e, h⟩ := h
  refine ⟨a, cap, e, fun h0 => ?_⟩
  obtain ⟨b, o, ha, hlt, hp⟩ := h h0
  refine ⟨b, o, ha, by have := hb.size; omega, fun i hi => ?_⟩
  obtain ⟨x0, x1, x2, x3, x4, hx⟩ := hp i hi
  exact ⟨x0, x1, x2, x3, x4, hx.below hb (by omega)⟩

theorem Lst.form {w : World} {v : Value} {l : List Con} (h : Lst w v l) : ∃ a n c, v = .slice a n c := by
  rcases h with ⟨_, a, c, e⟩ | ⟨_, b, o, cap, e, _⟩
  · exact ⟨a, 0, c, e⟩
  · exact ⟨_, _, _, e⟩
theorem list_form (xp most : Int) (v : Value) (n : Nat) (w : World) (hm : 1 ≤ most) (hm' : most ≤ 8) (hv : Prts w v n) (hn : n ≤ 20) :
    Calls Tryd.prog 14 #[.agg #[.int .u8 xp, v], .int .i64 most, .bool false] w fun e w' => ∃ av nv cv l, e = .returned (.slice av nv cv) ∧ Hid (Listed w.heap.size w' (.slice av nv cv) most l) ∧ Below w.heap.size w w' := by
  refine (list_calls xp most v n w hm hm' hv hn).mono ?_
  rintro e w' ⟨v, l, rfl, hL, hb⟩
  obtain ⟨a, n, c, rfl⟩ := hL.lst.form
  exact ⟨a, n, c, l, rfl, hL, hb⟩

theorem cell_set_other {w : World} {p q : Addr} {u : Value} (h : q.block ≠ p.block) : (w.setCell p u).cell? q = w.cell? q :=
  World.cell?_of_block (Below.heap_setCell w p u q.block (fun e => h e))
theorem Lst.setCell {w : World} {v : Value} {l : List Con} (h : Lst w v l) {p : Addr} (hne : ∀ k, v.ownBlock = some k → k ≠ p.block) (u : Value) : Lst (w.setCell p u) v l := by
  rcases h with h | ⟨h1, b, o, cap, h2, h3, hcp, h4⟩
  · exact .inl h
  · have hb : b ≠ p.block := hne b (by rw [h2]; rfl)
    refine .inr ⟨h1, b, o, cap, h2, by simpa [World.setCell] using h3, hcp, fun i c hi => ?_⟩
    obtain ⟨c0, c1, c2, c3, c4⟩ := h4 i c hi
    exact ⟨(cell_set_other hb).trans c0, (cell_set_other hb).trans c1, (cell_set_other hb).trans c2, (cell_set_other hb).trans c3, (cell_set_other hb).trans c4⟩

/-- What Local returns. -/
def LocalPost (w : World) (p most : Int) (e : Ending) (w' : World) : Prop := ∃ v l, e = .returned (.agg #[.int .i64 p, v]) ∧ Listed w.heap.size w' v most l ∧ Below w.heap.size w w'
def ListPost (w : World) (most : Int) (e : Ending) (w' : World) : Prop := ∃ v l, e = .returned v ∧ Listed w.heap.size w' v most l ∧ Below w.heap.size w w'

theorem below_drew {B : Nat} {a w : World} (h : Below B a w) : Below B a w.drew := ⟨h.os, h.tape, h.output, h.size, h.block⟩
theorem startS {w W : World} {xp : Int} {a : Option Addr} {n cap : Nat} (hW : W = ((w.alloc (.cells #[.int .u8 xp, .slice a n cap] 24)).alloc (.cells #[.int .i64 0, .slice none 0 0] 28)).drew) :
    Below w.heap.size w W ∧ w.heap.size + 1 < W.heap.size ∧ W.cell? ⟨w.heap.size, 0, none⟩ = some (.int .u8 xp) ∧ W.cell? ⟨w.heap.size, 1, none⟩ = some (.slice a n cap) := by
  subst hW
  refine ⟨below_drew (((Below.refl _ _).alloc (Nat.le_refl _) _).alloc (by simp) _), ?_, ?_, ?_⟩
  all_goals simp [go_sem]
theorem belS {w W : World} (xp : Int) (a : Option Addr) (n cap : Nat) (h : Below w.heap.size w W ∧ w.heap.size + 1 < W.heap.size ∧ W.cell? ⟨w.heap.size, 0, none⟩ = some (.int .u8 xp) ∧ W.cell? ⟨w.heap.size, 1, none⟩ = some (.slice a n cap)) : Below w.heap.size w W := h.1
theorem keepS {w W w1 : World} {xp : Int} {a : Option Addr} {n cap : Nat} (h : Below w.heap.size w W ∧ w.heap.size + 1 < W.heap.size ∧ W.cell? ⟨w.heap.size, 0, none⟩ = some (.int .u8 xp) ∧ W.cell? ⟨w.heap.size, 1, none⟩ = some (.slice a n cap)) (hb : Below W.heap.size W w1) :
    Below w.heap.size w w1 ∧ w.heap.size + 1 < w1.heap.size ∧ w1.cell? ⟨w.heap.size, 0, none⟩ = some (.int .u8 xp) ∧ w1.cell? ⟨w.heap.size, 1, none⟩ = some (.slice a n cap) := by
  obtain ⟨h1, h2, h3, h4⟩ := h
  have hc : ∀ b o, b < W.heap.size → w1.cell? ⟨b, o, none⟩ = W.cell? ⟨b, o, none⟩ := (bcell hb).1
  have hz := hb.size
  refine ⟨h1.trans (hb.mono h1.size), by omega, ?_, ?_⟩
  · rw [hc _ _ (by omega)]; exact h3
  · rw [hc _ _ (by omega)]; exact h4

theorem ltS {w W : World} (xp : Int) (a : Option Addr) (n cap : Nat) (h : Below w.heap.size w W ∧ w.heap.size + 1 < W.heap.size ∧ W.cell? ⟨w.heap.size, 0, none⟩ = some (.int .u8 xp) ∧ W.cell? ⟨w.heap.size, 1, none⟩ = some (.slice a n cap)) : w.heap.size + 1 < W.heap.size := h.2.1
theorem resS {w w1 : World} {xp : Int} {a : Option Addr} {n cap : Nat} (hb : Below ((w.alloc (.cells #[.int .u8 xp, .slice a n cap] 24)).alloc (.cells #[.int .i64 0, .slice none 0 0] 28)).drew.heap.size ((w.alloc (.cells #[.int .u8 xp, .slice a n cap] 24)).alloc (.cells #[.int .i64 0, .slice none 0 0] 28)).drew w1) :
    w1.cell? ⟨w.heap.size + 1, 0, none⟩ = some (.int .i64 0) ∧ w1.cell? ⟨w.heap.size + 1, 1, none⟩ = some (.slice none 0 0) ∧ w1.frozen? ⟨w.heap.size + 1, 0, none⟩ = false ∧ w1.frozen? ⟨w.heap.size + 1, 1, none⟩ = false := by
  obtain ⟨hc, hf⟩ := bcell hb
  refine ⟨?_, ?_, ?_, ?_⟩
  · rw [hc _ _ (by simp)]; simp [go_sem]
  · rw [hc _ _ (by simp)]; simp [go_sem]
  · rw [hf _ _ (by simp)]; simp [go_sem]
  · rw [hf _ _ (by simp)]; simp [go_sem]
theorem resT {w W w1 : World} (hlt : w.heap.size + 1 < W.heap.size) (h : W.cell? ⟨w.heap.size + 1, 0, none⟩ = some (.int .i64 0) ∧ W.cell? ⟨w.heap.size + 1, 1, none⟩ = some (.slice none 0 0) ∧ W.frozen? ⟨w.heap.size + 1, 0, none⟩ = false ∧ W.frozen? ⟨w.heap.size + 1, 1, none⟩ = false) (hb : Below W.heap.size W w1) :
    w1.cell? ⟨w.heap.size + 1, 0, none⟩ = some (.int .i64 0) ∧ w1.cell? ⟨w.heap.size + 1, 1, none⟩ = some (.slice none 0 0) ∧ w1.frozen? ⟨w.heap.size + 1, 0, none⟩ = false ∧ w1.frozen? ⟨w.heap.size + 1, 1, none⟩ = false := by
  obtain ⟨hc, hf⟩ := bcell hb
  obtain ⟨h1, h2, h3, h4⟩ := h
  refine ⟨?_, ?_, ?_, ?_⟩
  · rw [hc _ _ hlt]; exact h1
  · rw [hc _ _ hlt]; exact h2
  · rw [hf _ _ hlt]; exact h3
  · rw [hf _ _ hlt]; exact h4
theorem storeS {w W : World} {xp : Int} {a : Option Addr} {n cap : Nat} {x y : Value} (h : Below w.heap.size w W ∧ w.heap.size + 1 < W.heap.size ∧ W.cell? ⟨w.heap.size, 0, none⟩ = some (.int .u8 xp) ∧ W.cell? ⟨w.heap.size, 1, none⟩ = some (.slice a n cap)) :
    Below w.heap.size w ((W.setCell ⟨w.heap.size + 1, 0, none⟩ x).setCell ⟨w.heap.size + 1, 1, none⟩ y) ∧ w.heap.size + 1 < ((W.setCell ⟨w.heap.size + 1, 0, none⟩ x).setCell ⟨w.heap.size + 1, 1, none⟩ y).heap.size ∧ ((W.setCell ⟨w.heap.size + 1, 0, none⟩ x).setCell ⟨w.heap.size + 1, 1, none⟩ y).cell? ⟨w.heap.size, 0, none⟩ = some (.int .u8 xp) ∧ ((W.setCell ⟨w.heap.size + 1, 0, none⟩ x).setCell ⟨w.heap.size + 1, 1, none⟩ y).cell? ⟨w.heap.size, 1, none⟩ = some (.slice a n cap) := by
  obtain ⟨h1, h2, h3, h4⟩ := h
  refine ⟨(h1.setCell (by simp) _).setCell (by simp) _, by simpa [World.setCell] using h2, ?_, ?_⟩
  · simp [go_sem, h3]
  · simp [go_sem, h4]

set_option maxRecDepth 100000 in
set_option maxHeartbeats 4000000 in
theorem local_calls (xp most : Int) (v : Value) (n : Nat) (w : World) (h0 : 0 ≤ xp) (h1 : xp ≤ 255) (hm : 1 ≤ most) (hm' : most ≤ 8) (hv : Hid (Prts w v n)) (hn : n ≤ 20) :
    Calls Tryd.prog 5 #[.agg #[.int .u8 xp, v], .int .i64 most] w (LocalPost w (oddPr xp) most) := by
  have hc29 := Lib.hid (fun W => oddPrime_calls xp W h0 h1)
  generalize oddPr xp = p at hc29 ⊢
  have hc53 := Lib.hid (fun (W : World) (hW : Below w.heap.size w W) => list_form xp most v n W hm hm' (hv.out.below hW (Nat.le_refl _)) hn)
  obtain ⟨a, cap, rfl, -⟩ := hv.out
  clear hv
  go_enter Tryd.func5, Tryd.ntmps5
  go_wp2
  go_region_held3 (fun w' => Below w.heap.size w w' ∧ w.heap.size + 1 < w'.heap.size ∧ w'.cell? ⟨w.heap.size, 0, none⟩ = some (.int .u8 xp) ∧ w'.cell? ⟨w.heap.size, 1, none⟩ = some (.slice a n cap))
    (first
      | exact startS rfl
      | exact keepS (by assumption) hb1
      | exact storeS (by assumption))
    (first
      | (go_at_call 13; refine (hc29.out _).mono ?_; rintro e w1 ⟨rfl, hb1⟩; have hres := Lib.hid (resS hb1))
      | (go_at_call 14; have hlt := ltS xp a n cap (by assumption); refine (hc53.out _ ?_).mono ?_; (exact belS xp a n cap (by assumption)); rintro e w2 ⟨av, nv, cv, l, rfl, hL, hb1⟩; obtain ⟨e0, e1, f0, f1⟩ := resT hlt hres.out hb1))
  go_wp2
  refine bodyPost_ret (v := .agg #[.int .i64 p, .slice av nv cv]) (by simp [results, Tryd.results5, go_sem, e0, e1]) rfl ⟨_, l, rfl, ⟨?_, ?_, hL.out.ok, hL.out.ne, hL.out.sum, hL.out.top⟩, ?_⟩
  · refine (hL.out.lst.setCell (fun k hk => ?_) _).setCell (fun k hk => ?_) _
    · have := hL.out.far k hk
      show k ≠ w.heap.size + 1
      omega
    · have := hL.out.far k hk
      show k ≠ w.heap.size + 1
      omega
  · intro k hk
    have := hL.out.far k hk
    omega
  · exact And.left (by assumption)
end Go.Proofs.YtejmmglffmckeaaDoor.Q
