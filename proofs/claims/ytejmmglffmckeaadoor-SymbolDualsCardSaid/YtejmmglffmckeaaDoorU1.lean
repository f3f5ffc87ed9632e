/- SymbolDuals returns true. -/
import Derived.Test.YtejmmglffmckeaaDoorU0
import Derived.Test.YtejmmglffmckeaaDoorS1
namespace Go.Proofs.YtejmmglffmckeaaDoor.Q
open Go.RowKit

theorem duals_long (q k : Int) (a : Option Addr) (n c : Nat) (w : World) (hw : Hid (Offs w)) (hn : n ≤ 9223372036854775807) (h : 20 < n) :
    Calls Tryd.prog 3 #[.agg #[.int .u8 q, .slice a n c], .int .u8 k] w fun e w' => e = .returned (.bool true) ∧ Below w.heap.size w w' := by
  have haw := Lib.hid (fun (W : World) (hW : Below w.heap.size w W) => awake_ok W (hw.out.below hW hw.out.pos))
  go_enter Tryd.func3, Tryd.ntmps3
  go_wp2_with (go_at_call 4; refine (haw.out _ ?_).mono ?_; (exact Below.made (Below.refl _ _) _); rintro e w2 ⟨rfl, hb3⟩)
  go_ret
  exact ⟨rfl, Below.next (Below.made (Below.refl _ _) _) hb3⟩

set_option maxRecDepth 100000 in
set_option maxHeartbeats 4000000 in
theorem duals_short (q k : Int) (a' : Option Addr) (n' c' : Nat) (w : World) (hw : Hid (Offs w)) (h0 : 0 ≤ q) (h1 : q ≤ 255) (k0 : 0 ≤ k) (k1 : k ≤ 255) (hv : Hid (Prts w (.slice a' n' c') n')) (hn' : n' ≤ 20) :
    Calls Tryd.prog 3 #[.agg #[.int .u8 q, .slice a' n' c'], .int .u8 k] w fun e w' => e = .returned (.bool true) ∧ Below w.heap.size w w' := by
  have haw := Lib.hid (fun (W : World) (hW : Below w.heap.size w W) => awake_ok W (hw.out.below hW hw.out.pos))
  have hlc := Lib.hid (fun (W : World) (hW : Below w.heap.size w W) => local_form q 8 (.slice a' n' c') n' W h0 h1 (by omega) (by omega) (hv.out.below hW (Nat.le_refl _)) hn')
  clear hv
  have hvp := Lib.hid (fun (l : List Con) (h1 : vL l 0 (-1) = true) (h2 : l ≠ []) => oddPr_vS q h1 h2)
  generalize oddPr q = P at hlc hvp
  go_enter Tryd.func3, Tryd.ntmps3
  go_wp2_with fail
  refine (hlc.out _ (Below.made (Below.refl _ _) _)).mono ?_
  rintro e w2 ⟨av, nv, cv, L, rfl, hL, hb2⟩
  have hb4 : Below w.heap.size w w2 := Below.next (Below.made (Below.refl _ _) _) hb2
  clear hlc hb2
  have hvs := Lib.hid (hvp.out L hL.out.ok hL.out.ne)
  clear hvp
  have hof := Lib.hid (fun (W : World) (h : Below w2.heap.size w2 W) => (Below.next hb4 h : Below w.heap.size w W))
  have J0 : 0 ≤ k % 30 := by omega
  have J1 : k % 30 ≤ 29 := by omega
  have hll := Lib.hid (show L.length ≤ 1000 by have := vL_len (by omega) hL.out.ok; omega)
  have hof' := Lib.hid (fun (W : World) (h : Below w2.heap.size w2 W) => hw.out.below (hof.out W h) hw.out.pos)
  obtain ⟨x1, x2, x3⟩ := top_le hvs.out hL.out.top
  have hd1 := Lib.hid (fun (W : World) (h : Below w2.heap.size w2 W) => by
    have := dual_calls P (lastE L + k % 30) L (.slice av nv cv) W (hof'.out W h) (hL.out.lst.below h (Nat.le_refl _)) hll.out
    rw [dual1 hvs.out hL.out.top J0 J1] at this
    exact this)
  have hd2 := Lib.hid (fun (W : World) (h : Below w2.heap.size w2 W) (a : Option Addr) (n c : Nat) (hl : Lst W (.slice a n c) (L.reverse.map (turn (lastE L + k % 30)))) => by
    have := dual_calls P (lastE L + k % 30) _ (.slice a n c) W (hof'.out W h) hl (by simpa using hll.out)
    rw [dual2 hvs.out hL.out.top J0 J1] at this
    exact this)
  have hs1 := Lib.hid (fun (W : World) (h : Below w2.heap.size w2 W) => by
    have := scale_calls P (k % 30) L (.slice av nv cv) W (hof'.out W h) (hL.out.lst.below h (Nat.le_refl _)) hll.out
    rw [scale1 hvs.out hL.out.top J0 J1] at this
    exact this)
  have hs2 := Lib.hid (fun (W : World) (h : Below w2.heap.size w2 W) (a : Option Addr) (n c : Nat) (hl : Lst W (.slice a n c) (L.map (shift (k % 30)))) => by
    have := scale_calls P (-(k % 30)) _ (.slice a n c) W (hof'.out W h) hl (by simpa using hll.out)
    rw [scale2 hvs.out hL.out.top J0 J1] at this
    exact this)
  obtain ⟨cn, r0, r1⟩ := last_at hL.out.ne
  generalize hT : lastE L = T at *
  have hT' := Lib.hid hT
  clear hT
  have hLst := Lib.hid hL.out.lst
  rcases hL.out.lst with ⟨e, _⟩ | ⟨_, b, o, cap, e, hb, hcp, hc⟩
  · exact absurd e hL.out.ne
  cases e
  have hpos : 0 < L.length := by have := hL.out.ne; cases L; exact absurd rfl this; simp
  have hlast : Hid (∀ W, Below w2.heap.size w2 W → W.cell? ⟨b, o + (L.length - 1) * 5, none⟩ = some (.int .i64 T)) := fun W h => by
    have := ((hc _ cn r0).below h hb).c0
    rw [r1] at this
    exact this
  have hn1 := hll.out
  generalize hLL : L.length = n at *
  have hLL' := Lib.hid hLL
  clear hLL hc r0 r1 hL hvs hll hof'
  have hixl := ix_last (b := b) (o := o) (cap := cv) hpos
  have hq0 := hlast.out (w2.alloc (.cells #[.int .i64 P, .slice (some ⟨b, o, none⟩) n cv] 28)) (Below.made (Below.refl _ _) _)
  have hB2 := Below.refl w2.heap.size w2
  go_wp2_with (first
    | (go_at_call 6; ((with_reducible refine (hd1.out _ (Below.made hB2 _)).mono ?_); rintro e w3 ⟨a3, n3, c3, rfl, hL3, hb3⟩; have hB3 := Below.next (Below.made hB2 _) hb3; have X5 := Lib.hid ((Box.new w2 _ _ _).later hb3); have l5 := X5.out.lt; have HL3 := Lib.hid hL3; clear hL3 hb3 hq0 hd1))
    | (go_at_call 6; ((with_reducible refine (hd2.out _ (Below.made hB3 _) _ _ _ (HL3.out.made _)).mono ?_); rintro e w4 ⟨a4, n4, c4, rfl, hL4, hb4⟩; have hB4 := Below.next (Below.made hB3 _) hb4; have x5 := (X5.out.alloc _).later hb4; have X5 := Lib.hid x5; obtain ⟨q40, q41⟩ := x5; have l5' := X5.out.lt; have HL4 := Lib.hid hL4; clear hL4 hb4))
    | (go_at_call 7; ((with_reducible refine (hs1.out _ (Below.made hB4 _)).mono ?_); rintro e w5 ⟨a5, n5, c5, rfl, hL5, hb5⟩; have hB5 := Below.next (Below.made hB4 _) hb5; have X5 := Lib.hid ((X5.out.alloc _).later hb5); have X9 := Lib.hid ((Box.new w4 _ _ _).later hb5); have HL4 := Lib.hid ((HL4.out.made _).later hb5); have HL5 := Lib.hid hL5; clear hL5 hb5 q40 q41 hs1))
    | (go_at_call 7; ((with_reducible refine (hs2.out _ (Below.made hB5 _) _ _ _ (HL5.out.made _)).mono ?_); rintro e w6 ⟨a6, n6, c6, rfl, hL6, hb6⟩; have hB6 := Below.next (Below.made hB5 _) hb6; have x5 := (X5.out.alloc _).later hb6; have X5 := Lib.hid x5; have x9 := (X9.out.alloc _).later hb6; have l50 := x5.lt; have l90 := x9.lt; obtain ⟨q60, q61⟩ := x5; obtain ⟨q62, q63⟩ := x9; have HL4 := Lib.hid ((HL4.out.made _).later hb6); have HL6 := Lib.hid hL6; clear hL6 hb6))
    | (go_at_call 8; ((with_reducible refine (same_calls _ L a4 _ n4 _ c4 _ _ (Lib.hid (HL4.out.made _)) (Lib.hid (hLst.out.below (Below.made hB6 _) (Nat.le_refl _))) (Lib.hid (by rw [hLL'.out]; exact hn1))).mono ?_); rintro e w7 ⟨rfl, hb7⟩; have hB7 := Below.next (Below.made hB6 _) hb7; have x5 := (X5.out.alloc _).later hb7; have x13 := (Box.new w6 _ _ _).later hb7; obtain ⟨q70, q71⟩ := x5; obtain ⟨q72, q73⟩ := x13; have HL6 := Lib.hid ((HL6.out.made _).later hb7); clear hb7 q60 q61 q62 q63))
    | (go_at_call 8; ((with_reducible refine (same_calls _ L a6 _ n6 _ c6 _ _ HL6 (Lib.hid (hLst.out.below hB7 (Nat.le_refl _))) (Lib.hid (by rw [hLL'.out]; exact hn1))).mono ?_); rintro e w8 ⟨rfl, hb8⟩; have hB8 := Below.next hB7 hb8; clear hb8))
    | (go_at_call 4; refine (haw.out _ ?_).mono ?_; (exact hof.out _ hB8); rintro e w9 ⟨rfl, hb9⟩))
  go_ret
  exact ⟨rfl, Below.next (hof.out _ hB8) hb9⟩
end Go.Proofs.YtejmmglffmckeaaDoor.Q
namespace Go.Proofs.YtejmmglffmckeaaDoor.Q
open Go.RowKit
theorem duals_law (q k : Int) (a' : Option Addr) (n' c' : Nat) (w : World) (hw : Offs w) (h0 : 0 ≤ q) (h1 : q ≤ 255) (hk : (Lit.int .u8 k).wf = true) (hv : Prts w (.slice a' n' c') n') (hn' : n' ≤ maxLen) :
    Calls Tryd.prog 3 #[.agg #[.int .u8 q, .slice a' n' c'], .int .u8 k] w fun e w' => e = .returned (.bool true) ∧ Below w.heap.size w w' := by
  simp only [Lit.wf, Bool.and_eq_true, decide_eq_true_eq] at hk
  have k0 : 0 ≤ k := hk.1
  have k1 : k ≤ 255 := hk.2
  unfold maxLen at hn'
  by_cases h : 20 < n'
  · exact duals_long q k a' n' c' w hw hn' h
  · exact duals_short q k a' n' c' w hw h0 h1 k0 k1 hv (by omega)
end Go.Proofs.YtejmmglffmckeaaDoor.Q
