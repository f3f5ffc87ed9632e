/- SymbolScale returns true. -/
import Derived.Test.YtejmmglffmckeaaGreatDoorS6
namespace Go.Proofs.YtejmmglffmckeaaGreatDoor.Q
open Go.RowKit

/-- A block of two cells. -/
structure Box (w : World) (b : Nat) (x y : Value) : Prop where
  c0 : w.cell? ⟨b, 0, none⟩ = some x
  c1 : w.cell? ⟨b, 1, none⟩ = some y
theorem Box.below {w w' : World} {b n : Nat} {x y : Value} (h : Box w b x y) (hb : Below n w w') (hl : b < n) : Box w' b x y :=
  ⟨(hb.cell (p := ⟨b, 0, none⟩) hl).trans h.c0, (hb.cell (p := ⟨b, 1, none⟩) hl).trans h.c1⟩
theorem Box.new (w : World) (x y : Value) (t : TypeId) : Box (w.alloc (.cells #[x, y] t)) w.heap.size x y := ⟨by simp [go_sem], by simp [go_sem]⟩
theorem Box.lt {w : World} {b : Nat} {x y : Value} (h : Box w b x y) : b < w.heap.size := by
  rcases Nat.lt_or_ge b w.heap.size with hl | hl
  · exact hl
  · have := h.c0
    unfold World.cell? at this
    rw [Array.getElem?_eq_none hl] at this
    simp at this
theorem Box.alloc {w : World} {b : Nat} {x y : Value} (h : Box w b x y) (o : Obj) : Box (w.alloc o) b x y := h.below ((Below.refl w.heap.size w).alloc (Nat.le_refl _) o) h.lt
theorem Box.later {w w' : World} {b : Nat} {x y : Value} (h : Box w b x y) (hb : Below w.heap.size w w') : Box w' b x y := h.below hb h.lt
theorem Lst.later {w w' : World} {v : Value} {l : List Con} (h : Lst w v l) (hb : Below w.heap.size w w') : Lst w' v l := h.below hb (Nat.le_refl _)
theorem Lst.made {w : World} {v : Value} {l : List Con} (h : Lst w v l) (o : Obj) : Lst (w.alloc o) v l := h.below ((Below.refl w.heap.size w).alloc (Nat.le_refl _) o) (Nat.le_refl _)
theorem scS_len (p : Int) (l : List Con) (K : Int) : (scS p l K).2.1.length ≤ l.length := by unfold scS; split <;> (try split) <;> simp
theorem duS_len (p : Int) (l : List Con) (K : Int) : (duS p l K).2.1.length ≤ l.length := by unfold duS; split <;> (try split) <;> simp
/-- A chain of worlds, each grown out of the first. -/
theorem Below.next {a w w' : World} (h : Below a.heap.size a w) (hb : Below w.heap.size w w') : Below a.heap.size a w' := h.trans (hb.mono h.size)
theorem Below.made {a w : World} (h : Below a.heap.size a w) (o : Obj) : Below a.heap.size a (w.alloc o) := h.alloc h.size o

/-- long, or too many parts: awake alone. -/
theorem scale_long (p q K : Int) (a a' : Option Addr) (n c n' c' : Nat) (made small : Bool) (w : World) (hw : Hid (Offs w)) (hn : n ≤ 9223372036854775807) (hn' : n' ≤ 9223372036854775807) (h : 20 < n ∨ 20 < n') :
    Calls Tryz.prog 7 #[.agg #[.int .i64 p, .slice a n c], .agg #[.int .u8 q, .slice a' n' c'], .int .i64 K, .bool made, .bool small] w fun e w' => e = .returned (.bool true) ∧ Below w.heap.size w w' := by
  have haw := Lib.hid (fun (W : World) (hW : Below w.heap.size w W) => awake_ok W (hw.out.below hW hw.out.pos))
  by_cases h1 : 20 < n
  · have hlo := Lib.hid (fun W => long_calls p a n c W hn true (decide_eq_true h1))
    go_enter Tryz.func7, Tryz.ntmps7
    go_wp2_with (first
      | (go_at_call 14; refine (hlo.out _).mono ?_; rintro e w1 ⟨rfl, hb1⟩; have hb2 := ((((Below.refl w.heap.size w).alloc (Nat.le_refl _) _).alloc (by simp) _)).trans (hb1.mono (by simp; omega)); clear hb1)
      | (go_at_call 15; refine (haw.out _ ?_).mono ?_; (exact hb2); rintro e w2 ⟨rfl, hb3⟩))
    go_ret
    exact ⟨rfl, hb2.trans (hb3.mono hb2.size)⟩
  · have h2 : 20 < n' := by omega
    have hlo := Lib.hid (fun W => long_calls p a n c W hn false (decide_eq_false h1))
    go_enter Tryz.func7, Tryz.ntmps7
    go_wp2_with (first
      | (go_at_call 14; refine (hlo.out _).mono ?_; rintro e w1 ⟨rfl, hb1⟩; obtain ⟨hc1, hf1⟩ := bcell hb1; have hb2 := ((((Below.refl w.heap.size w).alloc (Nat.le_refl _) _).alloc (by simp) _)).trans (hb1.mono (by simp; omega)); clear hb1)
      | (go_at_call 15; refine (haw.out _ ?_).mono ?_; (exact hb2); rintro e w2 ⟨rfl, hb3⟩))
    go_ret
    exact ⟨rfl, hb2.trans (hb3.mono hb2.size)⟩

set_option maxRecDepth 100000 in
set_option maxHeartbeats 4000000 in
theorem scale_short (p q K : Int) (a a' : Option Addr) (n c n' c' : Nat) (made small : Bool) (l : List Con) (w : World) (hw : Hid (Offs w)) (h0 : 0 ≤ q) (h1 : q ≤ 255) (hl : Hid (Lst w (.slice a n c) l)) (hn : n ≤ 20) (hv : Hid (Prts w (.slice a' n' c') n')) (hn' : n' ≤ 20) :
    Calls Tryz.prog 7 #[.agg #[.int .i64 p, .slice a n c], .agg #[.int .u8 q, .slice a' n' c'], .int .i64 K, .bool made, .bool small] w fun e w' => e = .returned (.bool true) ∧ Below w.heap.size w w' := by
  have haw := Lib.hid (fun (W : World) (hW : Below w.heap.size w W) => awake_ok W (hw.out.below hW hw.out.pos))
  have hlo := Lib.hid (fun W => long_calls p a n c W (by omega) false (decide_eq_false (by omega)))
  have hei := Lib.hid (fun (W : World) (hW : Below w.heap.size w W) => either_calls p q a a' n c n' c' made l W h0 h1 (hl.out.below hW (Nat.le_refl _)) hn (hv.out.below hW (Nat.le_refl _)) hn')
  clear hl hv
  cases small
  all_goals
    go_enter Tryz.func7, Tryz.ntmps7
    go_wp2_with (go_at_call 14; refine (hlo.out _).mono ?_; rintro e w1 ⟨rfl, hb1⟩; obtain ⟨hc1, hf1⟩ := bcell hb1; have hz1 := hb1.size; simp at hz1; have hb2 := ((((Below.refl w.heap.size w).alloc (Nat.le_refl _) _).alloc (by simp) _)).trans (hb1.mono (by simp; omega)); clear hb1)
    refine (hei.out _ hb2).mono ?_
    rintro e w2 ⟨P, av, nv, cv, L, rfl, hL, hb3⟩
    have hz3 := hb3.size
    have hb4 : Below w.heap.size w w2 := Below.next hb2 hb3
    clear hei hlo hc1 hf1 hz1
    have hof := Lib.hid (fun (W : World) (h : Below w2.heap.size w2 W) => (Below.next hb4 h : Below w.heap.size w W))
    have hsc := Lib.hid (fun (W : World) (J : Int) (h : Below w2.heap.size w2 W) => scale_calls P J L (.slice av nv cv) W (hw.out.below (hof.out W h) hw.out.pos) (hL.out.1.below h (Nat.le_refl _)) hL.out.2)
    have hrs := Lib.hid (fun (W : World) (J : Int) (h : Below w2.heap.size w2 W) => rscale_calls P J L (.slice av nv cv) W (hL.out.1.below h (Nat.le_refl _)) hL.out.2)
    have hdu := Lib.hid (fun (W : World) (J : Int) (h : Below w2.heap.size w2 W) => dual_calls P J L (.slice av nv cv) W (hw.out.below (hof.out W h) hw.out.pos) (hL.out.1.below h (Nat.le_refl _)) hL.out.2)
    have hrd := Lib.hid (fun (W : World) (J : Int) (h : Below w2.heap.size w2 W) => rdual_calls P J L (.slice av nv cv) W (hL.out.1.below h (Nat.le_refl _)) hL.out.2)
    clear hb2 hb3 hz3
    have hB2 := Below.refl w2.heap.size w2
    have hlen := Lib.hid (fun J => And.intro (Nat.le_trans (scS_len P L J) hL.out.2) (Nat.le_trans (duS_len P L J) hL.out.2))
    go_wp2_with (first
      | (go_at_call 34; refine (hsc.out _ _ ?_).mono ?_; (exact Below.made hB2 _); rintro e w3 ⟨a3, n3, c3, rfl, hL3, hb3⟩; have hB3 := Below.next (Below.made hB2 _) hb3; have x11 := (Box.new w2 _ _ _).later hb3; have hl3 := x11.lt; obtain ⟨q30, q31⟩ := x11; have HL3 := Lib.hid hL3; clear hL3 hb3)
      | (go_at_call 35; refine (hrs.out _ _ ?_).mono ?_; (exact Below.made hB3 _); rintro e w4 ⟨a4, n4, c4, rfl, hL4, hb4⟩; have hB4 := Below.next (Below.made hB3 _) hb4; have x11 := ((Box.mk q30 q31).alloc _).later hb4; have hl4 := x11.lt; have X12 := Lib.hid ((Box.new w3 _ _ _).later hb4); obtain ⟨q40, q41⟩ := x11; have HL3 := Lib.hid ((HL3.out.made _).later hb4); have HL4 := Lib.hid hL4; clear hL4 hb4 q30 q31)
      | (go_at_call 36; refine (hdu.out _ _ ?_).mono ?_; (exact Below.made hB4 _); rintro e w5 ⟨a5, n5, c5, rfl, hL5, hb5⟩; have hB5 := Below.next (Below.made hB4 _) hb5; have x11 := ((Box.mk q40 q41).alloc _).later hb5; have hl5 := x11.lt; have X12 := Lib.hid ((X12.out.alloc _).later hb5); have X14 := Lib.hid ((Box.new w4 _ _ _).later hb5); obtain ⟨q50, q51⟩ := x11; have HL3 := Lib.hid ((HL3.out.made _).later hb5); have HL4 := Lib.hid ((HL4.out.made _).later hb5); have HL5 := Lib.hid hL5; clear hL5 hb5 q40 q41)
      | (go_at_call 37; refine (hrd.out _ _ ?_).mono ?_; (exact Below.made hB5 _); rintro e w6 ⟨a6, n6, c6, rfl, hL6, hb6⟩; have hB6 := Below.next (Below.made hB5 _) hb6; have x12 := (X12.out.alloc _).later hb6; have x14 := (X14.out.alloc _).later hb6; have X16 := Lib.hid ((Box.new w5 _ _ _).later hb6); have l12 := x12.lt; have l14 := x14.lt; obtain ⟨q60, q61⟩ := x12; obtain ⟨q62, q63⟩ := x14; have HL3 := Lib.hid ((HL3.out.made _).later hb6); have HL4 := Lib.hid ((HL4.out.made _).later hb6); have HL5 := Lib.hid ((HL5.out.made _).later hb6); have HL6 := Lib.hid hL6; clear hL6 hb6 q50 q51 X12 X14)
      | (go_at_call 27; ((with_reducible refine (same_calls _ _ a3 a4 n3 n4 c3 c4 _ (Lib.hid (HL3.out.made _)) (Lib.hid (HL4.out.made _)) (Lib.hid (hlen.out _).1)).mono ?_); rintro e w7 ⟨rfl, hb7⟩; have hB7 := Below.next (Below.made hB6 _) hb7; have x16 := (X16.out.alloc _).later hb7; have x18 := (Box.new w6 _ _ _).later hb7; have l16 := x16.lt; have l18 := x18.lt; obtain ⟨q70, q71⟩ := x16; obtain ⟨q72, q73⟩ := x18; have HL5 := Lib.hid ((HL5.out.made _).later hb7); have HL6 := Lib.hid ((HL6.out.made _).later hb7); clear hb7 q60 q61 q62 q63 X16))
      | (go_at_call 27; ((with_reducible refine (same_calls _ _ a5 a6 n5 n6 c5 c6 _ HL5 HL6 (Lib.hid (hlen.out _).2)).mono ?_); rintro e w8 ⟨rfl, hb8⟩; have hB8 := Below.next hB7 hb8; clear hb8))
      | (go_at_call 15; refine (haw.out _ ?_).mono ?_; (exact hof.out _ hB8); rintro e w9 ⟨rfl, hb9⟩))
    go_ret
    exact ⟨rfl, Below.next (hof.out _ hB8) hb9⟩
end Go.Proofs.YtejmmglffmckeaaGreatDoor.Q
namespace Go.Proofs.YtejmmglffmckeaaGreatDoor.Q
open Go.RowKit
theorem scale_law (p q K : Int) (a a' : Option Addr) (n c n' c' : Nat) (made small : Bool) (l : List Con) (w : World) (hw : Offs w) (h0 : 0 ≤ q) (h1 : q ≤ 255) (hl : Lst w (.slice a n c) l) (hn : n ≤ maxLen) (hv : Prts w (.slice a' n' c') n') (hn' : n' ≤ maxLen) :
    Calls Tryz.prog 7 #[.agg #[.int .i64 p, .slice a n c], .agg #[.int .u8 q, .slice a' n' c'], .int .i64 K, .bool made, .bool small] w fun e w' => e = .returned (.bool true) ∧ Below w.heap.size w w' := by
  unfold maxLen at hn hn'
  by_cases h : 20 < n ∨ 20 < n'
  · exact scale_long p q K a a' n c n' c' made small w hw hn hn' h
  · exact scale_short p q K a a' n c n' c' made small l w hw h0 h1 hl (by omega) hv (by omega)
end Go.Proofs.YtejmmglffmckeaaGreatDoor.Q
