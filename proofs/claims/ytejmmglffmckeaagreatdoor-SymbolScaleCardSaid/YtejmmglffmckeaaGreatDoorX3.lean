/- SymbolExcess returns true. -/
import Derived.Test.YtejmmglffmckeaaGreatDoorX2
import Derived.Test.YtejmmglffmckeaaGreatDoorAwake
namespace Go.Proofs.YtejmmglffmckeaaGreatDoor.Q
open Go.RowKit

theorem awake_ok (w : World) (h : Offs w) : Calls Tryz.prog 15 #[] w fun e w' => e = .returned (.bool true) ∧ Below w.heap.size w w' := awake_calls w h

theorem excess_true (p : Int) (a : Option Addr) (n c : Nat) (l : List Con) (w : World) (hw : Offs w) (hl : Lst w (.slice a n c) l) (hn : l.length ≤ 1000) (hv : vS p l = true) :
    Calls Tryz.prog 32 #[.agg #[.int .i64 p, .slice a n c]] w fun e w' => e = .returned (.tuple #[.int .i64 (ex1 p l % 8), .int .i64 0]) ∧ Below w.heap.size w w' := by
  obtain ⟨h1, h2, h3, h4, h5⟩ := vS_parts hv
  have hlen := hl.len
  rcases hl with ⟨e, _⟩ | ⟨_, b, o, cap, e, hb, hc⟩
  · exact absurd e h4
  · cases e
    have h0 : 0 < l.length := by cases l; exact absurd rfl h4; simp
    refine excess_cons p l l.length b o c w hw rfl h0 hn hb hc h1 h2 (isP_odd h3 h1) (vL_good (by omega) (by omega) h5) (fun W hW hL => ?_)
    refine (valid_calls p l _ W hW hL hn).mono ?_
    rintro e w' ⟨rfl, hb⟩
    exact ⟨ret_bool hv, hb⟩
theorem excess_false (p : Int) (a : Option Addr) (n c : Nat) (l : List Con) (w : World) (hw : Offs w) (hl : Lst w (.slice a n c) l) (hn : l.length ≤ 1000) (hv : vS p l = false) :
    Calls Tryz.prog 32 #[.agg #[.int .i64 p, .slice a n c]] w fun e w' => e = .returned (.tuple #[.int .i64 0, .int .i64 22]) ∧ Below w.heap.size w w' := by
  refine excess_no p _ w (fun u => ?_)
  refine (valid_calls p l _ _ (hw.alloc _) (hl.below ((Below.refl _ _).alloc (Nat.le_refl _) _) (Nat.le_refl _)) hn).mono ?_
  rintro e w' ⟨rfl, hb⟩
  exact ⟨ret_bool hv, hb⟩
theorem rexcess_true (p : Int) (a : Option Addr) (n c : Nat) (l : List Con) (w : World) (hl : Lst w (.slice a n c) l) (hn : l.length ≤ 1000) (hv : vS p l = true) :
    Calls Tryz.prog 33 #[.agg #[.int .i64 p, .slice a n c]] w fun e w' => e = .returned (.int .i64 (ex1 p l % 8)) ∧ Below w.heap.size w w' := by
  obtain ⟨h1, h2, h3, h4, h5⟩ := vS_parts hv
  rcases hl with ⟨e, _⟩ | ⟨_, b, o, cap, e, hb, hc⟩
  · exact absurd e h4
  · cases e
    have h0 : 0 < l.length := by cases l; exact absurd rfl h4; simp
    rw [ex_same]
    exact rexcess_cons p l l.length b o c w rfl h0 hn hb hc h1 h2 (vL_good (by omega) (by omega) h5)

/-- What either returns, in one form. -/
theorem either_calls (p q : Int) (a a' : Option Addr) (n c n' c' : Nat) (made : Bool) (l : List Con) (w : World) (h0 : 0 ≤ q) (h1 : q ≤ 255) (hl : Lst w (.slice a n c) l) (hn : n ≤ 20) (hv : Prts w (.slice a' n' c') n') (hn' : n' ≤ 20) :
    Calls Tryz.prog 31 #[.agg #[.int .i64 p, .slice a n c], .agg #[.int .u8 q, .slice a' n' c'], .bool made] w fun e w' => ∃ P av nv cv L, e = .returned (.agg #[.int .i64 P, .slice av nv cv]) ∧ Hid (Lst w' (.slice av nv cv) L ∧ L.length ≤ 1000) ∧ Below w.heap.size w w' := by
  cases made
  · refine (either_own p q a a' n c n' c' w).mono ?_
    rintro e w' ⟨rfl, hb⟩
    exact ⟨p, a, n, c, l, rfl, ⟨hl.below hb (Nat.le_refl _), by have := hl.len; omega⟩, hb⟩
  · refine (either_made p q a a' n c n' c' w h0 h1 hv hn').mono ?_
    rintro e w' ⟨av, nv, cv, L, rfl, hL, hb⟩
    exact ⟨oddPr q, av, nv, cv, L, rfl, ⟨hL.out.lst, by have := vL_len (by omega) hL.out.ok; omega⟩, hb⟩

set_option maxRecDepth 100000 in
set_option maxHeartbeats 4000000 in
theorem law_long (p q : Int) (a a' : Option Addr) (n c n' c' : Nat) (made : Bool) (w : World) (hw : Hid (Offs w)) (hn : n ≤ 9223372036854775807) (hn' : n' ≤ 9223372036854775807) (h : 20 < n ∨ 20 < n') :
    Calls Tryz.prog 6 #[.agg #[.int .i64 p, .slice a n c], .agg #[.int .u8 q, .slice a' n' c'], .bool made] w fun e w' => e = .returned (.bool true) ∧ Below w.heap.size w w' := by
  have haw := Lib.hid (fun (W : World) (hW : Below w.heap.size w W) => awake_ok W (hw.out.below hW hw.out.pos))
  by_cases h1 : 20 < n
  · have hlo := Lib.hid (fun W => long_calls p a n c W hn true (decide_eq_true h1))
    go_enter Tryz.func6, Tryz.ntmps6
    go_wp2_with (first
      | (go_at_call 14; refine (hlo.out _).mono ?_; rintro e w1 ⟨rfl, hb1⟩; have hb2 := ((((Below.refl w.heap.size w).alloc (Nat.le_refl _) _).alloc (by simp) _)).trans (hb1.mono (by simp; omega)); clear hb1)
      | (go_at_call 15; refine (haw.out _ ?_).mono ?_; (exact hb2); rintro e w2 ⟨rfl, hb3⟩))
    go_ret
    exact ⟨rfl, hb2.trans (hb3.mono hb2.size)⟩
  · have h2 : 20 < n' := by omega
    have hlo := Lib.hid (fun W => long_calls p a n c W hn false (decide_eq_false h1))
    go_enter Tryz.func6, Tryz.ntmps6
    go_wp2_with (first
      | (go_at_call 14; refine (hlo.out _).mono ?_; rintro e w1 ⟨rfl, hb1⟩; obtain ⟨hc1, hf1⟩ := bcell hb1; have hb2 := ((((Below.refl w.heap.size w).alloc (Nat.le_refl _) _).alloc (by simp) _)).trans (hb1.mono (by simp; omega)); clear hb1)
      | (go_at_call 15; refine (haw.out _ ?_).mono ?_; (exact hb2); rintro e w2 ⟨rfl, hb3⟩))
    go_ret
    exact ⟨rfl, hb2.trans (hb3.mono hb2.size)⟩

set_option maxRecDepth 100000 in
set_option maxHeartbeats 4000000 in
theorem law_short (p q : Int) (a a' : Option Addr) (n c n' c' : Nat) (made : Bool) (l : List Con) (w : World) (hw : Hid (Offs w)) (h0 : 0 ≤ q) (h1 : q ≤ 255) (hl : Hid (Lst w (.slice a n c) l)) (hn : n ≤ 20) (hv : Hid (Prts w (.slice a' n' c') n')) (hn' : n' ≤ 20) :
    Calls Tryz.prog 6 #[.agg #[.int .i64 p, .slice a n c], .agg #[.int .u8 q, .slice a' n' c'], .bool made] w fun e w' => e = .returned (.bool true) ∧ Below w.heap.size w w' := by
  have haw := Lib.hid (fun (W : World) (hW : Below w.heap.size w W) => awake_ok W (hw.out.below hW hw.out.pos))
  have hlo := Lib.hid (fun W => long_calls p a n c W (by omega) false (decide_eq_false (by omega)))
  have hei := Lib.hid (fun (W : World) (hW : Below w.heap.size w W) => either_calls p q a a' n c n' c' made l W h0 h1 (hl.out.below hW (Nat.le_refl _)) hn (hv.out.below hW (Nat.le_refl _)) hn')
  clear hl hv
  go_enter Tryz.func6, Tryz.ntmps6
  go_wp2_with (go_at_call 14; refine (hlo.out _).mono ?_; rintro e w1 ⟨rfl, hb1⟩; obtain ⟨hc1, hf1⟩ := bcell hb1; have hz1 := hb1.size; simp at hz1; have hb2 := ((((Below.refl w.heap.size w).alloc (Nat.le_refl _) _).alloc (by simp) _)).trans (hb1.mono (by simp; omega)); clear hb1)
  refine (hei.out _ hb2).mono ?_
  rintro e w2 ⟨P, av, nv, cv, L, rfl, hL, hb3⟩
  obtain ⟨hc3, hf3⟩ := bcell hb3
  have hz3 := hb3.size
  have hb4 : Below w.heap.size w w2 := hb2.trans (hb3.mono hb2.size)
  clear hei hlo hc1 hf1
  have hof := Lib.hid (fun (W : World) (h : Below w2.heap.size w2 W) => (hb4.trans (h.mono hb4.size) : Below w.heap.size w W))
  cases hvs : vS P L
  · have hex := Lib.hid (fun (W : World) (h : Below w2.heap.size w2 W) => excess_false P av nv cv L W (hw.out.below (hof.out W h) hw.out.pos) (hL.out.1.below h (Nat.le_refl _)) hL.out.2 hvs)
    have hrv := Lib.hid (fun (W : World) (h : Below w2.heap.size w2 W) => (rvalid_calls P L (.slice av nv cv) W (hL.out.1.below h (Nat.le_refl _)) hL.out.2).mono (R' := fun e w' => e = .returned (.bool false) ∧ Below W.heap.size W w') (by rintro e w' ⟨rfl, hb⟩; exact ⟨ret_bool hvs, hb⟩))
    clear hvs hL
    go_wp2_with (first
      | (go_at_call 32; refine (hex.out _ ?_).mono ?_; (exact (Below.refl _ _).alloc (Nat.le_refl _) _); rintro e w3 ⟨rfl, hb5⟩; obtain ⟨hc5, hf5⟩ := bcell hb5; have hz5 := hb5.size; simp at hz5; have hb6 := ((Below.refl w2.heap.size w2).alloc (Nat.le_refl _) _).trans (hb5.mono (by simp)); clear hb5)
      | (go_at_call 19; refine (hrv.out _ ?_).mono ?_; (exact hb6); rintro e w4 ⟨rfl, hb7⟩; have hb8 := hb6.trans (hb7.mono hb6.size); clear hb7)
      | (go_at_call 15; refine (haw.out _ ?_).mono ?_; (exact hof.out _ hb8); rintro e w5 ⟨rfl, hb9⟩))
    go_ret
    exact ⟨rfl, (hof.out _ hb8).trans (hb9.mono (hof.out _ hb8).size)⟩
  · have hex := Lib.hid (fun (W : World) (h : Below w2.heap.size w2 W) => excess_true P av nv cv L W (hw.out.below (hof.out W h) hw.out.pos) (hL.out.1.below h (Nat.le_refl _)) hL.out.2 hvs)
    have hrx := Lib.hid (fun (W : World) (h : Below w2.heap.size w2 W) => rexcess_true P av nv cv L W (hL.out.1.below h (Nat.le_refl _)) hL.out.2 hvs)
    have hrv := Lib.hid (fun (W : World) (h : Below w2.heap.size w2 W) => (rvalid_calls P L (.slice av nv cv) W (hL.out.1.below h (Nat.le_refl _)) hL.out.2).mono (R' := fun e w' => e = .returned (.bool true) ∧ Below W.heap.size W w') (by rintro e w' ⟨rfl, hb⟩; exact ⟨ret_bool hvs, hb⟩))
    clear hvs hL
    generalize ex1 P L % 8 = X at hex hrx
    go_wp2_with (first
      | (go_at_call 32; refine (hex.out _ ?_).mono ?_; (exact (Below.refl _ _).alloc (Nat.le_refl _) _); rintro e w3 ⟨rfl, hb5⟩; obtain ⟨hc5, hf5⟩ := bcell hb5; have hz5 := hb5.size; simp at hz5; have hb6 := ((Below.refl w2.heap.size w2).alloc (Nat.le_refl _) _).trans (hb5.mono (by simp)); clear hb5)
      | (go_at_call 19; refine (hrv.out _ ?_).mono ?_; (exact hb6); rintro e w4 ⟨rfl, hb7⟩; obtain ⟨hc7, hf7⟩ := bcell hb7; have e0 : w4.cell? ⟨w2.heap.size, 0, none⟩ = some (.int .i64 P) := (by rw [hc7 _ _ (by omega), hc5 _ _ (by simp)]; simp [go_sem]); have e1 : w4.cell? ⟨w2.heap.size, 1, none⟩ = some (.slice av nv cv) := (by rw [hc7 _ _ (by omega), hc5 _ _ (by simp)]; simp [go_sem]); have hb8 := hb6.trans (hb7.mono hb6.size); clear hb7)
      | (go_at_call 33; refine (hrx.out _ ?_).mono ?_; (exact hb8); rintro e w5 ⟨rfl, hb9⟩; have hb10 := hb8.trans (hb9.mono hb8.size); clear hb9)
      | (go_at_call 15; refine (haw.out _ ?_).mono ?_; (exact hof.out _ hb10); rintro e w6 ⟨rfl, hb11⟩))
    go_ret
    exact ⟨rfl, (hof.out _ hb10).trans (hb11.mono (hof.out _ hb10).size)⟩
end Go.Proofs.YtejmmglffmckeaaGreatDoor.Q
