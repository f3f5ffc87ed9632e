/- SymbolExcess returns true. -/
import Derived.Test.YtejmmglffmckeaaDoorX2
import Derived.Test.YtejmmglffmckeaaDoorAwake
namespace Go.Proofs.YtejmmglffmckeaaDoor.Q
open Go.RowKit

theorem awake_ok (w : World) (h : Offs w) : Calls Tryd.prog 4 #[] w fun e w' => e = .returned (.bool true) ∧ Below w.heap.size w w' := awake_calls w h

theorem excess_true (p : Int) (a : Option Addr) (n c : Nat) (l : List Con) (w : World) (hw : Offs w) (hl : Lst w (.slice a n c) l) (hn : l.length ≤ 1000) (hv : vS p l = true) :
    Calls Tryd.prog 11 #[.agg #[.int .i64 p, .slice a n c]] w fun e w' => e = .returned (.tuple #[.int .i64 (ex1 p l % 8), .int .i64 0]) ∧ Below w.heap.size w w' := by
  obtain ⟨h1, h2, h3, h4, h5⟩ := vS_parts hv
  have hlen := hl.len
  rcases hl with ⟨e, _⟩ | ⟨_, b, o, cap, e, hb, hcp, hc⟩
  · exact absurd e h4
  · cases e
    have h0 : 0 < l.length := by cases l; exact absurd rfl h4; simp
    refine excess_cons p l l.length b o c w hw rfl h0 hn hb hcp hc h1 h2 (isP_odd h3 h1) (vL_good (by omega) (by omega) h5) (fun W hW hL => ?_)
    refine (valid_calls p l _ W hW hL hn).mono ?_
    rintro e w' ⟨rfl, hb⟩
    exact ⟨ret_bool hv, hb⟩
theorem excess_false (p : Int) (a : Option Addr) (n c : Nat) (l : List Con) (w : World) (hw : Offs w) (hl : Lst w (.slice a n c) l) (hn : l.length ≤ 1000) (hv : vS p l = false) :
    Calls Tryd.prog 11 #[.agg #[.int .i64 p, .slice a n c]] w fun e w' => e = .returned (.tuple #[.int .i64 0, .int .i64 22]) ∧ Below w.heap.size w w' := by
  refine excess_no p _ w (fun u => ?_)
  refine (valid_calls p l _ _ (hw.alloc _) (hl.below ((Below.refl _ _).alloc (Nat.le_refl _) _) (Nat.le_refl _)) hn).mono ?_
  rintro e w' ⟨rfl, hb⟩
  exact ⟨ret_bool hv, hb⟩
end Go.Proofs.YtejmmglffmckeaaDoor.Q
