/- A part of the proof of TiedSymbolParse: W4, W5, D, W6, W7, W8, W9, YS, YE, KQ, Y4, YZ, FS, SQ, VA, VB, TA, TB, TE, TM, VC, VG, VP, VH0, FT, PT, PU, PS, PV, PM, DM, TX, FR, FV, PN, RX, RY, NB, NC, ND, PO, RZ, NE. -/
import Derived.Test.YtgdhgnhgmbkpdaaGreatDoorPkH2
import Derived.BigQuiet
import Derived.Deep.QuietTactic
import Derived.BigRegion
import Derived.StillTailTactics
import Derived.Laws.AppendOwn
import Derived.OwnWalk
import Derived.WalkSpells
import Derived.Deep.RegionWith
import Derived.Deep.RegionHeld3
import Derived.Test.YtgdhgnhgmbkpdaaGreatDoorPkH1
import Derived.Test.YtgdhgnhgmbkpdaaGreatDoorPkHM3
set_option linter.unusedSimpArgs false
set_option linter.unusedVariables false
set_option maxRecDepth 100000
namespace Go.Proofs.YtgdhgnhgmbkpdaaGreatDoor.Q
open Go.RowKit
noncomputable def oddP (p : Int) : Bool := decide (p ≠ 2 ∧ p ≤ 9973) && isP p
theorem small_calls (p : Int) (w : World) : Calls Tryz.prog 91 #[.int .i64 p] w fun e w' => e = .returned (.bool (decide (p ≤ 9973) && isP p)) ∧ w = w' := by
  by_cases h : p ≤ 9973
  · have HB := Lib.hid (show (decide (p ≤ 9973) && isP p) = isP p by simp [h])
    generalize (decide (p ≤ 9973) && isP p) = r at HB ⊢
    go_enter Tryz.func91, Tryz.ntmps91
    go_wp2_with (go_at_call 134; refine (refIs _ _).mono ?_; rintro e w' ⟨rfl, rfl⟩)
    go_ret
    exact ⟨ret_bool HB.out.symm, rfl⟩
  · have HB := Lib.hid (show (decide (p ≤ 9973) && isP p) = false by simp [h])
    generalize (decide (p ≤ 9973) && isP p) = r at HB ⊢
    go_enter Tryz.func91, Tryz.ntmps91
    go_wp2
    go_ret
    exact ⟨ret_bool HB.out.symm, rfl⟩
theorem odd_calls (p : Int) (w : World) : Calls Tryz.prog 57 #[.int .i64 p] w fun e w' => e = .returned (.bool (oddP p)) ∧ w = w' := by
  by_cases h : p = 2
  · subst h
    have HB := Lib.hid (show oddP 2 = false by simp [oddP])
    generalize oddP 2 = r at HB ⊢
    go_enter Tryz.func57, Tryz.ntmps57
    go_wp2
    go_ret
    exact ⟨ret_bool HB.out.symm, rfl⟩
  · have HB := Lib.hid (show oddP p = (decide (p ≤ 9973) && isP p) by simp [oddP, h])
    have hb : (p != 2) = true := by simpa using h
    have hc := Lib.hid (small_calls p)
    generalize (decide (p ≤ 9973) && isP p) = r at HB hc
    generalize oddP p = r' at HB ⊢
    go_enter Tryz.func57, Tryz.ntmps57
    go_wp2_with (go_at_call 91; refine (hc.out _).mono ?_; rintro e w' ⟨rfl, rfl⟩)
    go_ret
    exact ⟨ret_bool HB.out.symm, rfl⟩
def oc (c : Con) (s last : Int) : Bool := decide (last < c.exp ∧ c.exp ≤ 60 ∧ 1 ≤ c.dim ∧ c.dim ≤ 8 - s ∧ (c.sign = 1 ∨ c.sign = -1))
def oL : List Con → Int → Int → Bool
  | [], _, _ => true
  | c :: l, s, last => oc c s last && oL l (s + c.dim) c.exp
theorem oL_drop {l : List Con} {k : Nat} {c : Con} (h : l[k]? = some c) (s last : Int) : oL (l.drop k) s last = (oc c s last && oL (l.drop (k + 1)) (s + c.dim) c.exp) := by
  rw [List.getElem?_eq_some_iff] at h
  obtain ⟨hk, rfl⟩ := h
  rw [List.drop_eq_getElem_cons hk]
  rfl
theorem oL_end {l : List Con} {k : Nat} (h : l.length ≤ k) (s last : Int) : oL (l.drop k) s last = true := by
  rw [List.drop_eq_nil_of_le h]; rfl
theorem ordF {c : Con} {S L : Int} {t r : Bool} (h : (oc c S L && t) = r) (hf : ¬ (L < c.exp ∧ c.exp ≤ 60 ∧ 1 ≤ c.dim ∧ c.dim ≤ 8 - S ∧ (c.sign = 1 ∨ c.sign = -1))) : r = false := by
  rw [← h]; simp only [oc, decide_eq_false hf, Bool.false_and]
theorem ordT {c : Con} {S L : Int} {t r : Bool} (h : (oc c S L && t) = r) (hf : L < c.exp ∧ c.exp ≤ 60 ∧ 1 ≤ c.dim ∧ c.dim ≤ 8 - S ∧ (c.sign = 1 ∨ c.sign = -1)) : t = r := by
  rw [← h]; simp only [oc, decide_eq_true hf, Bool.true_and]
set_option maxHeartbeats 40000000 in
theorem order_cons (l : List Con) (n b o cap : Nat) (w : World) (hn : Hid (l.length = n)) (hn0 : 0 < n) (hn1 : n ≤ 1000) (hb : b < w.heap.size) (hc : Hid (∀ i c, l[i]? = some c → ConAt w b (o + i * 5) c))
    (r : Bool) (hr : Hid (oL l 0 (-1) = r)) :
    Calls Tryz.prog 58 #[.slice (some ⟨b, o, none⟩) n cap] w fun e w' => e = .returned (.bool r) ∧ Below w.heap.size w w' := by
  go_enter Tryz.func58, Tryz.ntmps58
  go_wp2
  go_loopw [3, 8] (fun s i wr => ∃ (k : Nat) (S L : Int), k ≤ n ∧ 0 ≤ S ∧ S ≤ 8 ∧ k ≤ S ∧ -1 ≤ L ∧ L ≤ 60 ∧ s = .int .i64 S ∧ i = .int .i64 k ∧ Hid (oL (l.drop k) S L = r) ∧ Hid ((k = 0 ∧ L = -1) ∨ ∃ j c, k = j + 1 ∧ l[j]? = some c ∧ c.exp = L) ∧ Below w.heap.size w wr) (fun _ i _ => (n - (intOf i).toNat))
  case atStart => exact ⟨0, 0, -1, by omega, by omega, by omega, by omega, by omega, by omega, rfl, rfl, hr, .inl ⟨rfl, rfl⟩, Below.refl _ _⟩
  case round =>
    obtain ⟨k, S, L, hk, hS0, hS1, hkS, hL0, hL1, rfl, rfl, hv, hp, hbe⟩ := hrel
    by_cases hlt : k < n
    · obtain ⟨c, hkc⟩ : ∃ c, l[k]? = some c := ⟨l[k]'(by rw [hn.out]; exact hlt), List.getElem?_eq_getElem _⟩
      obtain ⟨g0, g1, g2, g3, g4⟩ := (hc.out k c hkc).below hbe hb
      have hsz := hbe.size
      have hd := oL_drop hkc S L
      have hv' : Hid ((oc c S L && oL (l.drop (k + 1)) (S + c.dim) c.exp) = r) := hd ▸ hv.out
      clear hd hv
      have hkc := Lib.hid hkc
      by_cases t1 : c.exp < 0
      · have e1 : decide (c.exp < 0) = true := by simpa using t1
        have hr' := Lib.hid (ordF hv'.out (by rintro ⟨y1, y2, y3, y4, y5⟩; omega))
        clear hv'
        go_wp2
        go_hide hQ
        go_quiet (fail)
        subst hQ
        go_wp2
        go_ret
        refine ⟨ret_bool hr'.out.symm, ?_⟩
        repeat (first | exact hbe | refine below_drewN ?_ _ | refine Below.alloc ?_ (by first | omega | (simp; omega)) _ | refine Below.setCell ?_ (by first | omega | (simp; omega)) _)
      have e1 : decide (c.exp < 0) = false := by simpa using t1
      by_cases t2 : 60 < c.exp
      · have e2 : decide (60 < c.exp) = true := by simpa using t2
        have hr' := Lib.hid (ordF hv'.out (by rintro ⟨y1, y2, y3, y4, y5⟩; omega))
        clear hv'
        go_wp2
        go_hide hQ
        go_quiet (fail)
        subst hQ
        go_wp2
        go_ret
        refine ⟨ret_bool hr'.out.symm, ?_⟩
        repeat (first | exact hbe | refine below_drewN ?_ _ | refine Below.alloc ?_ (by first | omega | (simp; omega)) _ | refine Below.setCell ?_ (by first | omega | (simp; omega)) _)
      have e2 : decide (60 < c.exp) = false := by simpa using t2
      by_cases hk0 : 0 < k
      · obtain ⟨j, cj, hkj, hj, hcj⟩ : ∃ j c, k = j + 1 ∧ l[j]? = some c ∧ c.exp = L := by
          rcases hp.out with ⟨rfl, _⟩ | h
          · omega
          · exact h
        obtain ⟨q0, -⟩ := (hc.out j cj hj).below hbe hb
        rw [hcj] at q0
        obtain rfl : j = k - 1 := by omega
        have hix := fun w => run_ix (i := k - 1) (n := n) (I := (k : Int) - 1) (by omega) (by omega) b o cap w
        have hbw : b < wr.heap.size := by omega
        have hkw : IntKind.i64.wrap ((k : Int) - 1) = (k : Int) - 1 := by rw [IntKind.wrap_i64]; omega
        have ek : decide ((0 : Int) < k) = true := by simpa using hk0
        clear hp hcj hkj hj
        by_cases t3 : c.exp ≤ L
        · have e3 : decide (c.exp ≤ L) = true := by simpa using t3
          have hr' := Lib.hid (ordF hv'.out (by rintro ⟨y1, y2, y3, y4, y5⟩; omega))
          clear hv'
          go_wp2
          go_hide hQ
          go_quiet (fail)
          subst hQ
          go_wp2
          go_ret
          refine ⟨ret_bool hr'.out.symm, ?_⟩
          repeat (first | exact hbe | refine below_drewN ?_ _ | refine Below.alloc ?_ (by first | omega | (simp; omega)) _ | refine Below.setCell ?_ (by first | omega | (simp; omega)) _)
        have e3 : decide (c.exp ≤ L) = false := by simpa using t3
        by_cases t4 : c.sign = 1
        · have e4 : (c.sign != 1) = false := by simpa using t4
          have y4 : c.sign = 1 ∨ c.sign = -1 := .inl t4
          have t4' := Lib.hid t4
          clear t4
          have y4' := Lib.hid y4
          clear y4
          by_cases t6 : c.dim < 1
          · have e6 : decide (c.dim < 1) = true := by simpa using t6
            have hr' := Lib.hid (ordF hv'.out (by rintro ⟨y1, y2, y3, y4, y5⟩; omega))
            clear hv'
            go_wp2
            go_hide hQ
            go_quiet (fail)
            subst hQ
            go_wp2
            go_ret
            refine ⟨ret_bool hr'.out.symm, ?_⟩
            repeat (first | exact hbe | refine below_drewN ?_ _ | refine Below.alloc ?_ (by first | omega | (simp; omega)) _ | refine Below.setCell ?_ (by first | omega | (simp; omega)) _)
          have e6 : decide (c.dim < 1) = false := by simpa using t6
          by_cases t7 : 8 - S < c.dim
          · have e7 : decide (8 - S < c.dim) = true := by simpa using t7
            have hr' := Lib.hid (ordF hv'.out (by rintro ⟨y1, y2, y3, y4, y5⟩; omega))
            clear hv'
            go_wp2
            go_hide hQ
            go_quiet (fail)
            subst hQ
            go_wp2
            go_ret
            refine ⟨ret_bool hr'.out.symm, ?_⟩
            repeat (first | exact hbe | refine below_drewN ?_ _ | refine Below.alloc ?_ (by first | omega | (simp; omega)) _ | refine Below.setCell ?_ (by first | omega | (simp; omega)) _)
          have e7 : decide (8 - S < c.dim) = false := by simpa using t7
          have hvt := Lib.hid (ordT hv'.out ⟨by omega, by omega, by omega, by omega, y4'.out⟩)
          clear hv'
          go_wp2
          go_hide hQ
          go_quiet (fail)
          subst hQ
          go_wp2
          go_roundw
          case rel => exact ⟨k + 1, S + c.dim, c.exp, by omega, by omega, by omega, by omega, by omega, by omega, by go_num, by go_num, hvt.out, .inr ⟨k, c, rfl, hkc, rfl⟩, by (repeat (first | exact hbe | refine below_drewN ?_ _ | refine Below.alloc ?_ (by first | omega | (simp; omega)) _ | refine Below.setCell ?_ (by first | omega | (simp; omega)) _))⟩
          case measure => simp [intOf]; omega
        · have e4 : (c.sign != 1) = true := by simpa using t4
          by_cases t5 : c.sign = -1
          · have e5 : (c.sign != -1) = false := by simpa using t5
            have y4 : c.sign = 1 ∨ c.sign = -1 := .inr t5
            have t5' := Lib.hid t5
            clear t4 t5
            have y4' := Lib.hid y4
            clear y4
            by_cases t6 : c.dim < 1
            · have e6 : decide (c.dim < 1) = true := by simpa using t6
              have hr' := Lib.hid (ordF hv'.out (by rintro ⟨y1, y2, y3, y4, y5⟩; omega))
              clear hv'
              go_wp2
              go_hide hQ
              go_quiet (fail)
              subst hQ
              go_wp2
              go_ret
              refine ⟨ret_bool hr'.out.symm, ?_⟩
              repeat (first | exact hbe | refine below_drewN ?_ _ | refine Below.alloc ?_ (by first | omega | (simp; omega)) _ | refine Below.setCell ?_ (by first | omega | (simp; omega)) _)
            have e6 : decide (c.dim < 1) = false := by simpa using t6
            by_cases t7 : 8 - S < c.dim
            · have e7 : decide (8 - S < c.dim) = true := by simpa using t7
              have hr' := Lib.hid (ordF hv'.out (by rintro ⟨y1, y2, y3, y4, y5⟩; omega))
              clear hv'
              go_wp2
              go_hide hQ
              go_quiet (fail)
              subst hQ
              go_wp2
              go_ret
              refine ⟨ret_bool hr'.out.symm, ?_⟩
              repeat (first | exact hbe | refine below_drewN ?_ _ | refine Below.alloc ?_ (by first | omega | (simp; omega)) _ | refine Below.setCell ?_ (by first | omega | (simp; omega)) _)
            have e7 : decide (8 - S < c.dim) = false := by simpa using t7
            have hvt := Lib.hid (ordT hv'.out ⟨by omega, by omega, by omega, by omega, y4'.out⟩)
            clear hv'
            go_wp2
            go_hide hQ
            go_quiet (fail)
            subst hQ
            go_wp2
            go_roundw
            case rel => exact ⟨k + 1, S + c.dim, c.exp, by omega, by omega, by omega, by omega, by omega, by omega, by go_num, by go_num, hvt.out, .inr ⟨k, c, rfl, hkc, rfl⟩, by (repeat (first | exact hbe | refine below_drewN ?_ _ | refine Below.alloc ?_ (by first | omega | (simp; omega)) _ | refine Below.setCell ?_ (by first | omega | (simp; omega)) _))⟩
            case measure => simp [intOf]; omega
          · have e5 : (c.sign != -1) = true := by simpa using t5
            have hr' := Lib.hid (ordF hv'.out (by rintro ⟨y1, y2, y3, y4, y5⟩; omega))
            clear hv'
            go_wp2
            go_hide hQ
            go_quiet (fail)
            subst hQ
            go_wp2
            go_ret
            refine ⟨ret_bool hr'.out.symm, ?_⟩
            repeat (first | exact hbe | refine below_drewN ?_ _ | refine Below.alloc ?_ (by first | omega | (simp; omega)) _ | refine Below.setCell ?_ (by first | omega | (simp; omega)) _)
      · have t3 : L < c.exp := by rcases hp.out with ⟨_, h⟩ | ⟨j, _, h, _⟩ <;> omega
        have ek : decide ((0 : Int) < k) = false := by simpa using hk0
        clear hp
        by_cases t4 : c.sign = 1
        · have e4 : (c.sign != 1) = false := by simpa using t4
          have y4 : c.sign = 1 ∨ c.sign = -1 := .inl t4
          have t4' := Lib.hid t4
          clear t4
          have y4' := Lib.hid y4
          clear y4
          by_cases t6 : c.dim < 1
          · have e6 : decide (c.dim < 1) = true := by simpa using t6
            have hr' := Lib.hid (ordF hv'.out (by rintro ⟨y1, y2, y3, y4, y5⟩; omega))
            clear hv'
            go_wp2
            go_hide hQ
            go_quiet (fail)
            subst hQ
            go_wp2
            go_ret
            refine ⟨ret_bool hr'.out.symm, ?_⟩
            repeat (first | exact hbe | refine below_drewN ?_ _ | refine Below.alloc ?_ (by first | omega | (simp; omega)) _ | refine Below.setCell ?_ (by first | omega | (simp; omega)) _)
          have e6 : decide (c.dim < 1) = false := by simpa using t6
          by_cases t7 : 8 - S < c.dim
          · have e7 : decide (8 - S < c.dim) = true := by simpa using t7
            have hr' := Lib.hid (ordF hv'.out (by rintro ⟨y1, y2, y3, y4, y5⟩; omega))
            clear hv'
            go_wp2
            go_hide hQ
            go_quiet (fail)
            subst hQ
            go_wp2
            go_ret
            refine ⟨ret_bool hr'.out.symm, ?_⟩
            repeat (first | exact hbe | refine below_drewN ?_ _ | refine Below.alloc ?_ (by first | omega | (simp; omega)) _ | refine Below.setCell ?_ (by first | omega | (simp; omega)) _)
          have e7 : decide (8 - S < c.dim) = false := by simpa using t7
          have hvt := Lib.hid (ordT hv'.out ⟨by omega, by omega, by omega, by omega, y4'.out⟩)
          clear hv'
          go_wp2
          go_hide hQ
          go_quiet (fail)
          subst hQ
          go_wp2
          go_roundw
          case rel => exact ⟨k + 1, S + c.dim, c.exp, by omega, by omega, by omega, by omega, by omega, by omega, by go_num, by go_num, hvt.out, .inr ⟨k, c, rfl, hkc, rfl⟩, by (repeat (first | exact hbe | refine below_drewN ?_ _ | refine Below.alloc ?_ (by first | omega | (simp; omega)) _ | refine Below.setCell ?_ (by first | omega | (simp; omega)) _))⟩
          case measure => simp [intOf]; omega
        · have e4 : (c.sign != 1) = true := by simpa using t4
          by_cases t5 : c.sign = -1
          · have e5 : (c.sign != -1) = false := by simpa using t5
            have y4 : c.sign = 1 ∨ c.sign = -1 := .inr t5
            have t5' := Lib.hid t5
            clear t4 t5
            have y4' := Lib.hid y4
            clear y4
            by_cases t6 : c.dim < 1
            · have e6 : decide (c.dim < 1) = true := by simpa using t6
              have hr' := Lib.hid (ordF hv'.out (by rintro ⟨y1, y2, y3, y4, y5⟩; omega))
              clear hv'
              go_wp2
              go_hide hQ
              go_quiet (fail)
              subst hQ
              go_wp2
              go_ret
              refine ⟨ret_bool hr'.out.symm, ?_⟩
              repeat (first | exact hbe | refine below_drewN ?_ _ | refine Below.alloc ?_ (by first | omega | (simp; omega)) _ | refine Below.setCell ?_ (by first | omega | (simp; omega)) _)
            have e6 : decide (c.dim < 1) = false := by simpa using t6
            by_cases t7 : 8 - S < c.dim
            · have e7 : decide (8 - S < c.dim) = true := by simpa using t7
              have hr' := Lib.hid (ordF hv'.out (by rintro ⟨y1, y2, y3, y4, y5⟩; omega))
              clear hv'
              go_wp2
              go_hide hQ
              go_quiet (fail)
              subst hQ
              go_wp2
              go_ret
              refine ⟨ret_bool hr'.out.symm, ?_⟩
              repeat (first | exact hbe | refine below_drewN ?_ _ | refine Below.alloc ?_ (by first | omega | (simp; omega)) _ | refine Below.setCell ?_ (by first | omega | (simp; omega)) _)
            have e7 : decide (8 - S < c.dim) = false := by simpa using t7
            have hvt := Lib.hid (ordT hv'.out ⟨by omega, by omega, by omega, by omega, y4'.out⟩)
            clear hv'
            go_wp2
            go_hide hQ
            go_quiet (fail)
            subst hQ
            go_wp2
            go_roundw
            case rel => exact ⟨k + 1, S + c.dim, c.exp, by omega, by omega, by omega, by omega, by omega, by omega, by go_num, by go_num, hvt.out, .inr ⟨k, c, rfl, hkc, rfl⟩, by (repeat (first | exact hbe | refine below_drewN ?_ _ | refine Below.alloc ?_ (by first | omega | (simp; omega)) _ | refine Below.setCell ?_ (by first | omega | (simp; omega)) _))⟩
            case measure => simp [intOf]; omega
          · have e5 : (c.sign != -1) = true := by simpa using t5
            have hr' := Lib.hid (ordF hv'.out (by rintro ⟨y1, y2, y3, y4, y5⟩; omega))
            clear hv'
            go_wp2
            go_hide hQ
            go_quiet (fail)
            subst hQ
            go_wp2
            go_ret
            refine ⟨ret_bool hr'.out.symm, ?_⟩
            repeat (first | exact hbe | refine below_drewN ?_ _ | refine Below.alloc ?_ (by first | omega | (simp; omega)) _ | refine Below.setCell ?_ (by first | omega | (simp; omega)) _)
    · have hr' := hv.out
      rw [oL_end (by rw [hn.out]; omega)] at hr'
      have hr'' := Lib.hid hr'
      clear hr' hp
      have hS : 0 < S := by omega
      go_wp2
      go_ret
      exact ⟨ret_bool hr''.out, hbe⟩
end Go.Proofs.YtgdhgnhgmbkpdaaGreatDoor.Q

namespace Go.Proofs.YtgdhgnhgmbkpdaaGreatDoor.Q
open Go.RowKit
theorem bcell {W w1 : World} (hb : Below W.heap.size W w1) : (∀ b o, b < W.heap.size → w1.cell? ⟨b, o, none⟩ = W.cell? ⟨b, o, none⟩) ∧ (∀ b o, b < W.heap.size → w1.frozen? ⟨b, o, none⟩ = W.frozen? ⟨b, o, none⟩) :=
  ⟨fun b o h => hb.cell (p := ⟨b, o, none⟩) h, fun b o h => hb.frozen (p := ⟨b, o, none⟩) h⟩
def even (c : Con) : Bool := !c.odd && decide (c.oddity = 0)
theorem all_drop {l : List Con} {k : Nat} {c : Con} (h : l[k]? = some c) : (l.drop k).all even = (even c && (l.drop (k + 1)).all even) := by
  rw [List.getElem?_eq_some_iff] at h
  obtain ⟨hk, rfl⟩ := h
  rw [List.drop_eq_getElem_cons hk]
  rfl
theorem all_end {l : List Con} {k : Nat} (h : l.length ≤ k) : (l.drop k).all even = true := by
  rw [List.drop_eq_nil_of_le h]; rfl
theorem order_nil (a : Option Addr) (cap : Nat) (w : World) : Calls Tryz.prog 58 #[.slice a 0 cap] w fun e w' => e = .returned (.bool false) ∧ Below w.heap.size w w' := by
  go_enter Tryz.func58, Tryz.ntmps58
  go_wp2
  go_loopw [3, 8] (fun s i wr => s = .int .i64 0 ∧ i = .int .i64 0 ∧ wr = w) (fun _ _ _ => 0)
  case atStart => exact ⟨rfl, rfl, rfl⟩
  case round =>
    obtain ⟨rfl, rfl, rfl⟩ := hrel
    go_wp2
    go_ret
    exact ⟨rfl, Below.refl _ _⟩
set_option maxHeartbeats 4000000 in
theorem rvalid_cons (p : Int) (l : List Con) (n b o cap : Nat) (w : World) (hn : Hid (l.length = n)) (hn0 : 0 < n) (hn1 : n ≤ 1000) (hb : b < w.heap.size) (hc : Hid (∀ i c, l[i]? = some c → ConAt w b (o + i * 5) c))
    (hp : Hid (oddP p = true)) (ho : Hid (oL l 0 (-1) = true)) (r : Bool) (hr : Hid (l.all even = r)) :
    Calls Tryz.prog 32 #[.agg #[.int .i64 p, .slice (some ⟨b, o, none⟩) n cap]] w fun e w' => e = .returned (.bool r) ∧ Below w.heap.size w w' := by
  have hpr := Lib.hid (fun (w : World) => (odd_calls p w).mono (R' := fun e w' => e = .returned (.bool true) ∧ w = w') (by rintro e w' ⟨rfl, rfl⟩; exact ⟨ret_bool hp.out, rfl⟩))
  have hor := Lib.hid (order_cons l n b o cap (w.alloc (.cells #[.int .i64 p, .slice (some ⟨b, o, none⟩) n cap] 24)) hn hn0 hn1 (by simp; omega) (fun i c hi => (hc.out i c hi).below ((Below.refl w.heap.size w).alloc (Nat.le_refl _) _) hb) true ho)
  go_enter Tryz.func32, Tryz.ntmps32
  go_wp2_with (first | (go_at_call 57; refine (hpr.out _).mono ?_; rintro e w' ⟨rfl, rfl⟩) | (go_at_call 58; refine hor.out.mono ?_; rintro e w1 ⟨rfl, hb1⟩; obtain ⟨hc1, hf1⟩ := bcell hb1; have hz1 := hb1.size; simp at hz1))
  have hb2 : Below w.heap.size w w1 := ((Below.refl _ _).alloc (Nat.le_refl _) _).trans (hb1.mono (by simp))
  clear hpr hor
  go_loopw [18] (fun i wr => ∃ (k : Nat), k ≤ n ∧ i = .int .i64 k ∧ Hid ((l.drop k).all even = r) ∧ Below w.heap.size w wr) (fun i _ => (n - (intOf i).toNat))
  case atStart => exact ⟨0, by omega, rfl, hr, hb2⟩
  case round =>
    obtain ⟨k, hk, rfl, hv, hbe⟩ := hrel
    clear hb1 hb2 hc1 hf1 hz1 w1
    by_cases hlt : k < n
    · obtain ⟨c, hkc⟩ : ∃ c, l[k]? = some c := ⟨l[k]'(by rw [hn.out]; exact hlt), List.getElem?_eq_getElem _⟩
      obtain ⟨g0, g1, g2, g3, g4⟩ := (hc.out k c hkc).below hbe hb
      have hsz := hbe.size
      have hd := all_drop hkc
      have hv' : Hid ((even c && (l.drop (k + 1)).all even) = r) := hd ▸ hv.out
      clear hd hv
      go_wp2
      all_goals first
        | (go_roundw
           case rel =>
             have hvc : even c = true := by simp_all [even]
             exact ⟨k + 1, by omega, by go_num, by rw [hvc] at hv'; simpa using hv', by (repeat (first | exact hbe | refine Below.alloc ?_ (by first | omega | (simp; omega)) _ | refine Below.setCell ?_ (by first | omega | (simp; omega)) _))⟩
           case measure => simp [intOf]; omega)
        | (have hr' : r = false := by
             have hvc : even c = false := by simp_all [even]
             have := hv'.out
             rw [hvc] at this
             simpa using this.symm
           go_ret
           refine ⟨ret_bool hr'.symm, ?_⟩
           repeat (first | exact hbe | refine Below.alloc ?_ (by first | omega | (simp; omega)) _ | refine Below.setCell ?_ (by first | omega | (simp; omega)) _))
    · have hr' := hv.out
      rw [all_end (by rw [hn.out]; omega)] at hr'
      have hr'' := Lib.hid hr'
      clear hr'
      go_wp2
      go_ret
      exact ⟨ret_bool hr''.out, hbe⟩
theorem rvalid_prime (p : Int) (v : Value) (w : World) (hp : Hid (oddP p = false)) :
    Calls Tryz.prog 32 #[.agg #[.int .i64 p, v]] w fun e w' => e = .returned (.bool false) ∧ Below w.heap.size w w' := by
  have hpr := Lib.hid (fun (w : World) => (odd_calls p w).mono (R' := fun e w' => e = .returned (.bool false) ∧ w = w') (by rintro e w' ⟨rfl, rfl⟩; exact ⟨ret_bool hp.out, rfl⟩))
  go_enter Tryz.func32, Tryz.ntmps32
  go_wp2_with (go_at_call 57; refine (hpr.out _).mono ?_; rintro e w' ⟨rfl, rfl⟩)
  go_ret
  exact ⟨rfl, (Below.refl _ _).alloc (Nat.le_refl _) _⟩
theorem rvalid_order (p : Int) (a : Option Addr) (n cap : Nat) (w : World) (hp : Hid (oddP p = true))
    (hor : Hid (∀ u, Calls Tryz.prog 58 #[.slice a n cap] (w.alloc (.cells #[.int .i64 p, .slice a n cap] u)) fun e w' => e = .returned (.bool false) ∧ Below (w.alloc (.cells #[.int .i64 p, .slice a n cap] u)).heap.size (w.alloc (.cells #[.int .i64 p, .slice a n cap] u)) w')) :
    Calls Tryz.prog 32 #[.agg #[.int .i64 p, .slice a n cap]] w fun e w' => e = .returned (.bool false) ∧ Below w.heap.size w w' := by
  have hpr := Lib.hid (fun (w : World) => (odd_calls p w).mono (R' := fun e w' => e = .returned (.bool true) ∧ w = w') (by rintro e w' ⟨rfl, rfl⟩; exact ⟨ret_bool hp.out, rfl⟩))
  go_enter Tryz.func32, Tryz.ntmps32
  go_wp2_with (first | (go_at_call 57; refine (hpr.out _).mono ?_; rintro e w' ⟨rfl, rfl⟩) | (go_at_call 58; refine (hor.out _).mono ?_; rintro e w1 ⟨rfl, hb1⟩))
  go_ret
  exact ⟨rfl, ((Below.refl _ _).alloc (Nat.le_refl _) _).trans (hb1.mono (by simp))⟩
theorem oL_vL : ∀ (l : List Con) (s last : Int), vL l s last = (oL l s last && l.all even)
  | [], _, _ => rfl
  | c :: l, s, last => by
    simp only [vL, oL, List.all_cons, oL_vL l]
    have : vc c s last = (oc c s last && even c) := by
      simp only [vc, oc, even]
      rw [Bool.eq_iff_iff]
      simp only [Bool.and_eq_true, decide_eq_true_eq, Bool.not_eq_true']
      constructor
      · rintro ⟨a, b, c, d, e, f, g⟩; exact ⟨⟨a, b, c, d, e⟩, f, g⟩
      · rintro ⟨⟨a, b, c, d, e⟩, f, g⟩; exact ⟨a, b, c, d, e, f, g⟩
    rw [this]
    cases oc c s last <;> cases even c <;> simp
theorem oddP_eq (p : Int) : oddP p = (decide (2 < p ∧ p ≤ 9973) && isP p) := by
  unfold oddP
  cases hp : isP p
  · simp
  · have : 2 ≤ p := by
      rcases Int.lt_or_le p 2 with h | h
      · rw [isP_of_lt h] at hp; cases hp
      · exact h
    rw [Bool.and_true, Bool.and_true]
    congr 1
    rw [eq_iff_iff]
    omega
theorem vS_eq (p : Int) (l : List Con) : vS p l = (oddP p && (!l.isEmpty && oL l 0 (-1)) && l.all even) := by
  unfold vS
  rw [oL_vL, oddP_eq]
  cases (decide (2 < p ∧ p ≤ 9973) && isP p) <;> cases l.isEmpty <;> simp
theorem rvalid_calls (p : Int) (l : List Con) (v : Value) (w : World) (hl : Lst w v l) (hn : l.length ≤ 1000) :
    Calls Tryz.prog 32 #[.agg #[.int .i64 p, v]] w fun e w' => e = .returned (.bool (vS p l)) ∧ Below w.heap.size w w' := by
  rw [vS_eq]
  cases hp : oddP p
  · refine (rvalid_prime p v w hp).mono ?_
    rintro e w' ⟨rfl, hb⟩
    exact ⟨ret_bool (by simp), hb⟩
  · rcases hl with ⟨rfl, a, c, rfl⟩ | ⟨hne, b, o, cap, rfl, hb, hcp, hc⟩
    · refine (rvalid_order p a 0 c w hp (fun u => order_nil _ _ _)).mono ?_
      rintro e w' ⟨rfl, hb⟩
      exact ⟨ret_bool (by simp), hb⟩
    · have hpos : 0 < l.length := by cases l; exact absurd rfl hne; simp
      have he : l.isEmpty = false := by cases l; exact absurd rfl hne; rfl
      cases ho : oL l 0 (-1)
      · refine (rvalid_order p (some ⟨b, o, none⟩) l.length cap w hp (fun u => order_cons l l.length b o cap _ rfl hpos hn (by simp; omega) (fun i c hi => (hc i c hi).below ((Below.refl w.heap.size w).alloc (Nat.le_refl _) _) hb) false ho)).mono ?_
        rintro e w' ⟨rfl, hb⟩
        exact ⟨ret_bool (by simp), hb⟩
      · refine (rvalid_cons p l l.length b o cap w rfl hpos hn hb hc hp ho _ rfl).mono ?_
        rintro e w' ⟨rfl, hb⟩
        exact ⟨ret_bool (by simp [he]), hb⟩
end Go.Proofs.YtgdhgnhgmbkpdaaGreatDoor.Q

namespace Go.Proofs.YtgdhgnhgmbkpdaaGreatDoor.Q
def pw (p e : Int) : Int := p ^ e.toNat % 8
def four (c : Con) : Int := if c.exp % 2 = 1 ∧ c.sign = -1 then 4 else 0
def ex1 (p : Int) : List Con → Int
  | [] => 0
  | c :: l => (c.dim * (pw p c.exp - 1) + four c) + ex1 p l
def ex2 (p : Int) : List Con → Int
  | [] => 0
  | c :: l => (c.dim * (pw p c.exp + 7) + four c) + ex2 p l
def Con.good (c : Con) : Prop := 0 ≤ c.exp ∧ c.exp ≤ 60 ∧ 1 ≤ c.dim ∧ c.dim ≤ 8 ∧ (c.sign = 1 ∨ c.sign = -1) ∧ c.odd = false ∧ c.oddity = 0
theorem vL_good : ∀ {l : List Con} {s last : Int}, 0 ≤ s → -1 ≤ last → vL l s last = true → ∀ c ∈ l, c.good
  | [], _, _, _, _, _, c, hc => by cases hc
  | x :: l, s, last, h0, h1, h, c, hc => by
    simp only [vL, Bool.and_eq_true, vc, decide_eq_true_eq] at h
    obtain ⟨⟨a1, a2, a3, a4, a5, a6, a7⟩, h2⟩ := h
    rcases List.mem_cons.1 hc with rfl | hc
    · exact ⟨by omega, a2, a3, by omega, a5, a6, a7⟩
    · exact vL_good (by omega) (by omega) h2 c hc
theorem vL_len : ∀ {l : List Con} {s last : Int}, s ≤ 8 → vL l s last = true → (l.length : Int) ≤ 8 - s
  | [], _, _, _, _ => by simp; omega
  | x :: l, s, last, h0, h => by
    simp only [vL, Bool.and_eq_true, vc, decide_eq_true_eq] at h
    obtain ⟨⟨a1, a2, a3, a4, _⟩, h2⟩ := h
    have := vL_len (by omega) h2
    simp; omega
theorem vS_parts {p : Int} {l : List Con} (h : vS p l = true) : 2 < p ∧ p ≤ 9973 ∧ isP p = true ∧ l ≠ [] ∧ vL l 0 (-1) = true := by
  simp only [vS, Bool.and_eq_true, decide_eq_true_eq, Bool.not_eq_true'] at h
  obtain ⟨⟨⟨⟨h1, h2⟩, h3⟩, h4⟩, h5⟩ := h
  exact ⟨h1, h2, h3, (by intro e; rw [e] at h4; cases h4), h5⟩
end Go.Proofs.YtgdhgnhgmbkpdaaGreatDoor.Q

namespace Go.Proofs.YtgdhgnhgmbkpdaaGreatDoor.Q
open Go.RowKit
end Go.Proofs.YtgdhgnhgmbkpdaaGreatDoor.Q

namespace Go.Proofs.YtgdhgnhgmbkpdaaGreatDoor.Q
open Go.RowKit
end Go.Proofs.YtgdhgnhgmbkpdaaGreatDoor.Q

namespace Go.Proofs.YtgdhgnhgmbkpdaaGreatDoor.Q
open Go.RowKit
end Go.Proofs.YtgdhgnhgmbkpdaaGreatDoor.Q

namespace Go.Proofs.YtgdhgnhgmbkpdaaGreatDoor.Q
open Go.RowKit
end Go.Proofs.YtgdhgnhgmbkpdaaGreatDoor.Q



namespace Go.Proofs.YtgdhgnhgmbkpdaaGreatDoor.S
open Go.QfSy Go.RowKit
def offT : Tb := ⟨0, .i64, [7, 11, 13, 17, 19, 23, 29, 31], 173⟩
theorem offs_of {w : World} (h : TabW [offT] w) : Q.Offs w := h offT (by simp)
theorem valid_pure (p : Int) (L : List Con) (hn : L.length ≤ 1000) : PureC Tryz.prog [offT] 27 [.agg [.int .i64 p, roC L]] (.bool (Q.vS p (L.map toQ))) := by
  refine flat_pure (fun _ => .bool _) ⟨_, Tryz.func27, rfl⟩ ?_
  intro w F Args ht hF hr
  cases hr with | cons h0 hr => cases hr; cases h0 with | agg h0 => cases h0 with | cons h1 h0 => cases h1; cases h0 with | cons h2 h0 =>
  cases h0
  exact Q.valid_calls p _ _ w (offs_of ht) (lst_of hF h2).1 (by simpa using hn)
theorem rvalid_pure (p : Int) (L : List Con) (hn : L.length ≤ 1000) : PureC Tryz.prog [] 32 [.agg [.int .i64 p, roC L]] (.bool (Q.vS p (L.map toQ))) := by
  refine flat_pure (fun _ => .bool _) ⟨_, Tryz.func32, rfl⟩ ?_
  intro w F Args ht hF hr
  cases hr with | cons h0 hr => cases hr; cases h0 with | agg h0 => cases h0 with | cons h1 h0 => cases h1; cases h0 with | cons h2 h0 =>
  cases h0
  exact Q.rvalid_calls p _ _ w (lst_of hF h2).1 (by simpa using hn)
end Go.Proofs.YtgdhgnhgmbkpdaaGreatDoor.S

namespace Go.Proofs.YtgdhgnhgmbkpdaaGreatDoor.S
open Go.QfSy Go.RowKit
noncomputable abbrev vSv (p : Int) (L : List Con) : Bool := Q.vS p (L.map toQ)
theorem vL_ord : ∀ {L : List Con} {l s : Int}, -1 ≤ l → ordL L l s = true → (∀ c ∈ L, c.odd = false ∧ c.oddity = 0) → Q.vL (L.map toQ) s l = true
  | [], l, s, _, _, _ => rfl
  | c :: L, l, s, h0, h, he => by
    simp only [ordL, okO, Bool.and_eq_true, decide_eq_true_eq] at h
    simp only [List.map_cons, Q.vL, Q.vc, Bool.and_eq_true, decide_eq_true_eq]
    have h1 := he c (by simp)
    refine ⟨⟨h.1.2.2.1, h.1.2.1, h.1.2.2.2.2.1, h.1.2.2.2.2.2, h.1.2.2.2.1, h1.1, h1.2⟩, ?_⟩
    exact vL_ord (l := c.exp) (by omega) h.2 (fun x hx => he x (by simp [hx]))
theorem oddPr_cases (k : Int) : Q.oddPr k = 3 ∨ Q.oddPr k = 5 ∨ Q.oddPr k = 7 ∨ Q.oddPr k = 11 ∨ Q.oddPr k = 13 ∨ Q.oddPr k = 17 ∨ Q.oddPr k = 19 ∨ Q.oddPr k = 23 := by
  unfold Q.oddPr
  have h : k % 8 = 0 ∨ k % 8 = 1 ∨ k % 8 = 2 ∨ k % 8 = 3 ∨ k % 8 = 4 ∨ k % 8 = 5 ∨ k % 8 = 6 ∨ k % 8 = 7 := by omega
  rcases h with h | h | h | h | h | h | h | h <;> (rw [h]; simp)
theorem isP_odd23 {p : Int} (h : p = 3 ∨ p = 5 ∨ p = 7 ∨ p = 11 ∨ p = 13 ∨ p = 17 ∨ p = 19 ∨ p = 23) : Q.isP p = true := by
  rcases h with rfl | rfl | rfl | rfl | rfl | rfl | rfl | rfl
  · exact Q.isP_true (d := 2) (by omega) (by omega) (by omega) (by omega) (fun c h1 h2 => by omega)
  · exact Q.isP_true (d := 3) (by omega) (by omega) (by omega) (by omega) (fun c h1 h2 => by obtain rfl : c = 2 := by omega
                                                                                             decide)
  · exact Q.isP_true (d := 3) (by omega) (by omega) (by omega) (by omega) (fun c h1 h2 => by obtain rfl : c = 2 := by omega
                                                                                             decide)
  · exact Q.isP_true (d := 4) (by omega) (by omega) (by omega) (by omega) (fun c h1 h2 => by obtain rfl | rfl : c = 2 ∨ c = 3 := by omega
                                                                                             all_goals decide)
  · exact Q.isP_true (d := 4) (by omega) (by omega) (by omega) (by omega) (fun c h1 h2 => by obtain rfl | rfl : c = 2 ∨ c = 3 := by omega
                                                                                             all_goals decide)
  · exact Q.isP_true (d := 5) (by omega) (by omega) (by omega) (by omega) (fun c h1 h2 => by obtain rfl | rfl | rfl : c = 2 ∨ c = 3 ∨ c = 4 := by omega
                                                                                             all_goals decide)
  · exact Q.isP_true (d := 5) (by omega) (by omega) (by omega) (by omega) (fun c h1 h2 => by obtain rfl | rfl | rfl : c = 2 ∨ c = 3 ∨ c = 4 := by omega
                                                                                             all_goals decide)
  · exact Q.isP_true (d := 5) (by omega) (by omega) (by omega) (by omega) (fun c h1 h2 => by obtain rfl | rfl | rfl : c = 2 ∨ c = 3 ∨ c = 4 := by omega
                                                                                             all_goals decide)
theorem local_ok {k most : Int} {X : List Prt} (hX : ∀ p ∈ X, p.ok) (h1 : 1 ≤ most) (hm : most ≤ 8) : vSv (Q.oddPr k) (listV most false X) = true := by
  have ho := orderV_parts (ord_listV (two := false) h1 hm hX)
  have hl := vL_ord (by decide) ho.1 even_listV
  have hc := oddPr_cases k
  have hp := isP_odd23 hc
  have he : ((listV most false X).map toQ).isEmpty = false := by
    cases hx : listV most false X with
    | nil => rw [hx] at ho; simp at ho
    | cons a l => rfl
  have h2 : 2 < Q.oddPr k ∧ Q.oddPr k ≤ 9973 := by omega
  unfold vSv Q.vS
  simp [h2, hp, he, hl]
end Go.Proofs.YtgdhgnhgmbkpdaaGreatDoor.S

namespace Go.Proofs.YtgdhgnhgmbkpdaaGreatDoor.S
open Go.QfSy Go.RowKit
set_option maxRecDepth 1000000 in
theorem awake_run : isT0 (bodyF EC (callF EC noOrc 60) noLo 8 (RV.avl []) ⟨trOf (tabList tabs), 1000, [], []⟩) = true := by kernel_rfl
theorem awake_pure : PureC Tryz.prog tabs 8 [] (.bool true) :=
  pure_true ecOk (callF_ok ecOk (noOrc_ok _ _) 60) rfl rfl ecNg awake_run
end Go.Proofs.YtgdhgnhgmbkpdaaGreatDoor.S

namespace Go.Proofs.YtgdhgnhgmbkpdaaGreatDoor.S
open Go.QfSy Go.RowKit
noncomputable def entsZ : List OEnt := [
  ⟨27, [offT], fun A => match A with
    | [.agg [.int .i64 p, .sl n 5 row]] => some (.bool (vSv p (consR n row)), [(∀ i, i < n → row i = (Con.ofR (row i)).rvs) ∧ n ≤ 1000])
    | _ => none⟩,
  ⟨32, [], fun A => match A with
    | [.agg [.int .i64 p, .sl n 5 row]] => some (.bool (vSv p (consR n row)), [(∀ i, i < n → row i = (Con.ofR (row i)).rvs) ∧ n ≤ 1000])
    | _ => none⟩,
  ⟨40, [], fun A => match A with
    | [.agg [.int .u8 pr, .sl n 5 row], .int .i64 most, .bool two] => some (roC (listV most two (prtR n row)), [(∀ i, i < n → row i = (Prt.ofR (row i)).rvs) ∧ (∀ p ∈ prtR n row, p.ok) ∧ 1 ≤ most ∧ most ≤ 100 ∧ n ≤ 1000])
    | _ => none⟩,
  ⟨39, [], fun A => match A with
    | [.int .u8 k] => some (.int .i64 (Q.oddPr k), [0 ≤ k ∧ k ≤ 255])
    | _ => none⟩,
  ⟨45, [], fun A => match A with
    | [.agg [.int .u8 pr, .sl n 5 row], .int .i64 most] => some (.agg [.int .i64 (anyP pr), roC (anyL pr (prtR n row) most)], [(∀ i, i < n → row i = (Prt.ofR (row i)).rvs) ∧ U8 pr ∧ (∀ p ∈ prtR n row, p.ok) ∧ n ≤ 900 ∧ 1 ≤ most ∧ most ≤ 8])
    | _ => none⟩,
  ⟨44, [], fun A => match A with
    | [.agg [.int .i64 p, .sl n 5 row], .int .u8 a, .int .u8 f, .int .i8 m] => some (.agg [.int .i64 (bentP p (consR n row) f m), roC (bentL (consR n row) a f m)], [(∀ i, i < n → row i = (Con.ofR (row i)).rvs) ∧ n ≤ 1000 ∧ U8 a ∧ U8 f])
    | _ => none⟩,
  ⟨8, tabs, fun A => match A with
    | [] => some (.bool true, [])
    | _ => none⟩]
theorem entsZ_ok : ∀ e ∈ entsZ, EntOk Tryz.prog e := by
  intro e he
  simp only [entsZ, List.mem_cons, List.not_mem_nil, or_false] at he
  rcases he with rfl | rfl | rfl | rfl | rfl | rfl | rfl
  all_goals
    intro A R ms h hm
    simp only at h
    split at h
    all_goals first | (cases h; done) | cases h
  · obtain ⟨h1, h2⟩ := all_one hm
    exact PureC.imp (valid_pure _ _ (by rw [consR_len]; exact h2)) (.cons (.agg (.cons .same (.cons (.con h1) .nil))) .nil)
  · obtain ⟨h1, h2⟩ := all_one hm
    exact PureC.imp (rvalid_pure _ _ (by rw [consR_len]; exact h2)) (.cons (.agg (.cons .same (.cons (.con h1) .nil))) .nil)
  · obtain ⟨h1, h2, h3, h4, h5⟩ := all_one hm
    exact list_rows h1 h2 h3 h4 h5
  · obtain ⟨h1, h2⟩ := all_one hm
    exact oddPrime_pure _ h1 h2
  · obtain ⟨h1, h2, h3, h4, h5, h6⟩ := all_one hm
    exact PureC.imp (any_pure _ _ _ h2 h3 (by rw [prtR_len]; exact h4) h5 h6) (.cons (.agg (.cons .same (.cons (.prt h1) .nil))) .same)
  · obtain ⟨h1, h2, h3, h4⟩ := all_one hm
    exact PureC.imp (bent_pure _ _ _ _ _ (by rw [consR_len]; exact h2) h3 h4) (.cons (.agg (.cons .same (.cons (.con h1) .nil))) .same)
  · exact awake_pure
end Go.Proofs.YtgdhgnhgmbkpdaaGreatDoor.S

namespace Go.Proofs.YtgdhgnhgmbkpdaaGreatDoor.S
open Go.QfSy Go.RowKit
def sgS (c : Con) : ByteArray := bif c.sign == -1 then ⟨#[45]⟩ else ⟨#[43]⟩
def cTxt (c : Con) : ByteArray := (((⟨#[32]⟩ ++ digS c.exp) ++ ⟨#[94]⟩) ++ sgS c) ++ digS c.dim
def txB (h : ByteArray) : List Con → ByteArray
  | [] => h
  | c :: l => txB (h ++ cTxt c) l
def txS (p : Int) (L : List Con) : ByteArray := txB (digS p ++ ⟨#[58]⟩) L
noncomputable def entsFS : List OEnt := entsS ++ [
  ⟨27, [offT], fun A => match A with
    | [.agg [.int .i64 p, .sl n 5 row]] => some (.bool (vSv p (consR n row)), [(∀ i, i < n → row i = (Con.ofR (row i)).rvs) ∧ n ≤ 1000])
    | _ => none⟩]
theorem entsFS_ok : ∀ e ∈ entsFS, EntOk Tryz.prog e := by
  intro e he
  unfold entsFS at he
  rcases List.mem_append.1 he with h | h
  · exact entsS_ok e h
  · rw [List.mem_singleton] at h
    subst h
    exact entsZ_ok _ (by unfold entsZ; exact List.mem_cons_self)
noncomputable def bldH (b : Nat) (s : ByteArray) : List (Nat × Blk) := [(1001, ⟨.plain [.ptr 1001 0, .lo b s.size], 52, 0, false, true⟩), (b, ⟨.ints .u8 (bytesI s), 5, 1, true, true⟩)]
noncomputable def fsAnn (L : List Con) (H : ByteArray) : Ann := ⟨⟨[(2, .str ⟨#[]⟩), (3, .int .i64 0), (4, .ptr 1001 0), (17, (roC L).av), (18, .vint .i64 L.length), (19, .int .i64 0)], bldH 1002 H, 1100⟩, none, fun _ => (.exit 0, ⟨[(4, .ptr 1001 0)], bldH 1100 (txB H L), 1101⟩)⟩
theorem txB_take (H : ByteArray) {L : List Con} {k : Nat} (hk : k < L.length) : txB H (L.take (k + 1)) = txB H (L.take k) ++ cTxt (L.getD k Con.zero) := by
  induction L generalizing H k with
  | nil => simp at hk
  | cons c l ih =>
    cases k with
    | zero => rfl
    | succ k => exact ih (H ++ cTxt c) (by simpa using hk)
theorem bytesI_app (a b : ByteArray) : bytesI (a ++ b) = bytesI a ++ bytesI b := by
  unfold bytesI
  rw [ByteArray.data_append]
  simp
theorem dec_len : ∀ (j u : Nat), u < 10 ^ (j + 1) → (Lib.decDigits u).length ≤ j + 1
  | 0, u, h => by rw [Lib.decDigits, dif_pos (by omega)]; simp
  | j + 1, u, h => by
    rw [Lib.decDigits]
    split
    · simp
    · rw [List.length_append]
      have := dec_len j (u / 10) (by rw [Nat.div_lt_iff_lt_mul (by omega)]; rw [Nat.pow_succ] at h; exact h)
      simp; omega
theorem digS_size {n : Int} (h0 : 0 ≤ n) (h1 : n < 10000) : (digS n).size ≤ 4 := by
  unfold digS
  rw [strL_size]
  unfold Lib.itoa
  rw [if_neg (by omega)]
  exact dec_len 3 n.toNat (by omega)
theorem one_size (b : UInt8) : (ByteArray.mk #[b]).size = 1 := rfl
theorem sgS_size (c : Con) : (sgS c).size = 1 := by unfold sgS; cases c.sign == -1 <;> rfl
theorem cTxt_size {c : Con} (h : 0 ≤ c.exp ∧ c.exp ≤ 60 ∧ 1 ≤ c.dim ∧ c.dim ≤ 8) : (cTxt c).size ≤ 13 := by
  have h1 := digS_size (n := c.exp) (by omega) (by omega)
  have h2 := digS_size (n := c.dim) (by omega) (by omega)
  have h3 := sgS_size c
  unfold cTxt
  simp only [ByteArray.size_append, one_size]
  omega
theorem txB_size {L : List Con} (hL : ∀ c ∈ L, 0 ≤ c.exp ∧ c.exp ≤ 60 ∧ 1 ≤ c.dim ∧ c.dim ≤ 8) : ∀ (H : ByteArray), (txB H L).size ≤ H.size + 13 * L.length := by
  induction L with
  | nil => intro H; exact Nat.le_refl _
  | cons c l ih =>
    intro H
    have h1 := ih (fun x hx => hL x (List.mem_cons_of_mem _ hx)) (H ++ cTxt c)
    have h2 := cTxt_size (hL c List.mem_cons_self)
    rw [ByteArray.size_append] at h1
    show (txB (H ++ cTxt c) l).size ≤ _
    simp only [List.length_cons]
    omega
theorem cTxt_m {c : Con} (h : (c.sign == -1) = true) : cTxt c = ⟨#[32]⟩ ++ digS c.exp ++ ⟨#[94]⟩ ++ ⟨#[45]⟩ ++ digS c.dim := by unfold cTxt sgS; rw [h]; rfl
theorem cTxt_p {c : Con} (h : (c.sign == -1) = false) : cTxt c = ⟨#[32]⟩ ++ digS c.exp ++ ⟨#[94]⟩ ++ ⟨#[43]⟩ ++ digS c.dim := by unfold cTxt sgS; rw [h]; rfl
theorem getD_mem {L : List Con} {k : Nat} (hk : k < L.length) : L.getD k Con.zero ∈ L := by
  have : L.getD k Con.zero = L[k] := by simp [hk]
  rw [this]; exact List.getElem_mem hk
theorem fs_loop (L : List Con) (H : ByteArray) (hL : ∀ c ∈ L, 0 ≤ c.exp ∧ c.exp ≤ 60 ∧ 1 ≤ c.dim ∧ c.dim ≤ 8) (hn : L.length ≤ 8) (hH : H.size ≤ 100) : AnnOk Tryz.prog EV.ng (Nat.max 1 Tryz.f10.ntmps) (bodyAt Tryz.f10 [0, 1, 0, 1, 1, 1, 1]) (fsAnn L H) := by
  refine ann_of evOk (callF_ok evOk (orcOf_ok entsFS_ok) 8) none_ann (by kernel_rfl) (by kernel_rfl) (fun i : Nat => (fun (k : Nat) => (⟨[(2, .str ⟨#[]⟩), (3, .int .i64 0), (4, .ptr 1001 0), (17, (roC L).av), (18, .vint .i64 L.length), (19, .vint .i64 (k : Int))], bldH 1100 (txB H (L.take k)), 1101⟩ : St)) i) (fun i : Nat => (fun (k : Nat) => (L.length - k : Nat)) i) (fun (d : Bool) (i : Nat) => (fun (k : Nat) => (k ≤ L.length : Prop)) i) ?_ ?_
  · intro d hd
    exact ⟨(0), [L.length = L.length ∧ (rws L) = (rws L), (↑L.length : Int) = ↑L.length, (0 : Int) = (↑(0 : Nat) : Int), H.size = (txB H (List.take (0 : Nat) L)).size, bytesI H = bytesI (txB H (List.take (0 : Nat) L))], by kernel_rfl, (by refine ⟨?_, ?_, ?_, ?_, (?_ : bytesI H = bytesI (txB H (List.take (0 : Nat) L)))⟩ <;> (first | (with_reducible rfl) | exact ⟨rfl, rfl⟩ | rfl)), (by exact Nat.zero_le _)⟩
  · rintro d hd k hI
    cases d
    · -- d = false
      have hT := txB_size (L := L.take k) (fun c hc => hL c (List.mem_of_mem_take hc)) H
      have hTl : (L.take k).length ≤ 8 := by rw [List.length_take]; omega
      have hz : (txB H (L.take k)).size ≤ 300 := by omega
      refine oe (decide ((↑k : Int) < ↑L.length)) (fun d1 => oe ((L.getD k Con.zero).sign == -1) (fun d2 => ⟨[true, true], .inl ⟨(k + 1), [L.length = L.length ∧ (rws L) = (rws L), (↑L.length : Int) = ↑L.length, IntKind.i64.wrap ((↑k : Int) + 1) = (↑(k + (1 : Nat)) : Int), (txB H (List.take k L)).size + (ByteArray.mk #[(32 : UInt8)] ++ digS (L.getD k Con.zero).exp ++ ByteArray.mk #[(94 : UInt8)] ++ ByteArray.mk #[(45 : UInt8)] ++ digS (L.getD k Con.zero).dim).size = (txB H (List.take (k + (1 : Nat)) L)).size, bytesI (txB H (List.take k L)) ++ bytesI (ByteArray.mk #[(32 : UInt8)] ++ digS (L.getD k Con.zero).exp ++ ByteArray.mk #[(94 : UInt8)] ++ ByteArray.mk #[(45 : UInt8)] ++ digS (L.getD k Con.zero).dim) = bytesI (txB H (List.take (k + (1 : Nat)) L)), (View.ints IntKind.u8 (bytesI (txB H (List.take k L)))).num = (txB H (List.take k L)).size ∧ (txB H (List.take k L)).size + (ByteArray.mk #[(32 : UInt8)] ++ digS (L.getD k Con.zero).exp ++ ByteArray.mk #[(94 : UInt8)] ++ ByteArray.mk #[(45 : UInt8)] ++ digS (L.getD k Con.zero).dim).size ≤ (1000000 : Nat), (ByteArray.mk #[(32 : UInt8)] ++ digS (L.getD k Con.zero).exp ++ ByteArray.mk #[(94 : UInt8)] ++ ByteArray.mk #[(45 : UInt8)]).size + (digS (L.getD k Con.zero).dim).size ≤ (1000000 : Nat), (0 : Int) ≤ (L.getD k Con.zero).dim ∧ (L.getD k Con.zero).dim < 100, (L.getD k Con.zero).dim = (L.getD k Con.zero).dim, (ByteArray.mk #[(32 : UInt8)] ++ digS (L.getD k Con.zero).exp ++ ByteArray.mk #[(94 : UInt8)]).size + (ByteArray.mk #[(45 : UInt8)]).size ≤ (1000000 : Nat), (ByteArray.mk #[(32 : UInt8)] ++ digS (L.getD k Con.zero).exp).size + (ByteArray.mk #[(94 : UInt8)]).size ≤ (1000000 : Nat), (ByteArray.mk #[(32 : UInt8)]).size + (digS (L.getD k Con.zero).exp).size ≤ (1000000 : Nat), (0 : Int) ≤ (L.getD k Con.zero).exp ∧ (L.getD k Con.zero).exp < 100, Dec ((L.getD k Con.zero).sign == -1) true, (0 : Int) ≤ ↑k ∧ (↑k : Int) < ↑L.length, Dec (decide ((↑k : Int) < ↑L.length)) true], by kernel_rfl, ⟨?_, ?_, ?_, ?_, ?_, ?_, ?_, ?_, ?_, ?_, ?_, ?_, ?_, d2, ?_, d1⟩, MuG.out ?_, InG.out ?_⟩⟩) (fun d2 => ⟨[true, false], .inl ⟨(k + 1), [L.length = L.length ∧ (rws L) = (rws L), (↑L.length : Int) = ↑L.length, IntKind.i64.wrap ((↑k : Int) + 1) = (↑(k + (1 : Nat)) : Int), (txB H (List.take k L)).size + (ByteArray.mk #[(32 : UInt8)] ++ digS (L.getD k Con.zero).exp ++ ByteArray.mk #[(94 : UInt8)] ++ ByteArray.mk #[(43 : UInt8)] ++ digS (L.getD k Con.zero).dim).size = (txB H (List.take (k + (1 : Nat)) L)).size, bytesI (txB H (List.take k L)) ++ bytesI (ByteArray.mk #[(32 : UInt8)] ++ digS (L.getD k Con.zero).exp ++ ByteArray.mk #[(94 : UInt8)] ++ ByteArray.mk #[(43 : UInt8)] ++ digS (L.getD k Con.zero).dim) = bytesI (txB H (List.take (k + (1 : Nat)) L)), (View.ints IntKind.u8 (bytesI (txB H (List.take k L)))).num = (txB H (List.take k L)).size ∧ (txB H (List.take k L)).size + (ByteArray.mk #[(32 : UInt8)] ++ digS (L.getD k Con.zero).exp ++ ByteArray.mk #[(94 : UInt8)] ++ ByteArray.mk #[(43 : UInt8)] ++ digS (L.getD k Con.zero).dim).size ≤ (1000000 : Nat), (ByteArray.mk #[(32 : UInt8)] ++ digS (L.getD k Con.zero).exp ++ ByteArray.mk #[(94 : UInt8)] ++ ByteArray.mk #[(43 : UInt8)]).size + (digS (L.getD k Con.zero).dim).size ≤ (1000000 : Nat), (0 : Int) ≤ (L.getD k Con.zero).dim ∧ (L.getD k Con.zero).dim < 100, (L.getD k Con.zero).dim = (L.getD k Con.zero).dim, (ByteArray.mk #[(32 : UInt8)] ++ digS (L.getD k Con.zero).exp ++ ByteArray.mk #[(94 : UInt8)]).size + (ByteArray.mk #[(43 : UInt8)]).size ≤ (1000000 : Nat), (ByteArray.mk #[(32 : UInt8)] ++ digS (L.getD k Con.zero).exp).size + (ByteArray.mk #[(94 : UInt8)]).size ≤ (1000000 : Nat), (ByteArray.mk #[(32 : UInt8)]).size + (digS (L.getD k Con.zero).exp).size ≤ (1000000 : Nat), (0 : Int) ≤ (L.getD k Con.zero).exp ∧ (L.getD k Con.zero).exp < 100, Dec ((L.getD k Con.zero).sign == -1) false, (0 : Int) ≤ ↑k ∧ (↑k : Int) < ↑L.length, Dec (decide ((↑k : Int) < ↑L.length)) true], by kernel_rfl, ⟨?_, ?_, ?_, ?_, ?_, ?_, ?_, ?_, ?_, ?_, ?_, ?_, ?_, d2, ?_, d1⟩, MuG.out ?_, InG.out ?_⟩⟩)) (fun d1 => ⟨[false], .inr ⟨[(txB H (List.take k L)).size = (txB H L).size, bytesI (txB H (List.take k L)) = bytesI (txB H L), Dec (decide ((↑k : Int) < (↑L.length : Int))) false], by kernel_rfl, ⟨?_, ?_, d1⟩, rfl⟩⟩)
      all_goals first | (refine MuG.mk ?_; (simp only [decide_eq_true_eq] at *; show L.length - (k + 1) < L.length - k; omega)) | (refine InG.mk ?_; (simp only [decide_eq_true_eq] at *; show k + 1 ≤ L.length; omega)) | (refine CtG.mk ?_; (exact (5 : Nat))) | (first | (with_reducible rfl) | exact ⟨rfl, rfl⟩ | (simp only [decide_eq_true_eq, decide_eq_false_iff_not] at d1; first | omega | (rw [List.take_of_length_le (by omega)]; done) | (rw [w64 (by omega) (by omega)]; omega) | (have hk : k < L.length := (by omega); have hc := hL _ (getD_mem hk); have h1 := digS_size (n := (L.getD k Con.zero).exp) (by omega) (by omega); have h2 := digS_size (n := (L.getD k Con.zero).dim) (by omega) (by omega); first | omega | (simp only [ByteArray.size_append, one_size]; omega) | (rw [txB_take H hk, ← cTxt_m d2, ByteArray.size_append]; done) | (rw [txB_take H hk, ← cTxt_m d2, bytesI_app]; done) | (rw [txB_take H hk, ← cTxt_p d2, ByteArray.size_append]; done) | (rw [txB_take H hk, ← cTxt_p d2, bytesI_app]; done) | (refine ⟨bytesI_len _, ?_⟩; simp only [ByteArray.size_append, one_size]; omega))))
    · -- d = true
      have hT := txB_size (L := L.take k) (fun c hc => hL c (List.mem_of_mem_take hc)) H
      have hTl : (L.take k).length ≤ 8 := by rw [List.length_take]; omega
      have hz : (txB H (L.take k)).size ≤ 300 := by omega
      refine oe (decide ((↑k : Int) < ↑L.length)) (fun d1 => oe ((L.getD k Con.zero).sign == -1) (fun d2 => ⟨[true, true], .inl ⟨(k + 1), [L.length = L.length ∧ (rws L) = (rws L), (↑L.length : Int) = ↑L.length, IntKind.i64.wrap ((↑k : Int) + 1) = (↑(k + (1 : Nat)) : Int), (txB H (List.take k L)).size + (ByteArray.mk #[(32 : UInt8)] ++ digS (L.getD k Con.zero).exp ++ ByteArray.mk #[(94 : UInt8)] ++ ByteArray.mk #[(45 : UInt8)] ++ digS (L.getD k Con.zero).dim).size = (txB H (List.take (k + (1 : Nat)) L)).size, bytesI (txB H (List.take k L)) ++ bytesI (ByteArray.mk #[(32 : UInt8)] ++ digS (L.getD k Con.zero).exp ++ ByteArray.mk #[(94 : UInt8)] ++ ByteArray.mk #[(45 : UInt8)] ++ digS (L.getD k Con.zero).dim) = bytesI (txB H (List.take (k + (1 : Nat)) L)), (View.ints IntKind.u8 (bytesI (txB H (List.take k L)))).num = (txB H (List.take k L)).size ∧ (txB H (List.take k L)).size + (ByteArray.mk #[(32 : UInt8)] ++ digS (L.getD k Con.zero).exp ++ ByteArray.mk #[(94 : UInt8)] ++ ByteArray.mk #[(45 : UInt8)] ++ digS (L.getD k Con.zero).dim).size ≤ (1000000 : Nat), (ByteArray.mk #[(32 : UInt8)] ++ digS (L.getD k Con.zero).exp ++ ByteArray.mk #[(94 : UInt8)] ++ ByteArray.mk #[(45 : UInt8)]).size + (digS (L.getD k Con.zero).dim).size ≤ (1000000 : Nat), (0 : Int) ≤ (L.getD k Con.zero).dim ∧ (L.getD k Con.zero).dim < 100, (L.getD k Con.zero).dim = (L.getD k Con.zero).dim, (ByteArray.mk #[(32 : UInt8)] ++ digS (L.getD k Con.zero).exp ++ ByteArray.mk #[(94 : UInt8)]).size + (ByteArray.mk #[(45 : UInt8)]).size ≤ (1000000 : Nat), (ByteArray.mk #[(32 : UInt8)] ++ digS (L.getD k Con.zero).exp).size + (ByteArray.mk #[(94 : UInt8)]).size ≤ (1000000 : Nat), (ByteArray.mk #[(32 : UInt8)]).size + (digS (L.getD k Con.zero).exp).size ≤ (1000000 : Nat), (0 : Int) ≤ (L.getD k Con.zero).exp ∧ (L.getD k Con.zero).exp < 100, Dec ((L.getD k Con.zero).sign == -1) true, (0 : Int) ≤ ↑k ∧ (↑k : Int) < ↑L.length, Dec (decide ((↑k : Int) < ↑L.length)) true], by kernel_rfl, ⟨?_, ?_, ?_, ?_, ?_, ?_, ?_, ?_, ?_, ?_, ?_, ?_, ?_, d2, ?_, d1⟩, MuG.out ?_, InG.out ?_⟩⟩) (fun d2 => ⟨[true, false], .inl ⟨(k + 1), [L.length = L.length ∧ (rws L) = (rws L), (↑L.length : Int) = ↑L.length, IntKind.i64.wrap ((↑k : Int) + 1) = (↑(k + (1 : Nat)) : Int), (txB H (List.take k L)).size + (ByteArray.mk #[(32 : UInt8)] ++ digS (L.getD k Con.zero).exp ++ ByteArray.mk #[(94 : UInt8)] ++ ByteArray.mk #[(43 : UInt8)] ++ digS (L.getD k Con.zero).dim).size = (txB H (List.take (k + (1 : Nat)) L)).size, bytesI (txB H (List.take k L)) ++ bytesI (ByteArray.mk #[(32 : UInt8)] ++ digS (L.getD k Con.zero).exp ++ ByteArray.mk #[(94 : UInt8)] ++ ByteArray.mk #[(43 : UInt8)] ++ digS (L.getD k Con.zero).dim) = bytesI (txB H (List.take (k + (1 : Nat)) L)), (View.ints IntKind.u8 (bytesI (txB H (List.take k L)))).num = (txB H (List.take k L)).size ∧ (txB H (List.take k L)).size + (ByteArray.mk #[(32 : UInt8)] ++ digS (L.getD k Con.zero).exp ++ ByteArray.mk #[(94 : UInt8)] ++ ByteArray.mk #[(43 : UInt8)] ++ digS (L.getD k Con.zero).dim).size ≤ (1000000 : Nat), (ByteArray.mk #[(32 : UInt8)] ++ digS (L.getD k Con.zero).exp ++ ByteArray.mk #[(94 : UInt8)] ++ ByteArray.mk #[(43 : UInt8)]).size + (digS (L.getD k Con.zero).dim).size ≤ (1000000 : Nat), (0 : Int) ≤ (L.getD k Con.zero).dim ∧ (L.getD k Con.zero).dim < 100, (L.getD k Con.zero).dim = (L.getD k Con.zero).dim, (ByteArray.mk #[(32 : UInt8)] ++ digS (L.getD k Con.zero).exp ++ ByteArray.mk #[(94 : UInt8)]).size + (ByteArray.mk #[(43 : UInt8)]).size ≤ (1000000 : Nat), (ByteArray.mk #[(32 : UInt8)] ++ digS (L.getD k Con.zero).exp).size + (ByteArray.mk #[(94 : UInt8)]).size ≤ (1000000 : Nat), (ByteArray.mk #[(32 : UInt8)]).size + (digS (L.getD k Con.zero).exp).size ≤ (1000000 : Nat), (0 : Int) ≤ (L.getD k Con.zero).exp ∧ (L.getD k Con.zero).exp < 100, Dec ((L.getD k Con.zero).sign == -1) false, (0 : Int) ≤ ↑k ∧ (↑k : Int) < ↑L.length, Dec (decide ((↑k : Int) < ↑L.length)) true], by kernel_rfl, ⟨?_, ?_, ?_, ?_, ?_, ?_, ?_, ?_, ?_, ?_, ?_, ?_, ?_, d2, ?_, d1⟩, MuG.out ?_, InG.out ?_⟩⟩)) (fun d1 => ⟨[false], .inr ⟨[(txB H (List.take k L)).size = (txB H L).size, bytesI (txB H (List.take k L)) = bytesI (txB H L), Dec (decide ((↑k : Int) < (↑L.length : Int))) false], by kernel_rfl, ⟨?_, ?_, d1⟩, rfl⟩⟩)
      all_goals first | (refine MuG.mk ?_; (simp only [decide_eq_true_eq] at *; show L.length - (k + 1) < L.length - k; omega)) | (refine InG.mk ?_; (simp only [decide_eq_true_eq] at *; show k + 1 ≤ L.length; omega)) | (refine CtG.mk ?_; (exact (5 : Nat))) | (first | (with_reducible rfl) | exact ⟨rfl, rfl⟩ | (simp only [decide_eq_true_eq, decide_eq_false_iff_not] at d1; first | omega | (rw [List.take_of_length_le (by omega)]; done) | (rw [w64 (by omega) (by omega)]; omega) | (have hk : k < L.length := (by omega); have hc := hL _ (getD_mem hk); have h1 := digS_size (n := (L.getD k Con.zero).exp) (by omega) (by omega); have h2 := digS_size (n := (L.getD k Con.zero).dim) (by omega) (by omega); first | omega | (simp only [ByteArray.size_append, one_size]; omega) | (rw [txB_take H hk, ← cTxt_m d2, ByteArray.size_append]; done) | (rw [txB_take H hk, ← cTxt_m d2, bytesI_app]; done) | (rw [txB_take H hk, ← cTxt_p d2, ByteArray.size_append]; done) | (rw [txB_take H hk, ← cTxt_p d2, bytesI_app]; done) | (refine ⟨bytesI_len _, ?_⟩; simp only [ByteArray.size_append, one_size]; omega))))
theorem txB_ge : ∀ (L : List Con) (H : ByteArray), H.size ≤ (txB H L).size
  | [], H => Nat.le_refl _
  | c :: l, H => by
    have := txB_ge l (H ++ cTxt c)
    rw [ByteArray.size_append] at this
    show _ ≤ (txB (H ++ cTxt c) l).size
    omega
theorem bytesI_bd (s : ByteArray) : ∀ x ∈ bytesI s, 0 ≤ x ∧ x < 256 := by
  intro x hx
  unfold bytesI at hx
  obtain ⟨b, _, rfl⟩ := List.mem_map.1 hx
  have := UInt8.toNat_lt b
  omega
theorem strOf_bytes (s : ByteArray) : strOfNums (bytesI s) = s := by
  unfold strOfNums bytesI
  apply ByteArray.ext
  apply Array.ext'
  simp [Function.comp_def]
theorem fmtS_good (p : Int) (L : List Con) (hv : vSv p L = true) (hL : ∀ c ∈ L, 0 ≤ c.exp ∧ c.exp ≤ 60 ∧ 1 ≤ c.dim ∧ c.dim ≤ 8) (hn : L.length ≤ 8) (hp : 0 ≤ p ∧ p ≤ 9973) : PureC Tryz.prog [offT, powT] 10 [.agg [.int .i64 p, roC L]] (.tup [.str (txS p L), .int .i64 0]) := by
  have hk : vSv p (consR L.length fun i => (L.getD i Con.zero).rvs) = true := (by rw [consR_ro]; exact hv); have hH0 : (digS p ++ ⟨#[58]⟩ : ByteArray).size ≤ 100 := (by rw [ByteArray.size_append, one_size]; have := digS_size hp.1 (by omega); omega)
  have rr := fun (tp : List Bool) (ms : List Prop) h hm => pure_run evOk (callF_ok evOk (orcOf_ok entsFS_ok) 8) Tryz.func10 (A := [.agg [.int .i64 p, roC L]]) (N := Nat.max 1 Tryz.f10.ntmps) rfl (one_ann (fs_loop L (digS p ++ ⟨#[58]⟩) hL hn hH0)) rfl rfl evNg (tabs := [offT, powT]) (R := .tup [.str (txS p L), .int .i64 0]) (tp := tp) (ms := ms) h hm
  refine rr [false] [strOfNums (bytesI (txB (digS p ++ ByteArray.mk #[(58 : UInt8)]) L)) = txS p L, (0 : Int) = 0, (0 : Int) < (↑(txB (digS p ++ ByteArray.mk #[(58 : UInt8)]) L).size : Int) ∧ (↑(txB (digS p ++ ByteArray.mk #[(58 : UInt8)]) L).size : Int) = (↑(bytesI (txB (digS p ++ ByteArray.mk #[(58 : UInt8)]) L)).length : Int) ∧ (↑(txB (digS p ++ ByteArray.mk #[(58 : UInt8)]) L).size : Int) ≤ 1000000000, ∀ (x : Int), x ∈ bytesI (txB (digS p ++ ByteArray.mk #[(58 : UInt8)]) L) → (0 : Int) ≤ x ∧ x < 256, (0 : Nat) < (txB (digS p ++ ByteArray.mk #[(58 : UInt8)]) L).size, L.length = L.length ∧ (rws L) = (rws L), (↑L.length : Int) = ↑L.length, (digS p ++ ByteArray.mk #[(58 : UInt8)]).size = (digS p ++ ByteArray.mk #[(58 : UInt8)]).size, bytesI (digS p ++ ByteArray.mk #[(58 : UInt8)]) = bytesI (digS p ++ ByteArray.mk #[(58 : UInt8)]), (0 : Nat) < (digS p ++ ByteArray.mk #[(58 : UInt8)]).size ∧ (digS p ++ ByteArray.mk #[(58 : UInt8)]).size ≤ (1000000 : Nat), (digS p).size + (ByteArray.mk #[(58 : UInt8)]).size ≤ (1000000 : Nat), (-9223372036854775808 : Int) ≤ p ∧ p ≤ 9223372036854775807, Dec (!vSv p (consR L.length (rws L))) false, (∀ (i : Nat), i < L.length → (rws L) i = (Con.ofR ((rws L) i)).rvs) ∧ L.length ≤ (1000 : Nat)] (by kernel_rfl) ⟨?_, ?_, ?_, ?_, ?_, ?_, ?_, ?_, ?_, ?_, ?_, ?_, (dN hk), (?_ : (∀ (i : Nat), i < L.length → (rws L) i = (Con.ofR ((rws L) i)).rvs) ∧ L.length ≤ (1000 : Nat))⟩
  all_goals first | (first | (with_reducible rfl) | exact ⟨rfl, rfl⟩ | (have e1 := one_size 58; have e2 := digS_size hp.1 (by omega); have e3 := txB_ge L (digS p ++ ⟨#[58]⟩); have e4 := txB_size hL (digS p ++ ⟨#[58]⟩); rw [ByteArray.size_append] at e3 e4; first | omega | (rw [strOf_bytes]; rfl) | exact bytesI_bd _ | exact ⟨fun _ _ => rfl, by omega⟩ | (rw [ByteArray.size_append]; omega) | (refine ⟨by omega, ?_, by omega⟩; rw [bytesI_len])))
theorem fmtS_bad (p : Int) (L : List Con) (hv : vSv p L = false) (hn : L.length ≤ 1000) : PureC Tryz.prog [offT, powT] 10 [.agg [.int .i64 p, roC L]] (.tup [.str ⟨#[]⟩, .int .i64 22]) := by
  have hk : vSv p (consR L.length fun i => (L.getD i Con.zero).rvs) = false := (by rw [consR_ro]; exact hv)
  have rr := fun (tp : List Bool) (ms : List Prop) h hm => pure_run evOk (callF_ok evOk (orcOf_ok entsFS_ok) 8) Tryz.func10 (A := [.agg [.int .i64 p, roC L]]) rfl none_ann rfl rfl evNg (tabs := [offT, powT]) (R := .tup [.str ⟨#[]⟩, .int .i64 22]) (tp := tp) (ms := ms) h hm
  refine rr [true] [ByteArray.mk #[] = ByteArray.mk #[], (22 : Int) = 22, Dec (!vSv p (consR L.length (rws L))) true, (∀ (i : Nat), i < L.length → (rws L) i = (Con.ofR ((rws L) i)).rvs) ∧ L.length ≤ (1000 : Nat)] (by kernel_rfl) ⟨?_, ?_, (dN hk), (?_ : (∀ (i : Nat), i < L.length → (rws L) i = (Con.ofR ((rws L) i)).rvs) ∧ L.length ≤ (1000 : Nat))⟩
  all_goals first | (first | (with_reducible rfl) | exact ⟨fun _ _ => rfl, hn⟩)
theorem vS_bounds {p : Int} {L : List Con} (h : vSv p L = true) : (∀ c ∈ L, 0 ≤ c.exp ∧ c.exp ≤ 60 ∧ 1 ≤ c.dim ∧ c.dim ≤ 8) ∧ L.length ≤ 8 ∧ (0 ≤ p ∧ p ≤ 9973) := by
  obtain ⟨h1, h2, _, _, h5⟩ := Q.vS_parts h
  have g1 := Q.vL_good (by omega) (by omega) h5
  have g2 := Q.vL_len (by omega) h5
  refine ⟨fun c hc => ?_, by simp at g2; omega, by omega, h2⟩
  obtain ⟨a, b, d, e, _⟩ := g1 (toQ c) (List.mem_map.2 ⟨c, hc, rfl⟩)
  exact ⟨a, b, d, e⟩
theorem fmtS_pure (p : Int) (L : List Con) (hn : L.length ≤ 1000) : PureC Tryz.prog [offT, powT] 10 [.agg [.int .i64 p, roC L]] (.tup [.str (bif vSv p L then txS p L else ⟨#[]⟩), .int .i64 (bif vSv p L then 0 else 22)]) := by
  cases h : vSv p L with
  | true =>
    obtain ⟨h1, h2, h3⟩ := vS_bounds h
    exact fmtS_good p L h h1 h2 h3
  | false => exact fmtS_bad p L h hn
end Go.Proofs.YtgdhgnhgmbkpdaaGreatDoor.S

namespace Go.Proofs.YtgdhgnhgmbkpdaaGreatDoor.S
open Go.QfSy Go.RowKit
def iiS : ByteArray := ⟨#[73, 73]⟩
def pd (w : ByteArray) : ByteArray := cA (cB w [94]) [95]
def po (w : ByteArray) : ByteArray := cB (cB w [94]) [95]
def pcT (w : ByteArray) : Con × Bool :=
  bif eqB (pd w) ⟨#[]⟩ then (Con.zero, false) else
    (⟨atoiV (cA w [94]).data.toList, atoiV (tl1 (pd w)).data.toList, bif neg0 (pd w) then -1 else 1, !eqB (po w) iiS, bif eqB (po w) iiS then 0 else atoiV (po w).data.toList⟩, atoiE (cA w [94]).data.toList && (atoiE (tl1 (pd w)).data.toList && (bif eqB (po w) iiS then true else atoiE (po w).data.toList)))
attribute [local irreducible] Lib.cut Lib.atoiAll strL ByteArray.extract ByteArray.toList
end Go.Proofs.YtgdhgnhgmbkpdaaGreatDoor.S

namespace Go.Proofs.YtgdhgnhgmbkpdaaGreatDoor.S
open Go.QfSy Go.RowKit
end Go.Proofs.YtgdhgnhgmbkpdaaGreatDoor.S

namespace Go.Proofs.YtgdhgnhgmbkpdaaGreatDoor.S
open Go.QfSy Go.RowKit
end Go.Proofs.YtgdhgnhgmbkpdaaGreatDoor.S

namespace Go.Proofs.YtgdhgnhgmbkpdaaGreatDoor.S
open Go.QfSy Go.RowKit
end Go.Proofs.YtgdhgnhgmbkpdaaGreatDoor.S

namespace Go.Proofs.YtgdhgnhgmbkpdaaGreatDoor.S
open Go.QfSy Go.RowKit
end Go.Proofs.YtgdhgnhgmbkpdaaGreatDoor.S

namespace Go.Proofs.YtgdhgnhgmbkpdaaGreatDoor.S
open Go.QfSy Go.RowKit
def fusC (c : Con) : Bool := decide (0 ≤ c.oddity ∧ c.oddity ≤ 7) && (c.odd || (decide (c.dim % 2 = 0) && decide (c.oddity = 0)))
def fusI (L : List Con) (i : Nat) : Bool := fusC (at_ L i) && !(oddB L i && (!((partM L i).getD 0 0 == (i : Int)) && !((at_ L i).oddity == 0)))
def dimR (L : List Con) : List Int → Int
  | [] => 0
  | i :: l => (at_ L i.toNat).dim + dimR L l
def parR (L : List Con) (l : List Int) : Bool := decide (((at_ L (l.getD 0 0).toNat).oddity - dimR L l) % 2 = 0)
def fusM (p : Int) (L : List Con) : Bool := (p == 2) && (orderV L && ((List.range L.length).all (fusI L) && (partsM L).all (parR L)))
end Go.Proofs.YtgdhgnhgmbkpdaaGreatDoor.S

namespace Go.Proofs.YtgdhgnhgmbkpdaaGreatDoor.S
open Go.QfSy Go.RowKit
end Go.Proofs.YtgdhgnhgmbkpdaaGreatDoor.S

namespace Go.Proofs.YtgdhgnhgmbkpdaaGreatDoor.S
open Go.QfSy Go.RowKit
noncomputable def loH (p : Int) (L : List Con) : List (Nat × Blk) := [(1000, ⟨.plain [.vint .i64 p, (roC L).av], 24, 0, false, true⟩)]
end Go.Proofs.YtgdhgnhgmbkpdaaGreatDoor.S

namespace Go.Proofs.YtgdhgnhgmbkpdaaGreatDoor.S
open Go.QfSy Go.RowKit
end Go.Proofs.YtgdhgnhgmbkpdaaGreatDoor.S

namespace Go.Proofs.YtgdhgnhgmbkpdaaGreatDoor.S
open Go.QfSy Go.RowKit
end Go.Proofs.YtgdhgnhgmbkpdaaGreatDoor.S

namespace Go.Proofs.YtgdhgnhgmbkpdaaGreatDoor.S
open Go.QfSy Go.RowKit
noncomputable def shV (p : Int) (L : List Con) : Bool := val2M p L || fusM p L
end Go.Proofs.YtgdhgnhgmbkpdaaGreatDoor.S

namespace Go.Proofs.YtgdhgnhgmbkpdaaGreatDoor.S
open Go.QfSy Go.RowKit
def odS (c : Con) : ByteArray := bif c.odd then digS c.oddity else iiS
def cTxt2 (c : Con) : ByteArray := cTxt c ++ ⟨#[95]⟩ ++ odS c
def txB2 (h : ByteArray) : List Con → ByteArray
  | [] => h
  | c :: l => txB2 (h ++ cTxt2 c) l
def txT (L : List Con) : ByteArray := txB2 ⟨#[50, 58]⟩ L
def okD (c : Con) : Prop := (0 ≤ c.exp ∧ c.exp ≤ 60 ∧ 1 ≤ c.dim ∧ c.dim ≤ 8) ∧ 0 ≤ c.oddity ∧ c.oddity ≤ 7
theorem txB2_take (H : ByteArray) {L : List Con} {k : Nat} (hk : k < L.length) : txB2 H (L.take (k + 1)) = txB2 H (L.take k) ++ cTxt2 (L.getD k Con.zero) := by
  induction L generalizing H k with
  | nil => simp at hk
  | cons c l ih =>
    cases k with
    | zero => rfl
    | succ k => exact ih (H ++ cTxt2 c) (by simpa using hk)
theorem odS_size {c : Con} (h : 0 ≤ c.oddity ∧ c.oddity ≤ 7) : (odS c).size ≤ 4 := by
  unfold odS
  cases c.odd with
  | true => exact digS_size h.1 (by omega)
  | false => show iiS.size ≤ 4; exact Nat.le_of_ble_eq_true rfl
theorem cTxt2_size {c : Con} (h : okD c) : (cTxt2 c).size ≤ 18 := by
  have h1 := cTxt_size h.1
  have h2 := odS_size h.2
  unfold cTxt2
  simp only [ByteArray.size_append, one_size]
  omega
theorem txB2_size {L : List Con} (hL : ∀ c ∈ L, okD c) : ∀ (H : ByteArray), (txB2 H L).size ≤ H.size + 18 * L.length := by
  induction L with
  | nil => intro H; exact Nat.le_refl _
  | cons c l ih =>
    intro H
    have h1 := ih (fun x hx => hL x (List.mem_cons_of_mem _ hx)) (H ++ cTxt2 c)
    have h2 := cTxt2_size (hL c List.mem_cons_self)
    rw [ByteArray.size_append] at h1
    show (txB2 (H ++ cTxt2 c) l).size ≤ _
    simp only [List.length_cons]
    omega
theorem cTxt2_mo {c : Con} (h : (c.sign == -1) = true) (ho : c.odd = true) : cTxt2 c = ⟨#[32]⟩ ++ digS c.exp ++ ⟨#[94]⟩ ++ ⟨#[45]⟩ ++ digS c.dim ++ ⟨#[95]⟩ ++ digS c.oddity := by unfold cTxt2 odS; rw [cTxt_m h, ho]; rfl
theorem cTxt2_me {c : Con} (h : (c.sign == -1) = true) (ho : c.odd = false) : cTxt2 c = ⟨#[32]⟩ ++ digS c.exp ++ ⟨#[94]⟩ ++ ⟨#[45]⟩ ++ digS c.dim ++ ⟨#[95]⟩ ++ ⟨#[73, 73]⟩ := by unfold cTxt2 odS; rw [cTxt_m h, ho]; rfl
theorem cTxt2_po {c : Con} (h : (c.sign == -1) = false) (ho : c.odd = true) : cTxt2 c = ⟨#[32]⟩ ++ digS c.exp ++ ⟨#[94]⟩ ++ ⟨#[43]⟩ ++ digS c.dim ++ ⟨#[95]⟩ ++ digS c.oddity := by unfold cTxt2 odS; rw [cTxt_p h, ho]; rfl
theorem cTxt2_pe {c : Con} (h : (c.sign == -1) = false) (ho : c.odd = false) : cTxt2 c = ⟨#[32]⟩ ++ digS c.exp ++ ⟨#[94]⟩ ++ ⟨#[43]⟩ ++ digS c.dim ++ ⟨#[95]⟩ ++ ⟨#[73, 73]⟩ := by unfold cTxt2 odS; rw [cTxt_p h, ho]; rfl
end Go.Proofs.YtgdhgnhgmbkpdaaGreatDoor.S

namespace Go.Proofs.YtgdhgnhgmbkpdaaGreatDoor.S
open Go.QfSy Go.RowKit
def rfA : Code → Code
  | .rangeFunc _ _ a _ => a
  | c => c
def rfB : Code → Code
  | .rangeFunc _ _ _ b => b
  | c => c
def atF (fn : Func) (p : List Nat) : Code := (subC p (fn.body.getD .skip)).getD .skip
def restS (s : ByteArray) : ByteArray := cB s [58, 32]
def wordsS (s : ByteArray) : List ByteArray := (spl (restS s).data.toList).map strL
noncomputable def resH (p e : Int) (v : AV) : List (Nat × Blk) := [(1000, ⟨.plain [.int .i64 p, v], 24, 0, false, true⟩), (1001, ⟨.plain [.int .i64 e], 31, 0, false, true⟩)]
def trR : Option (AEx × Tr AV × Hs) → Tr AV
  | some (_, T, _) => T
  | none => .nil
end Go.Proofs.YtgdhgnhgmbkpdaaGreatDoor.S

namespace Go.Proofs.YtgdhgnhgmbkpdaaGreatDoor.S
open Go.QfSy Go.RowKit
def leadN (f : ByteArray → Con × Bool) : List ByteArray → Nat
  | [] => 0
  | w :: l => bif (f w).2 then leadN f l + 1 else 0
theorem leadN_le (f : ByteArray → Con × Bool) : ∀ l, leadN f l ≤ l.length
  | [] => Nat.le_refl _
  | w :: l => by
    have := leadN_le f l
    rw [leadN]
    cases (f w).2 <;> simp only [cond_true, cond_false, List.length_cons] <;> omega
theorem leadN_ok (f : ByteArray → Con × Bool) : ∀ (l : List ByteArray) (k : Nat) (x : ByteArray), l[k]? = some x → k < leadN f l → (f x).2 = true
  | [], k, x, h, _ => by simp at h
  | w :: l, k, x, h, hk => by
    rw [leadN] at hk
    cases hw : (f w).2 with
    | false => rw [hw] at hk; simp at hk
    | true =>
      rw [hw] at hk
      cases k with
      | zero => simp at h; subst h; exact hw
      | succ k => exact leadN_ok f l k x (by simpa using h) (by simp at hk; omega)
theorem leadN_bad (f : ByteArray → Con × Bool) : ∀ (l : List ByteArray) (x : ByteArray), l[leadN f l]? = some x → (f x).2 = false
  | [], x, h => by simp at h
  | w :: l, x, h => by
    rw [leadN] at h
    cases hw : (f w).2 with
    | false => rw [hw] at h; simp at h; subst h; exact hw
    | true => rw [hw] at h; exact leadN_bad f l x (by simpa using h)
theorem spl_len : ∀ l : List UInt8, (spl l).length ≤ l.length + 1
  | [] => Nat.le_refl _
  | c :: l => by
    have := spl_len l
    rw [spl]
    split
    · simp; omega
    · split
      · rename_i w ws h
        rw [h] at this
        simp at this ⊢; omega
      · simp
theorem spl_word : ∀ (l : List UInt8), ∀ w ∈ spl l, w.length ≤ l.length
  | [], w, h => by simp [spl] at h; subst h; exact Nat.le_refl _
  | c :: l, w, h => by
    rw [spl] at h
    split at h
    · rcases List.mem_cons.1 h with rfl | h
      · simp
      · have := spl_word l w h; simp; omega
    · split at h
      · rename_i v vs hs
        rcases List.mem_cons.1 h with rfl | h
        · have := spl_word l v (by rw [hs]; exact List.mem_cons_self)
          simp; omega
        · have := spl_word l w (by rw [hs]; exact List.mem_cons_of_mem _ h)
          simp; omega
      · simp at h; subst h; simp
theorem rest_size (s : ByteArray) : (restS s).size ≤ s.size := cB_size _ _
theorem words_len (s : ByteArray) : (wordsS s).length ≤ s.size + 1 := by
  unfold wordsS
  rw [List.length_map]
  have := spl_len (restS s).data.toList
  have h2 := rest_size s
  have h3 : (restS s).data.toList.length = (restS s).size := by rw [Array.length_toList]; rfl
  omega
theorem words_size (s : ByteArray) : ∀ w ∈ wordsS s, w.size ≤ s.size := by
  intro w hw
  unfold wordsS at hw
  obtain ⟨v, hv, rfl⟩ := List.mem_map.1 hw
  have := spl_word _ v hv
  rw [strL_size]
  have h2 := rest_size s
  have h3 : (restS s).data.toList.length = (restS s).size := by rw [Array.length_toList]; rfl
  omega
theorem enter_of {P : Program} {f : FuncId} {fn : Func} {c : Code} (hf : P.funcs[f]? = some fn) (hname : (fn.name == "runtime.NumGoroutine") = false) (hb : fn.body = some c) (args : Array Value) (w : World) :
    (callFunc f args).run P w = .ok (.enter f args) w := by
  have h1 : fn.name ≠ "runtime.NumGoroutine" := by simpa using hname
  simp [callFunc, hf, h1, hb]
def rdW (f : ByteArray → Con × Bool) (W : List ByteArray) : List Con := W.map fun w => (f w).1
noncomputable def badR : RV := .tup [.agg [.int .i64 0, roC []], .int .i64 2]
def conT (s : ByteArray) : List Con := rdW pcT (wordsS s)
noncomputable def goodT (s : ByteArray) : Bool := (leadN pcT (wordsS s) == (wordsS s).length) && (shV 2 (conT s) && eqB (txT (conT s)) s)
theorem words_ne (s : ByteArray) : 0 < (wordsS s).length := by
  unfold wordsS
  rw [List.length_map]
  have := spl_ne (restS s).data.toList
  exact List.length_pos_iff.2 this
theorem rdW_take {f : ByteArray → Con × Bool} {W : List ByteArray} {k : Nat} {x : ByteArray} (h : W[k]? = some x) : rdW f (W.take (k + 1)) = rdW f (W.take k) ++ [(f x).1] := by
  unfold rdW
  rw [List.take_add_one, h]
  simp
end Go.Proofs.YtgdhgnhgmbkpdaaGreatDoor.S

namespace Go.Proofs.YtgdhgnhgmbkpdaaGreatDoor.S
open Go.QfSy Go.RowKit
noncomputable def entsPS : List OEnt := entsS ++ [
  ⟨37, [maxT, rngT, synT], fun A => match A with
    | [.str w] => some (.tup [.agg (pcS w).1.rvs, .bool (pcS w).2], [w.size ≤ 1000000])
    | _ => none⟩,
  ⟨10, [offT, powT], fun A => match A with
    | [.agg [.int .i64 p, .sl n 5 row]] => some (.tup [.str (bif vSv p (consR n row) then txS p (consR n row) else ⟨#[]⟩), .int .i64 (bif vSv p (consR n row) then 0 else 22)], [(∀ i, i < n → row i = (Con.ofR (row i)).rvs) ∧ n ≤ 1000])
    | _ => none⟩]
theorem entsPS_ok : ∀ e ∈ entsPS, EntOk Tryz.prog e := by
  intro e he
  unfold entsPS at he
  rcases List.mem_append.1 he with h | h
  · exact entsS_ok e h
  · simp only [List.mem_cons, List.not_mem_nil, or_false] at h
    rcases h with rfl | rfl
    · intro A R ms h hm
      simp only at h
      split at h
      · cases h; exact pcS_pure _ (hm _ (by simp))
      · cases h
    · intro A R ms h hm
      simp only at h
      split at h
      · cases h
        obtain ⟨h1, h2⟩ := hm _ (List.mem_singleton.2 rfl)
        exact PureC.imp (fmtS_pure _ _ (by rw [consR_len]; exact h2)) (.cons (.agg (.cons .same (.cons (.con h1) .nil))) .nil)
      · cases h
noncomputable abbrev psL : List Code := [atF Tryz.f12 [0], atF Tryz.f12 [1, 0], atF Tryz.f12 [1, 1, 0], atF Tryz.f12 [1, 1, 1, 0], atF Tryz.f12 [1, 1, 1, 1, 0]]
noncomputable abbrev psD : Code := atF Tryz.f12 [1, 1, 1, 1, 1, 0, 0]
noncomputable abbrev psX : Code := atF Tryz.f12 [1, 1, 1, 1, 1, 0, 1, 0]
noncomputable abbrev psR : Code := atF Tryz.f12 [1, 1, 1, 1, 1, 1]
theorem ps_body : Tryz.f12.body = some (preC psL (.seq (.seq psD (.block 0 (.rangeFunc (.tmp 32) #[33] (rfA psX) (rfB psX)))) psR)) := by kernel_rfl
noncomputable abbrev callS : CallF := callF EV (orcOf EV.ng entsPS) 8
def headS (s : ByteArray) : List UInt8 := (cA s [58, 32]).data.toList
noncomputable def psT0 (s : ByteArray) : List (Nat × AV) := [(0, .vstr s), (2, .ptr 1000 0), (3, .ptr 1001 0), (9, .ptr 1002 0), (32, .fn 98 [.ptr 1004 0, .ptr 1003 0, .ptr 1005 0])]
def sTabs : List Tb := [maxT, rngT, synT, offT, powT]
noncomputable def psPre (s : ByteArray) : List (Nat × Blk) := tabList sTabs ++ resH 0 0 .nils ++ [(1002, ⟨.plain [.vint .i64 (prsV (headS s)), .nils], 24, 0, false, true⟩), (1003, ⟨.plain [.vstr (restS s)], 9, 0, false, true⟩), (1004, ⟨.plain [.str ⟨#[32]⟩], 9, 0, false, true⟩), (1005, ⟨.plain [.int .i64 0], 3, 0, false, true⟩)]
noncomputable def psM (p : Int) (C : List Con) : List (Nat × Blk) := match C with
  | [] => tabList sTabs ++ resH 0 0 .nils ++ [(1002, ⟨.plain [.vint .i64 p, .nils], 24, 0, false, true⟩)]
  | c :: l => tabList sTabs ++ resH 0 0 .nils ++ [(1002, ⟨.plain [.vint .i64 p, .lo 1100 (l.length + 1)], 24, 0, false, true⟩), (1100, ⟨.con (c :: l), 59, 5, true, true⟩)]
noncomputable def psE : List (Nat × Blk) := tabList sTabs ++ resH 0 2 .nils
noncomputable def psT1 (s x : ByteArray) : Tr AV := trR (evCode EV callS noLo 62 999 [0] (rfA psX) (trOf ((33, .vstr x) :: psT0 s)) (stH ⟨[], [], 1200⟩ []))
theorem ps_assign (s : ByteArray) (m : List (Nat × Blk)) (x : ByteArray) (q : List Bool) : evCode EV callS noLo 62 999 [0] (rfA psX) (trOf ((33, .vstr x) :: psT0 s)) (stH ⟨[], m, 1200⟩ q) = some (.normal, psT1 s x, stH ⟨[], m, 1200⟩ q) := by kernel_rfl
theorem ps_s1 : straight (preC psL psD) = true := by kernel_rfl
theorem ps_s2 : straight psR = true := by kernel_rfl
theorem ps_s3 : straight (rfA psX) = true := by kernel_rfl
theorem ps_s4 : straight (rfB psX) = true := by kernel_rfl
end Go.Proofs.YtgdhgnhgmbkpdaaGreatDoor.S

namespace Go.Proofs.YtgdhgnhgmbkpdaaGreatDoor.S
open Go.QfSy Go.RowKit
theorem ps_pre (s : ByteArray) (hs : s.size ≤ 1000000) (hp : prsE (headS s) = true) : ∃ q ms, outA (evCode EV callS noLo 62 999 [] (preC psL psD) (Tr.ofList (RV.avl [RV.str s])) ⟨trOf (tabList sTabs), 1000, q, []⟩) .normal ⟨psT0 s, psPre s, 1006⟩ 1000 = some ms ∧ allP ms :=
  ⟨[false], [s = s, prsV (strL (Lib.cut s.data.toList (#[58, 32] : Array UInt8).toList).1).data.toList = prsV (headS s), strL (Lib.cut s.data.toList (#[58, 32] : Array UInt8).toList).2.1 = restS s, Dec (!prsE (strL (Lib.cut s.data.toList (#[58, 32] : Array UInt8).toList).1).data.toList) false, (strL (Lib.cut s.data.toList (#[58, 32] : Array UInt8).toList).1).size ≤ 1000000, s.size ≤ 1000000], by kernel_rfl, rfl, rfl, rfl, (by show (!prsE (headS s)) = false; rw [hp]; rfl), Nat.le_trans (cA_size s [58, 32]) hs, hs⟩
theorem ps_none (s : ByteArray) (hs : s.size ≤ 1000000) (hp : prsE (headS s) = false) : PureC Tryz.prog sTabs 12 [.str s] badR := by
  have e : outR (bodyF EV callS (loL []) 12 (RV.avl [RV.str s]) ⟨trOf (tabList sTabs), 1000, [true], []⟩) badR = some [(0 : Int) = 0, (0 : Nat) = 0, (2 : Int) = 2, Dec (!prsE (strL (Lib.cut s.data.toList (#[58, 32] : Array UInt8).toList).1).data.toList) true, (strL (Lib.cut s.data.toList (#[58, 32] : Array UInt8).toList).1).size ≤ 1000000, s.size ≤ 1000000] := by kernel_rfl
  exact pure_run evOk (callF_ok evOk (orcOf_ok entsPS_ok) 8) Tryz.func12 (A := [.str s]) rfl none_ann (by kernel_rfl) (by kernel_rfl) evNg (tabs := sTabs) (R := badR) e ⟨rfl, rfl, rfl, (by show (!prsE (headS s)) = true; rw [hp]; rfl), Nat.le_trans (cA_size s [58, 32]) hs, hs⟩
theorem ps_go0 (s x : ByteArray) (p : Int) (h : (pcS x).2 = true) (hx : x.size ≤ 1000000) : ∃ q ms rn, outS (evCode EV callS noLo 62 999 [1] (rfB psX) (psT1 s x) (stH ⟨[], psM p [], 1200⟩ q)) .normal ⟨[], psM p [(pcS x).1], 1200⟩ 1006 rn = some ms ∧ allP ms := by
  have e : outA (evCode EV callS noLo 62 999 [1] (rfB psX) (psT1 s x) (stH ⟨[], psM p [], 1200⟩ [false])) .normal ⟨[], psM p [(pcS x).1], 1200⟩ 1006 = some [p = p, (1 : Nat) = 0 + 1, [(pcS x).1] = [(pcS x).1], (0 : Nat) < 1 ∧ (1 : Nat) ≤ 1000000, Dec (!(pcS x).2) false, x.size ≤ 1000000] := by kernel_rfl
  exact ⟨_, _, _, e, rfl, rfl, rfl, ⟨by omega, by omega⟩, (by show (!(pcS x).2) = false; rw [h]; rfl), hx⟩
theorem ps_go1 (s x : ByteArray) (p : Int) (c : Con) (l : List Con) (h : (pcS x).2 = true) (hx : x.size ≤ 1000000) (hl : l.length ≤ 999990) : ∃ q ms rn, outS (evCode EV callS noLo 62 999 [1] (rfB psX) (psT1 s x) (stH ⟨[], psM p (c :: l), 1200⟩ q)) .normal ⟨[], psM p (c :: (l ++ [(pcS x).1])), 1200⟩ 1006 rn = some ms ∧ allP ms := by
  have e : outA (evCode EV callS noLo 62 999 [1] (rfB psX) (psT1 s x) (stH ⟨[], psM p (c :: l), 1200⟩ [false])) .normal ⟨[], psM p (c :: (l ++ [(pcS x).1])), 1200⟩ 1006 = some [p = p, l.length + 1 + 1 = (l ++ [(pcS x).1]).length + 1, c :: l ++ [(pcS x).1] = c :: (l ++ [(pcS x).1]), (View.con (c :: l)).num = l.length + 1 ∧ l.length + 1 + 1 ≤ 1000000, Dec (!(pcS x).2) false, x.size ≤ 1000000] := by kernel_rfl
  exact ⟨_, _, _, e, rfl, by simp, rfl, ⟨rfl, by omega⟩, (by show (!(pcS x).2) = false; rw [h]; rfl), hx⟩
theorem ps_ret0 (s x : ByteArray) (p : Int) (h : (pcS x).2 = false) (hx : x.size ≤ 1000000) : ∃ q ms rn, outS (evCode EV callS noLo 62 999 [1] (rfB psX) (psT1 s x) (stH ⟨[], psM p [], 1200⟩ q)) .ret ⟨[], psE, 1200⟩ 1006 rn = some ms ∧ allP ms := by
  have e : outA (evCode EV callS noLo 62 999 [1] (rfB psX) (psT1 s x) (stH ⟨[], psM p [], 1200⟩ [true])) .ret ⟨[], psE, 1200⟩ 1006 = some [Dec (!(pcS x).2) true, x.size ≤ 1000000] := by kernel_rfl
  exact ⟨_, _, _, e, (by show (!(pcS x).2) = true; rw [h]; rfl), hx⟩
theorem ps_ret1 (s x : ByteArray) (p : Int) (c : Con) (l : List Con) (h : (pcS x).2 = false) (hx : x.size ≤ 1000000) : ∃ q ms rn, outS (evCode EV callS noLo 62 999 [1] (rfB psX) (psT1 s x) (stH ⟨[], psM p (c :: l), 1200⟩ q)) .ret ⟨[], psE, 1200⟩ 1006 rn = some ms ∧ allP ms := by
  have e : outA (evCode EV callS noLo 62 999 [1] (rfB psX) (psT1 s x) (stH ⟨[], psM p (c :: l), 1200⟩ [true])) .ret ⟨[], psE, 1200⟩ 1006 = some [Dec (!(pcS x).2) true, x.size ≤ 1000000] := by kernel_rfl
  exact ⟨_, _, _, e, (by show (!(pcS x).2) = true; rw [h]; rfl), hx⟩
theorem ps_post0 (s : ByteArray) : ∃ q ms, outR (postF EV callS 62 Tryz.f12 psR (psT0 s) (.ret, psE) 1200 q) badR = some ms ∧ allP ms := by
  have e : outR (postF EV callS 62 Tryz.f12 psR (psT0 s) (.ret, psE) 1200 []) badR = some [(0 : Int) = 0, (0 : Nat) = 0, (2 : Int) = 2] := by kernel_rfl
  exact ⟨_, _, e, rfl, rfl, rfl⟩
theorem ps_post1 (s : ByteArray) (p : Int) (c : Con) (l : List Con) (hl : l.length + 1 ≤ 1000) (h : vSv p (c :: l) = false) : ∃ q ms, outR (postF EV callS 62 Tryz.f12 psR (psT0 s) (.normal, psM p (c :: l)) 1200 q) badR = some ms ∧ allP ms := by
  have e : outR (postF EV callS 62 Tryz.f12 psR (psT0 s) (.normal, psM p (c :: l)) 1200 [true]) badR = some [(0 : Int) = 0, (0 : Nat) = 0, (2 : Int) = 2, Dec ((bif vSv p (consR (l.length + 1) (rws (c :: l))) then (0 : Int) else 22) != 0) true, l.length + 1 = (c :: l).length, (∀ (i : Nat), i < l.length + 1 → ((rws (c :: l))) i = (Con.ofR (((rws (c :: l))) i)).rvs) ∧ l.length + 1 ≤ 1000] := by kernel_rfl
  refine ⟨_, _, e, rfl, rfl, rfl, ?_, rfl, fun _ _ => rfl, hl⟩
  show ((bif vSv p (consR (l.length + 1) fun i => ((c :: l).getD i Con.zero).rvs) then (0 : Int) else 22) != 0) = true
  rw [show (consR (l.length + 1) fun i => ((c :: l).getD i Con.zero).rvs) = c :: l from consR_ro (c :: l), h]
  rfl
theorem ps_post2 (s : ByteArray) (p : Int) (c : Con) (l : List Con) (hl : l.length + 1 ≤ 1000) (h : vSv p (c :: l) = true) (h2 : eqB (txS p (c :: l)) s = false) : ∃ q ms, outR (postF EV callS 62 Tryz.f12 psR (psT0 s) (.normal, psM p (c :: l)) 1200 q) badR = some ms ∧ allP ms := by
  have e : outR (postF EV callS 62 Tryz.f12 psR (psT0 s) (.normal, psM p (c :: l)) 1200 [false, true]) badR = some [(0 : Int) = 0, (0 : Nat) = 0, (2 : Int) = 2, Dec (!((bif vSv p (consR (l.length + 1) (rws (c :: l))) then txS p (consR (l.length + 1) (rws (c :: l))) else (⟨#[]⟩ : ByteArray)).toList == s.toList)) true, Dec ((bif vSv p (consR (l.length + 1) (rws (c :: l))) then (0 : Int) else 22) != 0) false, l.length + 1 = (c :: l).length, (∀ (i : Nat), i < l.length + 1 → ((rws (c :: l))) i = (Con.ofR (((rws (c :: l))) i)).rvs) ∧ l.length + 1 ≤ 1000] := by kernel_rfl
  refine ⟨_, _, e, rfl, rfl, rfl, ?_, ?_, rfl, fun _ _ => rfl, hl⟩
  · show (!((bif vSv p (consR (l.length + 1) fun i => ((c :: l).getD i Con.zero).rvs) then txS p (consR (l.length + 1) fun i => ((c :: l).getD i Con.zero).rvs) else (⟨#[]⟩ : ByteArray)).toList == s.toList)) = true
    rw [show (consR (l.length + 1) fun i => ((c :: l).getD i Con.zero).rvs) = c :: l from consR_ro (c :: l), h]
    show (!(eqB (txS p (c :: l)) s)) = true
    rw [h2]; rfl
  · show ((bif vSv p (consR (l.length + 1) fun i => ((c :: l).getD i Con.zero).rvs) then (0 : Int) else 22) != 0) = false
    rw [show (consR (l.length + 1) fun i => ((c :: l).getD i Con.zero).rvs) = c :: l from consR_ro (c :: l), h]
    rfl
theorem ps_post3 (s : ByteArray) (p : Int) (c : Con) (l : List Con) (hl : l.length + 1 ≤ 1000) (h : vSv p (c :: l) = true) (h2 : eqB (txS p (c :: l)) s = true) : ∃ q ms, outR (postF EV callS 62 Tryz.f12 psR (psT0 s) (.normal, psM p (c :: l)) 1200 q) (.tup [.agg [.int .i64 p, roC (c :: l)], .int .i64 0]) = some ms ∧ allP ms := by
  have e : outR (postF EV callS 62 Tryz.f12 psR (psT0 s) (.normal, psM p (c :: l)) 1200 [false, false]) (.tup [.agg [.int .i64 p, roC (c :: l)], .int .i64 0]) = some [p = p, l.length + 1 = (c :: l).length ∧ l.length + 1 = (c :: l).length ∧ ∀ (i : Nat), i < l.length + 1 → ((rws (c :: l))) i = ((c :: l).getD i Con.zero).rvs, (0 : Int) = 0, Dec (!((bif vSv p (consR (l.length + 1) (rws (c :: l))) then txS p (consR (l.length + 1) (rws (c :: l))) else (⟨#[]⟩ : ByteArray)).toList == s.toList)) false, Dec ((bif vSv p (consR (l.length + 1) (rws (c :: l))) then (0 : Int) else 22) != 0) false, l.length + 1 = (c :: l).length, (∀ (i : Nat), i < l.length + 1 → ((rws (c :: l))) i = (Con.ofR (((rws (c :: l))) i)).rvs) ∧ l.length + 1 ≤ 1000] := by kernel_rfl
  refine ⟨_, _, e, rfl, ⟨rfl, rfl, fun _ _ => rfl⟩, rfl, ?_, ?_, rfl, fun _ _ => rfl, hl⟩
  · show (!((bif vSv p (consR (l.length + 1) fun i => ((c :: l).getD i Con.zero).rvs) then txS p (consR (l.length + 1) fun i => ((c :: l).getD i Con.zero).rvs) else (⟨#[]⟩ : ByteArray)).toList == s.toList)) = false
    rw [show (consR (l.length + 1) fun i => ((c :: l).getD i Con.zero).rvs) = c :: l from consR_ro (c :: l), h]
    show (!(eqB (txS p (c :: l)) s)) = false
    rw [h2]; rfl
  · show ((bif vSv p (consR (l.length + 1) fun i => ((c :: l).getD i Con.zero).rvs) then (0 : Int) else 22) != 0) = false
    rw [show (consR (l.length + 1) fun i => ((c :: l).getD i Con.zero).rvs) = c :: l from consR_ro (c :: l), h]
    rfl
def conS (s : ByteArray) : List Con := rdW pcS (wordsS s)
noncomputable def goodS (s : ByteArray) : Bool := prsE (headS s) && ((leadN pcS (wordsS s) == (wordsS s).length) && (vSv (prsV (headS s)) (conS s) && eqB (txS (prsV (headS s)) (conS s)) s))
noncomputable def resS (s : ByteArray) : RV := bif goodS s then .tup [.agg [.int .i64 (prsV (headS s)), roC (conS s)], .int .i64 0] else badR
theorem ps_sub (s : ByteArray) : ∀ b k, (trOf (psM (prsV (headS s)) [])).get b = some k → (trOf (psPre s)).get b = some k ∧ b ≠ 1004 ∧ b ≠ 1003 ∧ b ≠ 1005 := by
  intro b k h
  have hm := trOf_get _ _ _ (by kernel_rfl) h
  have hm : (b, k) ∈ [(maxT.g, maxT.blk), (rngT.g, rngT.blk), (synT.g, synT.blk), (offT.g, offT.blk), (powT.g, powT.blk), ((1000 : Nat), (⟨.plain [.int .i64 0, .nils], 24, 0, false, true⟩ : Blk)), (1001, ⟨.plain [.int .i64 0], 31, 0, false, true⟩), (1002, ⟨.plain [.vint .i64 (prsV (headS s)), .nils], 24, 0, false, true⟩)] := hm
  simp only [List.mem_cons, List.not_mem_nil, or_false, Prod.mk.injEq] at hm
  rcases hm with ⟨rfl, rfl⟩ | ⟨rfl, rfl⟩ | ⟨rfl, rfl⟩ | ⟨rfl, rfl⟩ | ⟨rfl, rfl⟩ | ⟨rfl, rfl⟩ | ⟨rfl, rfl⟩ | ⟨rfl, rfl⟩ <;> exact ⟨by kernel_rfl, by decide, by decide, by decide⟩
theorem parseS_pure (s : ByteArray) (hs : s.size ≤ 900) : PureC Tryz.prog sTabs 12 [.str s] (resS s) := by
  cases hp : prsE (headS s) with
  | false =>
    have : resS s = badR := by unfold resS goodS; rw [hp]; rfl
    rw [this]
    exact ps_none s (by omega) hp
  | true =>
  obtain ⟨p, hpp⟩ : ∃ p, prsV (headS s) = p := ⟨_, rfl⟩
  have hlen := words_len s
  have hsz := words_size s
  have hle := leadN_le pcS (wordsS s)
  have hpos := words_ne s
  have hwz : ∀ {k : Nat} {x : ByteArray}, (wordsS s)[k]? = some x → x.size ≤ 1000000 := fun h => by
    have := hsz _ (List.mem_of_getElem? h)
    omega
  have hrl : ∀ k, (rdW pcS ((wordsS s).take k)).length ≤ 1000 := fun k => by
    unfold rdW
    rw [List.length_map, List.length_take]
    omega
  refine pure_rf evOk (callF_ok evOk (orcOf_ok entsPS_ok) 8) Tryz.func12 ps_body ps_s1 ps_s2 ps_s3 ps_s4 (Nat.le_of_ble_eq_true (by kernel_rfl)) (N := 62) (by kernel_rfl) (tabs := sTabs) (by kernel_rfl) (by kernel_rfl) evNg
    (split_iter (restS s) (by have := rest_size s; omega)) (enter_of Tryz.func98 (by kernel_rfl) rfl)
    (T0 := psT0 s) (pre := psPre s) (bp := 1004) (bs := 1003) (bv := 1005) (nx0 := 1006) (nx1 := 1200) (by omega) (by omega) (ps_pre s (by omega) hp)
    (fun k => psM (prsV (headS s)) (rdW pcS ((wordsS s).take k))) (bif leadN pcS (wordsS s) == (wordsS s).length then (.normal, psM (prsV (headS s)) (conS s)) else (.ret, psE)) (leadN pcS (wordsS s))
    (by kernel_rfl) (by omega) (by kernel_rfl) (by kernel_rfl) (by kernel_rfl) (by kernel_rfl) (by omega) (by omega) (ps_sub s) (psT1 s) (fun k x q => ps_assign s _ x q) ?_ ?_ ?_
  · intro k x hx hk
    have hx : (wordsS s)[k]? = some x := hx
    have h := leadN_ok pcS _ k x hx hk
    have hl := hrl k
    rw [rdW_take hx]
    cases hC : rdW pcS ((wordsS s).take k) with
    | nil => exact ps_go0 s x _ h (hwz hx)
    | cons c l =>
      rw [hC] at hl
      simp only [List.length_cons] at hl
      exact ps_go1 s x _ c l h (hwz hx) (by omega)
  · cases hK : leadN pcS (wordsS s) == (wordsS s).length with
    | true =>
      have hK := eq_of_beq hK
      refine .inl ⟨hK, ?_⟩
      show (AEx.normal, psM (prsV (headS s)) (conS s)) = (AEx.normal, psM (prsV (headS s)) (rdW pcS ((wordsS s).take (leadN pcS (wordsS s)))))
      rw [hK, List.take_length]
      rfl
    | false =>
      have hK := ne_of_beq_false hK
      refine .inr ⟨?_, rfl, fun x hx => ?_⟩
      · show leadN pcS (wordsS s) < (wordsS s).length
        omega
      · have h := leadN_bad pcS _ x hx
        cases hC : rdW pcS ((wordsS s).take (leadN pcS (wordsS s))) with
        | nil => exact ps_ret0 s x _ h (hwz hx)
        | cons c l => exact ps_ret1 s x _ c l h (hwz hx)
  · unfold resS goodS
    rw [hp, Bool.true_and]
    cases hK : leadN pcS (wordsS s) == (wordsS s).length with
    | false => exact ps_post0 s
    | true =>
      have hcl : (conS s).length = (wordsS s).length := by unfold conS rdW; rw [List.length_map]
      cases hC : conS s with
      | nil => rw [hC] at hcl; simp at hcl; omega
      | cons c l =>
        rw [hC] at hcl
        simp only [List.length_cons] at hcl
        cases h1 : vSv (prsV (headS s)) (c :: l) with
        | false => exact ps_post1 s _ c l (by omega) h1
        | true =>
          cases h2 : eqB (txS (prsV (headS s)) (c :: l)) s with
          | false => exact ps_post2 s _ c l (by omega) h1 h2
          | true => exact ps_post3 s _ c l (by omega) h1 h2
end Go.Proofs.YtgdhgnhgmbkpdaaGreatDoor.S

namespace Go.Proofs.YtgdhgnhgmbkpdaaGreatDoor.S
open Go.QfSy Go.RowKit
def sgB8 (c : Con) : UInt8 := bif c.sign == -1 then 45 else 43
def wL (c : Con) : List UInt8 := Lib.itoa c.exp ++ 94 :: sgB8 c :: Lib.itoa c.dim
theorem itoa_nat {n : Int} (h : 0 ≤ n) : Lib.itoa n = Lib.decDigits n.toNat := by
  unfold Lib.itoa; rw [if_neg (by omega)]
theorem tl1_cons (x : UInt8) (r : List UInt8) : tl1 (strL (x :: r)) = strL r := by
  unfold tl1
  apply ByteArray.ext
  rw [ByteArray.data_extract, strL_size]
  simp [strL]
theorem neg0_cons (x : UInt8) (r : List UInt8) : neg0 (strL (x :: r)) = ((x.toNat : Int) == 45) := rfl
theorem strL_ne (x : UInt8) (r : List UInt8) : eqB (strL (x :: r)) ⟨#[]⟩ = false := by
  cases h : eqB (strL (x :: r)) ⟨#[]⟩ with
  | false => rfl
  | true =>
    have := congrArg ByteArray.size (eqB_true h)
    rw [strL_size] at this
    cases this
theorem atoi_itoa {n : Int} (h0 : 0 ≤ n) (h1 : n < 10000) : Lib.atoiAll (Lib.itoa n) = .ok n := by
  rw [itoa_nat h0, atoi_dec _ (Nat.le_trans (dec_len 3 n.toNat (by omega)) (by omega)) (by omega)]
  congr 1
  omega
theorem itoa_free {n : Int} (h0 : 0 ≤ n) {c : UInt8} (h : c.toNat < 48 ∨ 57 < c.toNat) : c ∉ Lib.itoa n := by
  rw [itoa_nat h0]; exact dec_free h
theorem pcS_word {c : Con} (h : 0 ≤ c.exp ∧ c.exp ≤ 60 ∧ 1 ≤ c.dim ∧ c.dim ≤ 8) (hs : c.sign = 1 ∨ c.sign = -1) (ho : c.odd = false) (hz : c.oddity = 0) : pcS (strL (wL c)) = (c, true) := by
  have hc : Lib.cut (wL c) [94] = (Lib.itoa c.exp, sgB8 c :: Lib.itoa c.dim, true) := cut_one _ (itoa_free h.1 (.inr (by decide)))
  have eA : cA (strL (wL c)) [94] = strL (Lib.itoa c.exp) := by show strL (Lib.cut (wL c) [94]).1 = _; rw [hc]
  have eB : cB (strL (wL c)) [94] = strL (sgB8 c :: Lib.itoa c.dim) := by show strL (Lib.cut (wL c) [94]).2.1 = _; rw [hc]
  have a1 := atoi_itoa (n := c.exp) (by omega) (by omega)
  have a2 := atoi_itoa (n := c.dim) (by omega) (by omega)
  have d1 : (strL (Lib.itoa c.exp)).data.toList = Lib.itoa c.exp := rfl
  have d2 : (strL (Lib.itoa c.dim)).data.toList = Lib.itoa c.dim := rfl
  unfold pcS
  rw [eA, eB, strL_ne, tl1_cons, neg0_cons, d1, d2]
  unfold atoiV atoiE
  rw [a1, a2]
  obtain ⟨e, d, s, o, t⟩ := c
  simp only at hs ho hz
  subst ho hz
  rcases hs with rfl | rfl <;> rfl
theorem sgB8_ne (c : Con) : (95 : UInt8) ≠ sgB8 c ∧ (32 : UInt8) ≠ sgB8 c := by unfold sgB8; cases c.sign == -1 <;> decide
theorem index_two {c d : UInt8} : ∀ {a : List UInt8} (b : List UInt8), c ∉ a → Lib.index (a ++ c :: d :: b) [c, d] = a.length
  | [], b, _ => by simp [Lib.index, List.isPrefixOf]
  | x :: a, b, h => by
    have hx : c ≠ x := fun e => h (by rw [e]; exact List.mem_cons_self)
    have ih := index_two (d := d) (a := a) b (fun hm => h (List.mem_cons_of_mem _ hm))
    show (if [c, d].isPrefixOf (x :: (a ++ c :: d :: b)) then 0 else if Lib.index (a ++ c :: d :: b) [c, d] == -1 then -1 else Lib.index (a ++ c :: d :: b) [c, d] + 1) = _
    rw [ih]
    have h1 : [c, d].isPrefixOf (x :: (a ++ c :: d :: b)) = false := by simp [List.isPrefixOf, hx]
    rw [h1]
    have h2 : ((a.length : Int) == -1) = false := by rw [beq_eq_false_iff_ne]; omega
    rw [h2]
    simp
theorem cut_two {c d : UInt8} {a : List UInt8} (b : List UInt8) (h : c ∉ a) : Lib.cut (a ++ c :: d :: b) [c, d] = (a, b, true) := by
  unfold Lib.cut
  rw [index_two b h, if_pos (by omega)]
  have e1 : ((a.length : Int)).toNat = a.length := by omega
  rw [e1]
  have e2 : (a ++ c :: d :: b).take a.length = a := by simp
  have e3 : (a ++ c :: d :: b).drop (a.length + [c, d].length) = b := by
    rw [← List.drop_drop, List.drop_left]; rfl
  rw [e2, e3]
theorem cTxt_list (c : Con) : (cTxt c).data.toList = 32 :: wL c := by
  unfold cTxt sgS wL sgB8 digS
  simp only [ByteArray.data_append, Array.toList_append]
  cases c.sign == -1 <;> simp [strL]
theorem txB_list : ∀ (L : List Con) (H : ByteArray), (txB H L).data.toList = H.data.toList ++ L.flatMap fun c => 32 :: wL c
  | [], H => by simp [txB]
  | c :: l, H => by
    show (txB (H ++ cTxt c) l).data.toList = _
    rw [txB_list l, ByteArray.data_append, Array.toList_append, cTxt_list]
    simp
theorem spl_flat (w : Con → List UInt8) : ∀ (l : List Con) (c : Con), (∀ x ∈ c :: l, (32 : UInt8) ∉ w x) → spl (w c ++ l.flatMap fun x => 32 :: w x) = (c :: l).map w
  | [], c, h => by simpa using spl_word0 (h c (by simp))
  | d :: l, c, h => by
    have ih := spl_flat w l d (fun x hx => h x (List.mem_cons_of_mem _ hx))
    show spl (w c ++ (32 :: w d ++ l.flatMap fun x => 32 :: w x)) = _
    rw [show (32 :: w d ++ l.flatMap fun x => 32 :: w x) = 32 :: (w d ++ l.flatMap fun x => 32 :: w x) from rfl, spl_app _ (h c (by simp)), ih]
    rfl
end Go.Proofs.YtgdhgnhgmbkpdaaGreatDoor.S

namespace Go.Proofs.YtgdhgnhgmbkpdaaGreatDoor.S
open Go.QfSy Go.RowKit
def digB (m : Int) : ByteArray := strL [UInt8.ofNat (48 + (m % 10).toNat)]
def decX (n : Int) (a : ByteArray) : ByteArray := bif decide (10 ≤ n) then digS (n / 10) ++ a else a
theorem strL_app (a b : List UInt8) : strL (a ++ b) = strL a ++ strL b := by
  apply ByteArray.ext
  rw [ByteArray.data_append]
  simp [strL]
theorem dig_small {m : Int} (h0 : 0 ≤ m) (h1 : m < 10) : digS m = digB m := by
  unfold digS digB Lib.itoa
  rw [if_neg (by omega), Lib.decDigits, dif_pos (by omega)]
  have : (m % 10).toNat = m.toNat := by omega
  rw [this]
theorem dig_big {m : Int} (h1 : 10 ≤ m) : digS m = digS (m / 10) ++ digB m := by
  unfold digS digB Lib.itoa
  rw [if_neg (by omega), if_neg (by omega), Lib.decDigits, dif_neg (by omega), strL_app]
  have e1 : m.toNat / 10 = (m / 10).toNat := by omega
  have e2 : m.toNat % 10 = (m % 10).toNat := by omega
  rw [e1, e2]
theorem decX_step {n : Int} (a : ByteArray) (h : 10 ≤ n) : decX n a = decX (n / 10) (digB (n / 10) ++ a) := by
  unfold decX
  rw [decide_eq_true h]
  simp only [cond_true]
  by_cases h2 : 10 ≤ n / 10
  · rw [decide_eq_true h2, dig_big h2]
    simp only [cond_true]
    rw [ByteArray.append_assoc]
  · rw [decide_eq_false h2, dig_small (by omega) (by omega)]
    rfl
theorem dig_num {d : Int} (h0 : 0 ≤ d) (h1 : d < 10) : strOfNums [IntKind.u8.wrap (48 + d)] = strL [UInt8.ofNat (48 + d.toNat)] := by
  have : IntKind.u8.wrap (48 + d) = 48 + d := by
    unfold IntKind.wrap
    simp [IntKind.bits, IntKind.signed]
    omega
  rw [this]
  unfold strOfNums strL
  have e : (48 + d).toNat = 48 + d.toNat := by omega
  simp [e]
theorem dig_wrap {n : Int} (h0 : 0 ≤ n) (h1 : n < 100000) : strOfNums [IntKind.u8.wrap (IntKind.i64.wrap ((48 : Int) + n.tmod 10))] = digB n := by
  have e : n.tmod 10 = n % 10 := Int.tmod_eq_emod_of_nonneg h0
  rw [e, w64 (by omega) (by omega), dig_num (by omega) (by omega)]
  rfl
theorem div_wrap {n : Int} (h0 : 0 ≤ n) (h1 : n < 100000) : IntKind.i64.wrap (n.tdiv 10) = n / 10 := by
  rw [Int.tdiv_eq_ediv_of_nonneg h0, w64 (by omega) (by omega)]
theorem digB_size (m : Int) : (digB m).size = 1 := rfl
theorem decX_end {n : Int} (h0 : 0 ≤ n) : decX n (digB n) = digS n := by
  unfold decX
  by_cases h2 : 10 ≤ n
  · rw [decide_eq_true h2, dig_big h2]; rfl
  · rw [decide_eq_false h2, dig_small h0 (by omega)]; rfl
noncomputable def dmAnn (n : Int) (acc F : ByteArray) : Ann := ⟨⟨[(0, .vint .i64 n), (3, .vstr acc)], [], 1001⟩, none, fun _ => (.exit 0, ⟨[(3, .vstr F)], [], 1001⟩)⟩
theorem dm_loop (n0 : Int) (a0 F : ByteArray) (h0 : 0 ≤ n0) (h1 : n0 < 100000) (ha : a0.size ≤ 10) (hF : decX n0 a0 = F) : AnnOk Tryz.prog EV.ng (Nat.max 1 Tryz.f59.ntmps) (bodyAt Tryz.f59 [0, 0, 1, 1]) (dmAnn n0 a0 F) := by
  refine ann_of evOk (callF_ok evOk (noOrc_ok _ _) 8) none_ann (by kernel_rfl) (by kernel_rfl) (fun i : Int × ByteArray => (fun (q : Int × ByteArray) => (⟨[(0, .vint .i64 q.1), (3, .vstr q.2)], [], 1001⟩ : St)) i) (fun i : Int × ByteArray => (fun (q : Int × ByteArray) => (q.1.toNat : Nat)) i) (fun (d : Bool) (i : Int × ByteArray) => (fun (q : Int × ByteArray) => (0 ≤ q.1 ∧ q.1 < 100000 ∧ q.2.size + q.1.toNat ≤ 200000 ∧ decX q.1 q.2 = F : Prop)) i) ?_ ?_
  · intro d hd
    exact ⟨((n0, a0)), [n0 = n0, a0 = a0], by kernel_rfl, (by refine ⟨?_, (?_ : a0 = a0)⟩ <;> (first | rfl | assumption | omega | simp_all)), (by exact ⟨h0, h1, (by show a0.size + n0.toNat ≤ 200000; omega), hF⟩)⟩
  · rintro d hd q hI
    cases d
    · -- d = false
      obtain ⟨g0, g1, g2, g3⟩ := hI
      refine oe (decide (q.fst ≥ 10)) (fun d1 => ⟨[true], .inl ⟨((q.1 / 10, digB (q.1 / 10) ++ q.2)), [IntKind.i64.wrap (q.fst.tdiv (10 : Int)) = q.fst / (10 : Int), strOfNums [IntKind.u8.wrap (IntKind.i64.wrap ((48 : Int) + (IntKind.i64.wrap (q.fst.tdiv (10 : Int))).tmod (10 : Int)))] ++ q.snd = digB (q.fst / (10 : Int)) ++ q.snd, (strOfNums [IntKind.u8.wrap (IntKind.i64.wrap ((48 : Int) + (IntKind.i64.wrap (q.fst.tdiv (10 : Int))).tmod (10 : Int)))]).size + q.snd.size ≤ (1000000 : Nat), (10 : Int) ≠ (0 : Int), (10 : Int) ≠ (0 : Int), Dec (decide (q.fst ≥ 10)) true], by kernel_rfl, ⟨?_, ?_, ?_, ?_, ?_, d1⟩, MuG.out ?_, InG.out ?_⟩⟩) (fun d1 => ⟨[false], .inr ⟨[q.snd = F, Dec (decide (q.fst ≥ (10 : Int))) false], by kernel_rfl, ⟨?_, d1⟩, rfl⟩⟩)
      all_goals first | (refine MuG.mk ?_; (simp only [decide_eq_true_eq] at *; show (q.1 / 10).toNat < q.1.toNat; omega)) | (refine InG.mk ?_; (simp only [decide_eq_true_eq] at *; exact ⟨by show 0 ≤ q.1 / 10; omega, by show q.1 / 10 < 100000; omega, by show (digB (q.1 / 10) ++ q.2).size + (q.1 / 10).toNat ≤ 200000; rw [ByteArray.size_append, digB_size]; omega, by show decX (q.1 / 10) (digB (q.1 / 10) ++ q.2) = F; rw [← decX_step _ (by omega)]; exact g3⟩)) | (refine CtG.mk ?_; (exact (5 : Nat))) | (first | (with_reducible rfl) | exact div_wrap g0 g1 | (simp only [decide_eq_true_eq, decide_eq_false_iff_not] at d1; first | omega | (rw [div_wrap g0 g1, dig_wrap (by omega) (by omega)]; done) | (rw [div_wrap g0 g1, dig_wrap (by omega) (by omega), digB_size]; omega) | (unfold decX at g3; rw [decide_eq_false (by omega)] at g3; exact g3)))
    · -- d = true
      obtain ⟨g0, g1, g2, g3⟩ := hI
      refine oe (decide (q.fst ≥ 10)) (fun d1 => ⟨[true], .inl ⟨((q.1 / 10, digB (q.1 / 10) ++ q.2)), [IntKind.i64.wrap (q.fst.tdiv (10 : Int)) = q.fst / (10 : Int), strOfNums [IntKind.u8.wrap (IntKind.i64.wrap ((48 : Int) + (IntKind.i64.wrap (q.fst.tdiv (10 : Int))).tmod (10 : Int)))] ++ q.snd = digB (q.fst / (10 : Int)) ++ q.snd, (strOfNums [IntKind.u8.wrap (IntKind.i64.wrap ((48 : Int) + (IntKind.i64.wrap (q.fst.tdiv (10 : Int))).tmod (10 : Int)))]).size + q.snd.size ≤ (1000000 : Nat), (10 : Int) ≠ (0 : Int), (10 : Int) ≠ (0 : Int), Dec (decide (q.fst ≥ 10)) true], by kernel_rfl, ⟨?_, ?_, ?_, ?_, ?_, d1⟩, MuG.out ?_, InG.out ?_⟩⟩) (fun d1 => ⟨[false], .inr ⟨[q.snd = F, Dec (decide (q.fst ≥ (10 : Int))) false], by kernel_rfl, ⟨?_, d1⟩, rfl⟩⟩)
      all_goals first | (refine MuG.mk ?_; (simp only [decide_eq_true_eq] at *; show (q.1 / 10).toNat < q.1.toNat; omega)) | (refine InG.mk ?_; (simp only [decide_eq_true_eq] at *; exact ⟨by show 0 ≤ q.1 / 10; omega, by show q.1 / 10 < 100000; omega, by show (digB (q.1 / 10) ++ q.2).size + (q.1 / 10).toNat ≤ 200000; rw [ByteArray.size_append, digB_size]; omega, by show decX (q.1 / 10) (digB (q.1 / 10) ++ q.2) = F; rw [← decX_step _ (by omega)]; exact g3⟩)) | (refine CtG.mk ?_; (exact (5 : Nat))) | (first | (with_reducible rfl) | exact div_wrap g0 g1 | (simp only [decide_eq_true_eq, decide_eq_false_iff_not] at d1; first | omega | (rw [div_wrap g0 g1, dig_wrap (by omega) (by omega)]; done) | (rw [div_wrap g0 g1, dig_wrap (by omega) (by omega), digB_size]; omega) | (unfold decX at g3; rw [decide_eq_false (by omega)] at g3; exact g3)))
theorem decimal_pure (n : Int) (h0 : 0 ≤ n) (h1 : n < 100000) : PureC Tryz.prog [] 59 [.int .i64 n] (.str (digS n)) := by
  have hl0 := dm_loop n (strOfNums [IntKind.u8.wrap (IntKind.i64.wrap ((48 : Int) + n.tmod (10 : Int)))]) (digS n) h0 h1 (by rw [dig_wrap h0 h1, digB_size]; omega) (by rw [dig_wrap h0 h1]; exact decX_end h0)
  have rr := fun (tp : List Bool) (ms : List Prop) h hm => pure_run evOk (callF_ok evOk (noOrc_ok _ _) 8) Tryz.func59 (A := [.int .i64 n]) (N := Nat.max 1 Tryz.f59.ntmps) rfl (one_ann hl0) rfl rfl evNg (tabs := []) (R := .str (digS n)) (tp := tp) (ms := ms) h hm
  refine rr [] [digS n = digS n, n = n, strOfNums [IntKind.u8.wrap (IntKind.i64.wrap ((48 : Int) + n.tmod (10 : Int)))] = strOfNums [IntKind.u8.wrap (IntKind.i64.wrap ((48 : Int) + n.tmod (10 : Int)))], (10 : Int) ≠ (0 : Int)] (by kernel_rfl) ⟨?_, ?_, ?_, (?_ : (10 : Int) ≠ (0 : Int))⟩
  all_goals first | (first | (with_reducible rfl) | omega)
end Go.Proofs.YtgdhgnhgmbkpdaaGreatDoor.S

namespace Go.Proofs.YtgdhgnhgmbkpdaaGreatDoor.S
open Go.QfSy Go.RowKit
noncomputable def entsDM : List OEnt := [
  ⟨59, [], fun A => match A with
    | [.int .i64 n] => some (.str (digS n), [0 ≤ n ∧ n < 100000])
    | _ => none⟩]
theorem entsDM_ok : ∀ e ∈ entsDM, EntOk Tryz.prog e := by
  intro e he
  unfold entsDM at he
  rw [List.mem_singleton] at he
  subst he
  intro A R ms h hm
  simp only at h
  split at h
  · cases h
    have := hm _ (List.mem_singleton.2 rfl)
    exact decimal_pure _ this.1 this.2
  · cases h
theorem sg_p {x : Int} (h : (x == 1) = true) : (x == -1) = false := by rw [eq_of_beq h]; rfl
theorem sg_m {x : Int} (hs : x = 1 ∨ x = -1) (h : (x == 1) = false) : (x == -1) = true := by
  rcases hs with rfl | rfl
  · cases h
  · rfl
theorem ii3 : (ByteArray.mk #[95, 73, 73]) = ByteArray.mk #[95] ++ ByteArray.mk #[73, 73] := rfl
theorem ii3_size : (ByteArray.mk #[95, 73, 73]).size = 3 := rfl
noncomputable def t1Ann (p : Int) (L : List Con) (H : ByteArray) : Ann := ⟨⟨[(1, .ptr 1000 0), (3, .vstr H), (11, (roC L).av), (12, .vint .i64 L.length), (13, .int .i64 0)], loH p L, 1010⟩, none, fun _ => (.exit 0, ⟨[(3, .vstr (txB H L))], [], 1010⟩)⟩
theorem t1_loop (p : Int) (L : List Con) (H : ByteArray) (hp : p ≠ 2) (hL : ∀ c ∈ L, okD c ∧ (c.sign = 1 ∨ c.sign = -1)) (hn : L.length ≤ 8) (hH : H.size ≤ 100) : AnnOk Tryz.prog EV.ng (Nat.max 1 Tryz.f33.ntmps) (bodyAt Tryz.f33 [0, 1, 0, 1, 1]) (t1Ann p L H) := by
  refine ann_of evOk (callF_ok evOk (orcOf_ok entsDM_ok) 8) none_ann (by kernel_rfl) (by kernel_rfl) (fun i : Nat => (fun (k : Nat) => (⟨[(1, .ptr 1000 0), (3, .vstr (txB H (L.take k))), (11, (roC L).av), (12, .vint .i64 L.length), (13, .vint .i64 (k : Int))], loH p L, 1010⟩ : St)) i) (fun i : Nat => (fun (k : Nat) => (L.length - k : Nat)) i) (fun (d : Bool) (i : Nat) => (fun (k : Nat) => (k ≤ L.length : Prop)) i) ?_ ?_
  · intro d hd
    exact ⟨(0), [H = txB H (List.take (0 : Nat) L), L.length = L.length ∧ (rws L) = (rws L), (↑L.length : Int) = ↑L.length, (0 : Int) = (↑(0 : Nat) : Int), p = p, L.length = L.length ∧ (rws L) = (rws L)], by kernel_rfl, (by refine ⟨?_, ?_, ?_, ?_, ?_, (?_ : L.length = L.length ∧ (rws L) = (rws L))⟩ <;> (first | (with_reducible rfl) | exact ⟨rfl, rfl⟩ | rfl)), (by exact Nat.zero_le _)⟩
  · rintro d hd k hI
    cases d
    · -- d = false
      have hT := txB_size (L := L.take k) (fun c hc => (hL c (List.mem_of_mem_take hc)).1.1) H
      have hTl : (L.take k).length ≤ 8 := by rw [List.length_take]; omega
      have hz : (txB H (L.take k)).size ≤ 300 := by omega
      refine oe (decide ((↑k : Int) < ↑L.length)) (fun d1 => oe ((L.getD k Con.zero).sign == 1) (fun d2 => ⟨[true, true, true], .inl ⟨(k + 1), [txB H (List.take k L) ++ (ByteArray.mk #[(32 : UInt8)] ++ digS (L.getD k Con.zero).exp ++ ByteArray.mk #[(94 : UInt8)]) ++ ByteArray.mk #[(43 : UInt8)] ++ digS (L.getD k Con.zero).dim = txB H (List.take (k + (1 : Nat)) L), L.length = L.length ∧ (rws L) = (rws L), (↑L.length : Int) = ↑L.length, IntKind.i64.wrap ((↑k : Int) + 1) = (↑(k + (1 : Nat)) : Int), p = p, L.length = L.length ∧ (rws L) = (rws L), Dec (p != (2 : Int)) true, (txB H (List.take k L) ++ (ByteArray.mk #[(32 : UInt8)] ++ digS (L.getD k Con.zero).exp ++ ByteArray.mk #[(94 : UInt8)]) ++ ByteArray.mk #[(43 : UInt8)]).size + (digS (L.getD k Con.zero).dim).size ≤ (1000000 : Nat), (0 : Int) ≤ (L.getD k Con.zero).dim ∧ (L.getD k Con.zero).dim < 100000, (txB H (List.take k L) ++ (ByteArray.mk #[(32 : UInt8)] ++ digS (L.getD k Con.zero).exp ++ ByteArray.mk #[(94 : UInt8)])).size + (ByteArray.mk #[(43 : UInt8)]).size ≤ (1000000 : Nat), Dec ((L.getD k Con.zero).sign == 1) true, (txB H (List.take k L)).size + (ByteArray.mk #[(32 : UInt8)] ++ digS (L.getD k Con.zero).exp ++ ByteArray.mk #[(94 : UInt8)]).size ≤ (1000000 : Nat), (ByteArray.mk #[(32 : UInt8)] ++ digS (L.getD k Con.zero).exp).size + (ByteArray.mk #[(94 : UInt8)]).size ≤ (1000000 : Nat), (ByteArray.mk #[(32 : UInt8)]).size + (digS (L.getD k Con.zero).exp).size ≤ (1000000 : Nat), (0 : Int) ≤ (L.getD k Con.zero).exp ∧ (L.getD k Con.zero).exp < 100000, (0 : Int) ≤ ↑k ∧ (↑k : Int) < ↑L.length, Dec (decide ((↑k : Int) < ↑L.length)) true], by kernel_rfl, ⟨?_, ?_, ?_, ?_, ?_, ?_, (dN (beq_false_of_ne hp)), ?_, ?_, ?_, d2, ?_, ?_, ?_, ?_, ?_, d1⟩, MuG.out ?_, InG.out ?_⟩⟩) (fun d2 => ⟨[true, false, true], .inl ⟨(k + 1), [txB H (List.take k L) ++ (ByteArray.mk #[(32 : UInt8)] ++ digS (L.getD k Con.zero).exp ++ ByteArray.mk #[(94 : UInt8)]) ++ ByteArray.mk #[(45 : UInt8)] ++ digS (L.getD k Con.zero).dim = txB H (List.take (k + (1 : Nat)) L), L.length = L.length ∧ (rws L) = (rws L), (↑L.length : Int) = ↑L.length, IntKind.i64.wrap ((↑k : Int) + 1) = (↑(k + (1 : Nat)) : Int), p = p, L.length = L.length ∧ (rws L) = (rws L), Dec (p != (2 : Int)) true, (txB H (List.take k L) ++ (ByteArray.mk #[(32 : UInt8)] ++ digS (L.getD k Con.zero).exp ++ ByteArray.mk #[(94 : UInt8)]) ++ ByteArray.mk #[(45 : UInt8)]).size + (digS (L.getD k Con.zero).dim).size ≤ (1000000 : Nat), (0 : Int) ≤ (L.getD k Con.zero).dim ∧ (L.getD k Con.zero).dim < 100000, (txB H (List.take k L) ++ (ByteArray.mk #[(32 : UInt8)] ++ digS (L.getD k Con.zero).exp ++ ByteArray.mk #[(94 : UInt8)])).size + (ByteArray.mk #[(45 : UInt8)]).size ≤ (1000000 : Nat), Dec ((L.getD k Con.zero).sign == 1) false, (txB H (List.take k L)).size + (ByteArray.mk #[(32 : UInt8)] ++ digS (L.getD k Con.zero).exp ++ ByteArray.mk #[(94 : UInt8)]).size ≤ (1000000 : Nat), (ByteArray.mk #[(32 : UInt8)] ++ digS (L.getD k Con.zero).exp).size + (ByteArray.mk #[(94 : UInt8)]).size ≤ (1000000 : Nat), (ByteArray.mk #[(32 : UInt8)]).size + (digS (L.getD k Con.zero).exp).size ≤ (1000000 : Nat), (0 : Int) ≤ (L.getD k Con.zero).exp ∧ (L.getD k Con.zero).exp < 100000, (0 : Int) ≤ ↑k ∧ (↑k : Int) < ↑L.length, Dec (decide ((↑k : Int) < ↑L.length)) true], by kernel_rfl, ⟨?_, ?_, ?_, ?_, ?_, ?_, (dN (beq_false_of_ne hp)), ?_, ?_, ?_, d2, ?_, ?_, ?_, ?_, ?_, d1⟩, MuG.out ?_, InG.out ?_⟩⟩)) (fun d1 => ⟨[false], .inr ⟨[txB H (List.take k L) = txB H L, Dec (decide ((↑k : Int) < (↑L.length : Int))) false], by kernel_rfl, ⟨?_, d1⟩, rfl⟩⟩)
      all_goals first | (refine MuG.mk ?_; (simp only [decide_eq_true_eq] at *; show L.length - (k + 1) < L.length - k; omega)) | (refine InG.mk ?_; (simp only [decide_eq_true_eq] at *; show k + 1 ≤ L.length; omega)) | (refine CtG.mk ?_; (exact (5 : Nat))) | (first | (with_reducible rfl) | exact ⟨rfl, rfl⟩ | (simp only [decide_eq_true_eq, decide_eq_false_iff_not] at d1; first | omega | (rw [List.take_of_length_le (by omega)]; done) | (rw [w64 (by omega) (by omega)]; omega) | (have hk : k < L.length := (by omega); have hc := hL _ (getD_mem hk); obtain ⟨⟨hc, ho⟩, hsg⟩ := hc; have h1 := digS_size (n := (L.getD k Con.zero).exp) (by omega) (by omega); have h2 := digS_size (n := (L.getD k Con.zero).dim) (by omega) (by omega); have h3 := digS_size (n := (L.getD k Con.zero).oddity) (by omega) (by omega); first | omega | (simp only [ByteArray.size_append, one_size, ii3_size]; omega) | (rw [txB_take H hk, cTxt_p (sg_p d2)]; simp only [ByteArray.append_assoc]; done) | (rw [txB_take H hk, cTxt_m (sg_m hsg d2)]; simp only [ByteArray.append_assoc]; done))))
    · -- d = true
      have hT := txB_size (L := L.take k) (fun c hc => (hL c (List.mem_of_mem_take hc)).1.1) H
      have hTl : (L.take k).length ≤ 8 := by rw [List.length_take]; omega
      have hz : (txB H (L.take k)).size ≤ 300 := by omega
      refine oe (decide ((↑k : Int) < ↑L.length)) (fun d1 => oe ((L.getD k Con.zero).sign == 1) (fun d2 => ⟨[true, true, true], .inl ⟨(k + 1), [txB H (List.take k L) ++ (ByteArray.mk #[(32 : UInt8)] ++ digS (L.getD k Con.zero).exp ++ ByteArray.mk #[(94 : UInt8)]) ++ ByteArray.mk #[(43 : UInt8)] ++ digS (L.getD k Con.zero).dim = txB H (List.take (k + (1 : Nat)) L), L.length = L.length ∧ (rws L) = (rws L), (↑L.length : Int) = ↑L.length, IntKind.i64.wrap ((↑k : Int) + 1) = (↑(k + (1 : Nat)) : Int), p = p, L.length = L.length ∧ (rws L) = (rws L), Dec (p != (2 : Int)) true, (txB H (List.take k L) ++ (ByteArray.mk #[(32 : UInt8)] ++ digS (L.getD k Con.zero).exp ++ ByteArray.mk #[(94 : UInt8)]) ++ ByteArray.mk #[(43 : UInt8)]).size + (digS (L.getD k Con.zero).dim).size ≤ (1000000 : Nat), (0 : Int) ≤ (L.getD k Con.zero).dim ∧ (L.getD k Con.zero).dim < 100000, (txB H (List.take k L) ++ (ByteArray.mk #[(32 : UInt8)] ++ digS (L.getD k Con.zero).exp ++ ByteArray.mk #[(94 : UInt8)])).size + (ByteArray.mk #[(43 : UInt8)]).size ≤ (1000000 : Nat), Dec ((L.getD k Con.zero).sign == 1) true, (txB H (List.take k L)).size + (ByteArray.mk #[(32 : UInt8)] ++ digS (L.getD k Con.zero).exp ++ ByteArray.mk #[(94 : UInt8)]).size ≤ (1000000 : Nat), (ByteArray.mk #[(32 : UInt8)] ++ digS (L.getD k Con.zero).exp).size + (ByteArray.mk #[(94 : UInt8)]).size ≤ (1000000 : Nat), (ByteArray.mk #[(32 : UInt8)]).size + (digS (L.getD k Con.zero).exp).size ≤ (1000000 : Nat), (0 : Int) ≤ (L.getD k Con.zero).exp ∧ (L.getD k Con.zero).exp < 100000, (0 : Int) ≤ ↑k ∧ (↑k : Int) < ↑L.length, Dec (decide ((↑k : Int) < ↑L.length)) true], by kernel_rfl, ⟨?_, ?_, ?_, ?_, ?_, ?_, (dN (beq_false_of_ne hp)), ?_, ?_, ?_, d2, ?_, ?_, ?_, ?_, ?_, d1⟩, MuG.out ?_, InG.out ?_⟩⟩) (fun d2 => ⟨[true, false, true], .inl ⟨(k + 1), [txB H (List.take k L) ++ (ByteArray.mk #[(32 : UInt8)] ++ digS (L.getD k Con.zero).exp ++ ByteArray.mk #[(94 : UInt8)]) ++ ByteArray.mk #[(45 : UInt8)] ++ digS (L.getD k Con.zero).dim = txB H (List.take (k + (1 : Nat)) L), L.length = L.length ∧ (rws L) = (rws L), (↑L.length : Int) = ↑L.length, IntKind.i64.wrap ((↑k : Int) + 1) = (↑(k + (1 : Nat)) : Int), p = p, L.length = L.length ∧ (rws L) = (rws L), Dec (p != (2 : Int)) true, (txB H (List.take k L) ++ (ByteArray.mk #[(32 : UInt8)] ++ digS (L.getD k Con.zero).exp ++ ByteArray.mk #[(94 : UInt8)]) ++ ByteArray.mk #[(45 : UInt8)]).size + (digS (L.getD k Con.zero).dim).size ≤ (1000000 : Nat), (0 : Int) ≤ (L.getD k Con.zero).dim ∧ (L.getD k Con.zero).dim < 100000, (txB H (List.take k L) ++ (ByteArray.mk #[(32 : UInt8)] ++ digS (L.getD k Con.zero).exp ++ ByteArray.mk #[(94 : UInt8)])).size + (ByteArray.mk #[(45 : UInt8)]).size ≤ (1000000 : Nat), Dec ((L.getD k Con.zero).sign == 1) false, (txB H (List.take k L)).size + (ByteArray.mk #[(32 : UInt8)] ++ digS (L.getD k Con.zero).exp ++ ByteArray.mk #[(94 : UInt8)]).size ≤ (1000000 : Nat), (ByteArray.mk #[(32 : UInt8)] ++ digS (L.getD k Con.zero).exp).size + (ByteArray.mk #[(94 : UInt8)]).size ≤ (1000000 : Nat), (ByteArray.mk #[(32 : UInt8)]).size + (digS (L.getD k Con.zero).exp).size ≤ (1000000 : Nat), (0 : Int) ≤ (L.getD k Con.zero).exp ∧ (L.getD k Con.zero).exp < 100000, (0 : Int) ≤ ↑k ∧ (↑k : Int) < ↑L.length, Dec (decide ((↑k : Int) < ↑L.length)) true], by kernel_rfl, ⟨?_, ?_, ?_, ?_, ?_, ?_, (dN (beq_false_of_ne hp)), ?_, ?_, ?_, d2, ?_, ?_, ?_, ?_, ?_, d1⟩, MuG.out ?_, InG.out ?_⟩⟩)) (fun d1 => ⟨[false], .inr ⟨[txB H (List.take k L) = txB H L, Dec (decide ((↑k : Int) < (↑L.length : Int))) false], by kernel_rfl, ⟨?_, d1⟩, rfl⟩⟩)
      all_goals first | (refine MuG.mk ?_; (simp only [decide_eq_true_eq] at *; show L.length - (k + 1) < L.length - k; omega)) | (refine InG.mk ?_; (simp only [decide_eq_true_eq] at *; show k + 1 ≤ L.length; omega)) | (refine CtG.mk ?_; (exact (5 : Nat))) | (first | (with_reducible rfl) | exact ⟨rfl, rfl⟩ | (simp only [decide_eq_true_eq, decide_eq_false_iff_not] at d1; first | omega | (rw [List.take_of_length_le (by omega)]; done) | (rw [w64 (by omega) (by omega)]; omega) | (have hk : k < L.length := (by omega); have hc := hL _ (getD_mem hk); obtain ⟨⟨hc, ho⟩, hsg⟩ := hc; have h1 := digS_size (n := (L.getD k Con.zero).exp) (by omega) (by omega); have h2 := digS_size (n := (L.getD k Con.zero).dim) (by omega) (by omega); have h3 := digS_size (n := (L.getD k Con.zero).oddity) (by omega) (by omega); first | omega | (simp only [ByteArray.size_append, one_size, ii3_size]; omega) | (rw [txB_take H hk, cTxt_p (sg_p d2)]; simp only [ByteArray.append_assoc]; done) | (rw [txB_take H hk, cTxt_m (sg_m hsg d2)]; simp only [ByteArray.append_assoc]; done))))
noncomputable def t2Ann (p : Int) (L : List Con) (H : ByteArray) : Ann := ⟨⟨[(1, .ptr 1000 0), (3, .vstr H), (11, (roC L).av), (12, .vint .i64 L.length), (13, .int .i64 0)], loH p L, 1010⟩, none, fun _ => (.exit 0, ⟨[(3, .vstr (txB2 H L))], [], 1010⟩)⟩
theorem t2_loop (p : Int) (L : List Con) (H : ByteArray) (hp : p = 2) (hL : ∀ c ∈ L, okD c ∧ (c.sign = 1 ∨ c.sign = -1)) (hn : L.length ≤ 8) (hH : H.size ≤ 100) : AnnOk Tryz.prog EV.ng (Nat.max 1 Tryz.f33.ntmps) (bodyAt Tryz.f33 [0, 1, 0, 1, 1]) (t2Ann p L H) := by
  refine ann_of evOk (callF_ok evOk (orcOf_ok entsDM_ok) 8) none_ann (by kernel_rfl) (by kernel_rfl) (fun i : Nat => (fun (k : Nat) => (⟨[(1, .ptr 1000 0), (3, .vstr (txB2 H (L.take k))), (11, (roC L).av), (12, .vint .i64 L.length), (13, .vint .i64 (k : Int))], loH p L, 1010⟩ : St)) i) (fun i : Nat => (fun (k : Nat) => (L.length - k : Nat)) i) (fun (d : Bool) (i : Nat) => (fun (k : Nat) => (k ≤ L.length : Prop)) i) ?_ ?_
  · intro d hd
    exact ⟨(0), [H = txB2 H (List.take (0 : Nat) L), L.length = L.length ∧ (rws L) = (rws L), (↑L.length : Int) = ↑L.length, (0 : Int) = (↑(0 : Nat) : Int), p = p, L.length = L.length ∧ (rws L) = (rws L)], by kernel_rfl, (by refine ⟨?_, ?_, ?_, ?_, ?_, (?_ : L.length = L.length ∧ (rws L) = (rws L))⟩ <;> (first | (with_reducible rfl) | exact ⟨rfl, rfl⟩ | rfl)), (by exact Nat.zero_le _)⟩
  · rintro d hd k hI
    cases d
    · -- d = false
      have hb : (p == (2 : Int)) = true := (by rw [hp]; rfl)
      have hT := txB2_size (L := L.take k) (fun c hc => (hL c (List.mem_of_mem_take hc)).1) H
      have hTl : (L.take k).length ≤ 8 := by rw [List.length_take]; omega
      have hz : (txB2 H (L.take k)).size ≤ 300 := by omega
      refine oe (decide ((↑k : Int) < ↑L.length)) (fun d1 => oe ((L.getD k Con.zero).sign == 1) (fun d2 => oe ((L.getD k Con.zero).odd) (fun d3 => ⟨[true, true, false, true], .inl ⟨(k + 1), [txB2 H (List.take k L) ++ (ByteArray.mk #[(32 : UInt8)] ++ digS (L.getD k Con.zero).exp ++ ByteArray.mk #[(94 : UInt8)]) ++ ByteArray.mk #[(43 : UInt8)] ++ digS (L.getD k Con.zero).dim ++ (ByteArray.mk #[(95 : UInt8)] ++ digS (L.getD k Con.zero).oddity) = txB2 H (List.take (k + (1 : Nat)) L), L.length = L.length ∧ (rws L) = (rws L), (↑L.length : Int) = ↑L.length, IntKind.i64.wrap ((↑k : Int) + 1) = (↑(k + (1 : Nat)) : Int), p = p, L.length = L.length ∧ (rws L) = (rws L), (txB2 H (List.take k L) ++ (ByteArray.mk #[(32 : UInt8)] ++ digS (L.getD k Con.zero).exp ++ ByteArray.mk #[(94 : UInt8)]) ++ ByteArray.mk #[(43 : UInt8)] ++ digS (L.getD k Con.zero).dim).size + (ByteArray.mk #[(95 : UInt8)] ++ digS (L.getD k Con.zero).oddity).size ≤ (1000000 : Nat), (ByteArray.mk #[(95 : UInt8)]).size + (digS (L.getD k Con.zero).oddity).size ≤ (1000000 : Nat), (0 : Int) ≤ (L.getD k Con.zero).oddity ∧ (L.getD k Con.zero).oddity < 100000, Dec (L.getD k Con.zero).odd true, Dec (p != (2 : Int)) false, (txB2 H (List.take k L) ++ (ByteArray.mk #[(32 : UInt8)] ++ digS (L.getD k Con.zero).exp ++ ByteArray.mk #[(94 : UInt8)]) ++ ByteArray.mk #[(43 : UInt8)]).size + (digS (L.getD k Con.zero).dim).size ≤ (1000000 : Nat), (0 : Int) ≤ (L.getD k Con.zero).dim ∧ (L.getD k Con.zero).dim < 100000, (txB2 H (List.take k L) ++ (ByteArray.mk #[(32 : UInt8)] ++ digS (L.getD k Con.zero).exp ++ ByteArray.mk #[(94 : UInt8)])).size + (ByteArray.mk #[(43 : UInt8)]).size ≤ (1000000 : Nat), Dec ((L.getD k Con.zero).sign == 1) true, (txB2 H (List.take k L)).size + (ByteArray.mk #[(32 : UInt8)] ++ digS (L.getD k Con.zero).exp ++ ByteArray.mk #[(94 : UInt8)]).size ≤ (1000000 : Nat), (ByteArray.mk #[(32 : UInt8)] ++ digS (L.getD k Con.zero).exp).size + (ByteArray.mk #[(94 : UInt8)]).size ≤ (1000000 : Nat), (ByteArray.mk #[(32 : UInt8)]).size + (digS (L.getD k Con.zero).exp).size ≤ (1000000 : Nat), (0 : Int) ≤ (L.getD k Con.zero).exp ∧ (L.getD k Con.zero).exp < 100000, (0 : Int) ≤ ↑k ∧ (↑k : Int) < ↑L.length, Dec (decide ((↑k : Int) < ↑L.length)) true], by kernel_rfl, ⟨?_, ?_, ?_, ?_, ?_, ?_, ?_, ?_, ?_, d3, (dN hb), ?_, ?_, ?_, d2, ?_, ?_, ?_, ?_, ?_, d1⟩, MuG.out ?_, InG.out ?_⟩⟩) (fun d3 => ⟨[true, true, false, false], .inl ⟨(k + 1), [txB2 H (List.take k L) ++ (ByteArray.mk #[(32 : UInt8)] ++ digS (L.getD k Con.zero).exp ++ ByteArray.mk #[(94 : UInt8)]) ++ ByteArray.mk #[(43 : UInt8)] ++ digS (L.getD k Con.zero).dim ++ ByteArray.mk #[(95 : UInt8), (73 : UInt8), (73 : UInt8)] = txB2 H (List.take (k + (1 : Nat)) L), L.length = L.length ∧ (rws L) = (rws L), (↑L.length : Int) = ↑L.length, IntKind.i64.wrap ((↑k : Int) + 1) = (↑(k + (1 : Nat)) : Int), p = p, L.length = L.length ∧ (rws L) = (rws L), (txB2 H (List.take k L) ++ (ByteArray.mk #[(32 : UInt8)] ++ digS (L.getD k Con.zero).exp ++ ByteArray.mk #[(94 : UInt8)]) ++ ByteArray.mk #[(43 : UInt8)] ++ digS (L.getD k Con.zero).dim).size + (ByteArray.mk #[(95 : UInt8), (73 : UInt8), (73 : UInt8)]).size ≤ (1000000 : Nat), Dec (L.getD k Con.zero).odd false, Dec (p != (2 : Int)) false, (txB2 H (List.take k L) ++ (ByteArray.mk #[(32 : UInt8)] ++ digS (L.getD k Con.zero).exp ++ ByteArray.mk #[(94 : UInt8)]) ++ ByteArray.mk #[(43 : UInt8)]).size + (digS (L.getD k Con.zero).dim).size ≤ (1000000 : Nat), (0 : Int) ≤ (L.getD k Con.zero).dim ∧ (L.getD k Con.zero).dim < 100000, (txB2 H (List.take k L) ++ (ByteArray.mk #[(32 : UInt8)] ++ digS (L.getD k Con.zero).exp ++ ByteArray.mk #[(94 : UInt8)])).size + (ByteArray.mk #[(43 : UInt8)]).size ≤ (1000000 : Nat), Dec ((L.getD k Con.zero).sign == 1) true, (txB2 H (List.take k L)).size + (ByteArray.mk #[(32 : UInt8)] ++ digS (L.getD k Con.zero).exp ++ ByteArray.mk #[(94 : UInt8)]).size ≤ (1000000 : Nat), (ByteArray.mk #[(32 : UInt8)] ++ digS (L.getD k Con.zero).exp).size + (ByteArray.mk #[(94 : UInt8)]).size ≤ (1000000 : Nat), (ByteArray.mk #[(32 : UInt8)]).size + (digS (L.getD k Con.zero).exp).size ≤ (1000000 : Nat), (0 : Int) ≤ (L.getD k Con.zero).exp ∧ (L.getD k Con.zero).exp < 100000, (0 : Int) ≤ ↑k ∧ (↑k : Int) < ↑L.length, Dec (decide ((↑k : Int) < ↑L.length)) true], by kernel_rfl, ⟨?_, ?_, ?_, ?_, ?_, ?_, ?_, d3, (dN hb), ?_, ?_, ?_, d2, ?_, ?_, ?_, ?_, ?_, d1⟩, MuG.out ?_, InG.out ?_⟩⟩)) (fun d2 => oe ((L.getD k Con.zero).odd) (fun d3 => ⟨[true, false, false, true], .inl ⟨(k + 1), [txB2 H (List.take k L) ++ (ByteArray.mk #[(32 : UInt8)] ++ digS (L.getD k Con.zero).exp ++ ByteArray.mk #[(94 : UInt8)]) ++ ByteArray.mk #[(45 : UInt8)] ++ digS (L.getD k Con.zero).dim ++ (ByteArray.mk #[(95 : UInt8)] ++ digS (L.getD k Con.zero).oddity) = txB2 H (List.take (k + (1 : Nat)) L), L.length = L.length ∧ (rws L) = (rws L), (↑L.length : Int) = ↑L.length, IntKind.i64.wrap ((↑k : Int) + 1) = (↑(k + (1 : Nat)) : Int), p = p, L.length = L.length ∧ (rws L) = (rws L), (txB2 H (List.take k L) ++ (ByteArray.mk #[(32 : UInt8)] ++ digS (L.getD k Con.zero).exp ++ ByteArray.mk #[(94 : UInt8)]) ++ ByteArray.mk #[(45 : UInt8)] ++ digS (L.getD k Con.zero).dim).size + (ByteArray.mk #[(95 : UInt8)] ++ digS (L.getD k Con.zero).oddity).size ≤ (1000000 : Nat), (ByteArray.mk #[(95 : UInt8)]).size + (digS (L.getD k Con.zero).oddity).size ≤ (1000000 : Nat), (0 : Int) ≤ (L.getD k Con.zero).oddity ∧ (L.getD k Con.zero).oddity < 100000, Dec (L.getD k Con.zero).odd true, Dec (p != (2 : Int)) false, (txB2 H (List.take k L) ++ (ByteArray.mk #[(32 : UInt8)] ++ digS (L.getD k Con.zero).exp ++ ByteArray.mk #[(94 : UInt8)]) ++ ByteArray.mk #[(45 : UInt8)]).size + (digS (L.getD k Con.zero).dim).size ≤ (1000000 : Nat), (0 : Int) ≤ (L.getD k Con.zero).dim ∧ (L.getD k Con.zero).dim < 100000, (txB2 H (List.take k L) ++ (ByteArray.mk #[(32 : UInt8)] ++ digS (L.getD k Con.zero).exp ++ ByteArray.mk #[(94 : UInt8)])).size + (ByteArray.mk #[(45 : UInt8)]).size ≤ (1000000 : Nat), Dec ((L.getD k Con.zero).sign == 1) false, (txB2 H (List.take k L)).size + (ByteArray.mk #[(32 : UInt8)] ++ digS (L.getD k Con.zero).exp ++ ByteArray.mk #[(94 : UInt8)]).size ≤ (1000000 : Nat), (ByteArray.mk #[(32 : UInt8)] ++ digS (L.getD k Con.zero).exp).size + (ByteArray.mk #[(94 : UInt8)]).size ≤ (1000000 : Nat), (ByteArray.mk #[(32 : UInt8)]).size + (digS (L.getD k Con.zero).exp).size ≤ (1000000 : Nat), (0 : Int) ≤ (L.getD k Con.zero).exp ∧ (L.getD k Con.zero).exp < 100000, (0 : Int) ≤ ↑k ∧ (↑k : Int) < ↑L.length, Dec (decide ((↑k : Int) < ↑L.length)) true], by kernel_rfl, ⟨?_, ?_, ?_, ?_, ?_, ?_, ?_, ?_, ?_, d3, (dN hb), ?_, ?_, ?_, d2, ?_, ?_, ?_, ?_, ?_, d1⟩, MuG.out ?_, InG.out ?_⟩⟩) (fun d3 => ⟨[true, false, false, false], .inl ⟨(k + 1), [txB2 H (List.take k L) ++ (ByteArray.mk #[(32 : UInt8)] ++ digS (L.getD k Con.zero).exp ++ ByteArray.mk #[(94 : UInt8)]) ++ ByteArray.mk #[(45 : UInt8)] ++ digS (L.getD k Con.zero).dim ++ ByteArray.mk #[(95 : UInt8), (73 : UInt8), (73 : UInt8)] = txB2 H (List.take (k + (1 : Nat)) L), L.length = L.length ∧ (rws L) = (rws L), (↑L.length : Int) = ↑L.length, IntKind.i64.wrap ((↑k : Int) + 1) = (↑(k + (1 : Nat)) : Int), p = p, L.length = L.length ∧ (rws L) = (rws L), (txB2 H (List.take k L) ++ (ByteArray.mk #[(32 : UInt8)] ++ digS (L.getD k Con.zero).exp ++ ByteArray.mk #[(94 : UInt8)]) ++ ByteArray.mk #[(45 : UInt8)] ++ digS (L.getD k Con.zero).dim).size + (ByteArray.mk #[(95 : UInt8), (73 : UInt8), (73 : UInt8)]).size ≤ (1000000 : Nat), Dec (L.getD k Con.zero).odd false, Dec (p != (2 : Int)) false, (txB2 H (List.take k L) ++ (ByteArray.mk #[(32 : UInt8)] ++ digS (L.getD k Con.zero).exp ++ ByteArray.mk #[(94 : UInt8)]) ++ ByteArray.mk #[(45 : UInt8)]).size + (digS (L.getD k Con.zero).dim).size ≤ (1000000 : Nat), (0 : Int) ≤ (L.getD k Con.zero).dim ∧ (L.getD k Con.zero).dim < 100000, (txB2 H (List.take k L) ++ (ByteArray.mk #[(32 : UInt8)] ++ digS (L.getD k Con.zero).exp ++ ByteArray.mk #[(94 : UInt8)])).size + (ByteArray.mk #[(45 : UInt8)]).size ≤ (1000000 : Nat), Dec ((L.getD k Con.zero).sign == 1) false, (txB2 H (List.take k L)).size + (ByteArray.mk #[(32 : UInt8)] ++ digS (L.getD k Con.zero).exp ++ ByteArray.mk #[(94 : UInt8)]).size ≤ (1000000 : Nat), (ByteArray.mk #[(32 : UInt8)] ++ digS (L.getD k Con.zero).exp).size + (ByteArray.mk #[(94 : UInt8)]).size ≤ (1000000 : Nat), (ByteArray.mk #[(32 : UInt8)]).size + (digS (L.getD k Con.zero).exp).size ≤ (1000000 : Nat), (0 : Int) ≤ (L.getD k Con.zero).exp ∧ (L.getD k Con.zero).exp < 100000, (0 : Int) ≤ ↑k ∧ (↑k : Int) < ↑L.length, Dec (decide ((↑k : Int) < ↑L.length)) true], by kernel_rfl, ⟨?_, ?_, ?_, ?_, ?_, ?_, ?_, d3, (dN hb), ?_, ?_, ?_, d2, ?_, ?_, ?_, ?_, ?_, d1⟩, MuG.out ?_, InG.out ?_⟩⟩))) (fun d1 => ⟨[false], .inr ⟨[txB2 H (List.take k L) = txB2 H L, Dec (decide ((↑k : Int) < (↑L.length : Int))) false], by kernel_rfl, ⟨?_, d1⟩, rfl⟩⟩)
      all_goals first | (refine MuG.mk ?_; (simp only [decide_eq_true_eq] at *; show L.length - (k + 1) < L.length - k; omega)) | (refine InG.mk ?_; (simp only [decide_eq_true_eq] at *; show k + 1 ≤ L.length; omega)) | (refine CtG.mk ?_; (exact (5 : Nat))) | (first | (with_reducible rfl) | exact ⟨rfl, rfl⟩ | (simp only [decide_eq_true_eq, decide_eq_false_iff_not] at d1; first | omega | (rw [List.take_of_length_le (by omega)]; done) | (rw [w64 (by omega) (by omega)]; omega) | (have hk : k < L.length := (by omega); have hc := hL _ (getD_mem hk); obtain ⟨⟨hc, ho⟩, hsg⟩ := hc; have h1 := digS_size (n := (L.getD k Con.zero).exp) (by omega) (by omega); have h2 := digS_size (n := (L.getD k Con.zero).dim) (by omega) (by omega); have h3 := digS_size (n := (L.getD k Con.zero).oddity) (by omega) (by omega); first | omega | (simp only [ByteArray.size_append, one_size, ii3_size]; omega) | (rw [txB2_take H hk, cTxt2_po (sg_p d2) d3]; simp only [ii3, ByteArray.append_assoc]; done) | (rw [txB2_take H hk, cTxt2_pe (sg_p d2) d3]; simp only [ii3, ByteArray.append_assoc]; done) | (rw [txB2_take H hk, cTxt2_mo (sg_m hsg d2) d3]; simp only [ii3, ByteArray.append_assoc]; done) | (rw [txB2_take H hk, cTxt2_me (sg_m hsg d2) d3]; simp only [ii3, ByteArray.append_assoc]; done))))
    · -- d = true
      have hb : (p == (2 : Int)) = true := (by rw [hp]; rfl)
      have hT := txB2_size (L := L.take k) (fun c hc => (hL c (List.mem_of_mem_take hc)).1) H
      have hTl : (L.take k).length ≤ 8 := by rw [List.length_take]; omega
      have hz : (txB2 H (L.take k)).size ≤ 300 := by omega
      refine oe (decide ((↑k : Int) < ↑L.length)) (fun d1 => oe ((L.getD k Con.zero).sign == 1) (fun d2 => oe ((L.getD k Con.zero).odd) (fun d3 => ⟨[true, true, false, true], .inl ⟨(k + 1), [txB2 H (List.take k L) ++ (ByteArray.mk #[(32 : UInt8)] ++ digS (L.getD k Con.zero).exp ++ ByteArray.mk #[(94 : UInt8)]) ++ ByteArray.mk #[(43 : UInt8)] ++ digS (L.getD k Con.zero).dim ++ (ByteArray.mk #[(95 : UInt8)] ++ digS (L.getD k Con.zero).oddity) = txB2 H (List.take (k + (1 : Nat)) L), L.length = L.length ∧ (rws L) = (rws L), (↑L.length : Int) = ↑L.length, IntKind.i64.wrap ((↑k : Int) + 1) = (↑(k + (1 : Nat)) : Int), p = p, L.length = L.length ∧ (rws L) = (rws L), (txB2 H (List.take k L) ++ (ByteArray.mk #[(32 : UInt8)] ++ digS (L.getD k Con.zero).exp ++ ByteArray.mk #[(94 : UInt8)]) ++ ByteArray.mk #[(43 : UInt8)] ++ digS (L.getD k Con.zero).dim).size + (ByteArray.mk #[(95 : UInt8)] ++ digS (L.getD k Con.zero).oddity).size ≤ (1000000 : Nat), (ByteArray.mk #[(95 : UInt8)]).size + (digS (L.getD k Con.zero).oddity).size ≤ (1000000 : Nat), (0 : Int) ≤ (L.getD k Con.zero).oddity ∧ (L.getD k Con.zero).oddity < 100000, Dec (L.getD k Con.zero).odd true, Dec (p != (2 : Int)) false, (txB2 H (List.take k L) ++ (ByteArray.mk #[(32 : UInt8)] ++ digS (L.getD k Con.zero).exp ++ ByteArray.mk #[(94 : UInt8)]) ++ ByteArray.mk #[(43 : UInt8)]).size + (digS (L.getD k Con.zero).dim).size ≤ (1000000 : Nat), (0 : Int) ≤ (L.getD k Con.zero).dim ∧ (L.getD k Con.zero).dim < 100000, (txB2 H (List.take k L) ++ (ByteArray.mk #[(32 : UInt8)] ++ digS (L.getD k Con.zero).exp ++ ByteArray.mk #[(94 : UInt8)])).size + (ByteArray.mk #[(43 : UInt8)]).size ≤ (1000000 : Nat), Dec ((L.getD k Con.zero).sign == 1) true, (txB2 H (List.take k L)).size + (ByteArray.mk #[(32 : UInt8)] ++ digS (L.getD k Con.zero).exp ++ ByteArray.mk #[(94 : UInt8)]).size ≤ (1000000 : Nat), (ByteArray.mk #[(32 : UInt8)] ++ digS (L.getD k Con.zero).exp).size + (ByteArray.mk #[(94 : UInt8)]).size ≤ (1000000 : Nat), (ByteArray.mk #[(32 : UInt8)]).size + (digS (L.getD k Con.zero).exp).size ≤ (1000000 : Nat), (0 : Int) ≤ (L.getD k Con.zero).exp ∧ (L.getD k Con.zero).exp < 100000, (0 : Int) ≤ ↑k ∧ (↑k : Int) < ↑L.length, Dec (decide ((↑k : Int) < ↑L.length)) true], by kernel_rfl, ⟨?_, ?_, ?_, ?_, ?_, ?_, ?_, ?_, ?_, d3, (dN hb), ?_, ?_, ?_, d2, ?_, ?_, ?_, ?_, ?_, d1⟩, MuG.out ?_, InG.out ?_⟩⟩) (fun d3 => ⟨[true, true, false, false], .inl ⟨(k + 1), [txB2 H (List.take k L) ++ (ByteArray.mk #[(32 : UInt8)] ++ digS (L.getD k Con.zero).exp ++ ByteArray.mk #[(94 : UInt8)]) ++ ByteArray.mk #[(43 : UInt8)] ++ digS (L.getD k Con.zero).dim ++ ByteArray.mk #[(95 : UInt8), (73 : UInt8), (73 : UInt8)] = txB2 H (List.take (k + (1 : Nat)) L), L.length = L.length ∧ (rws L) = (rws L), (↑L.length : Int) = ↑L.length, IntKind.i64.wrap ((↑k : Int) + 1) = (↑(k + (1 : Nat)) : Int), p = p, L.length = L.length ∧ (rws L) = (rws L), (txB2 H (List.take k L) ++ (ByteArray.mk #[(32 : UInt8)] ++ digS (L.getD k Con.zero).exp ++ ByteArray.mk #[(94 : UInt8)]) ++ ByteArray.mk #[(43 : UInt8)] ++ digS (L.getD k Con.zero).dim).size + (ByteArray.mk #[(95 : UInt8), (73 : UInt8), (73 : UInt8)]).size ≤ (1000000 : Nat), Dec (L.getD k Con.zero).odd false, Dec (p != (2 : Int)) false, (txB2 H (List.take k L) ++ (ByteArray.mk #[(32 : UInt8)] ++ digS (L.getD k Con.zero).exp ++ ByteArray.mk #[(94 : UInt8)]) ++ ByteArray.mk #[(43 : UInt8)]).size + (digS (L.getD k Con.zero).dim).size ≤ (1000000 : Nat), (0 : Int) ≤ (L.getD k Con.zero).dim ∧ (L.getD k Con.zero).dim < 100000, (txB2 H (List.take k L) ++ (ByteArray.mk #[(32 : UInt8)] ++ digS (L.getD k Con.zero).exp ++ ByteArray.mk #[(94 : UInt8)])).size + (ByteArray.mk #[(43 : UInt8)]).size ≤ (1000000 : Nat), Dec ((L.getD k Con.zero).sign == 1) true, (txB2 H (List.take k L)).size + (ByteArray.mk #[(32 : UInt8)] ++ digS (L.getD k Con.zero).exp ++ ByteArray.mk #[(94 : UInt8)]).size ≤ (1000000 : Nat), (ByteArray.mk #[(32 : UInt8)] ++ digS (L.getD k Con.zero).exp).size + (ByteArray.mk #[(94 : UInt8)]).size ≤ (1000000 : Nat), (ByteArray.mk #[(32 : UInt8)]).size + (digS (L.getD k Con.zero).exp).size ≤ (1000000 : Nat), (0 : Int) ≤ (L.getD k Con.zero).exp ∧ (L.getD k Con.zero).exp < 100000, (0 : Int) ≤ ↑k ∧ (↑k : Int) < ↑L.length, Dec (decide ((↑k : Int) < ↑L.length)) true], by kernel_rfl, ⟨?_, ?_, ?_, ?_, ?_, ?_, ?_, d3, (dN hb), ?_, ?_, ?_, d2, ?_, ?_, ?_, ?_, ?_, d1⟩, MuG.out ?_, InG.out ?_⟩⟩)) (fun d2 => oe ((L.getD k Con.zero).odd) (fun d3 => ⟨[true, false, false, true], .inl ⟨(k + 1), [txB2 H (List.take k L) ++ (ByteArray.mk #[(32 : UInt8)] ++ digS (L.getD k Con.zero).exp ++ ByteArray.mk #[(94 : UInt8)]) ++ ByteArray.mk #[(45 : UInt8)] ++ digS (L.getD k Con.zero).dim ++ (ByteArray.mk #[(95 : UInt8)] ++ digS (L.getD k Con.zero).oddity) = txB2 H (List.take (k + (1 : Nat)) L), L.length = L.length ∧ (rws L) = (rws L), (↑L.length : Int) = ↑L.length, IntKind.i64.wrap ((↑k : Int) + 1) = (↑(k + (1 : Nat)) : Int), p = p, L.length = L.length ∧ (rws L) = (rws L), (txB2 H (List.take k L) ++ (ByteArray.mk #[(32 : UInt8)] ++ digS (L.getD k Con.zero).exp ++ ByteArray.mk #[(94 : UInt8)]) ++ ByteArray.mk #[(45 : UInt8)] ++ digS (L.getD k Con.zero).dim).size + (ByteArray.mk #[(95 : UInt8)] ++ digS (L.getD k Con.zero).oddity).size ≤ (1000000 : Nat), (ByteArray.mk #[(95 : UInt8)]).size + (digS (L.getD k Con.zero).oddity).size ≤ (1000000 : Nat), (0 : Int) ≤ (L.getD k Con.zero).oddity ∧ (L.getD k Con.zero).oddity < 100000, Dec (L.getD k Con.zero).odd true, Dec (p != (2 : Int)) false, (txB2 H (List.take k L) ++ (ByteArray.mk #[(32 : UInt8)] ++ digS (L.getD k Con.zero).exp ++ ByteArray.mk #[(94 : UInt8)]) ++ ByteArray.mk #[(45 : UInt8)]).size + (digS (L.getD k Con.zero).dim).size ≤ (1000000 : Nat), (0 : Int) ≤ (L.getD k Con.zero).dim ∧ (L.getD k Con.zero).dim < 100000, (txB2 H (List.take k L) ++ (ByteArray.mk #[(32 : UInt8)] ++ digS (L.getD k Con.zero).exp ++ ByteArray.mk #[(94 : UInt8)])).size + (ByteArray.mk #[(45 : UInt8)]).size ≤ (1000000 : Nat), Dec ((L.getD k Con.zero).sign == 1) false, (txB2 H (List.take k L)).size + (ByteArray.mk #[(32 : UInt8)] ++ digS (L.getD k Con.zero).exp ++ ByteArray.mk #[(94 : UInt8)]).size ≤ (1000000 : Nat), (ByteArray.mk #[(32 : UInt8)] ++ digS (L.getD k Con.zero).exp).size + (ByteArray.mk #[(94 : UInt8)]).size ≤ (1000000 : Nat), (ByteArray.mk #[(32 : UInt8)]).size + (digS (L.getD k Con.zero).exp).size ≤ (1000000 : Nat), (0 : Int) ≤ (L.getD k Con.zero).exp ∧ (L.getD k Con.zero).exp < 100000, (0 : Int) ≤ ↑k ∧ (↑k : Int) < ↑L.length, Dec (decide ((↑k : Int) < ↑L.length)) true], by kernel_rfl, ⟨?_, ?_, ?_, ?_, ?_, ?_, ?_, ?_, ?_, d3, (dN hb), ?_, ?_, ?_, d2, ?_, ?_, ?_, ?_, ?_, d1⟩, MuG.out ?_, InG.out ?_⟩⟩) (fun d3 => ⟨[true, false, false, false], .inl ⟨(k + 1), [txB2 H (List.take k L) ++ (ByteArray.mk #[(32 : UInt8)] ++ digS (L.getD k Con.zero).exp ++ ByteArray.mk #[(94 : UInt8)]) ++ ByteArray.mk #[(45 : UInt8)] ++ digS (L.getD k Con.zero).dim ++ ByteArray.mk #[(95 : UInt8), (73 : UInt8), (73 : UInt8)] = txB2 H (List.take (k + (1 : Nat)) L), L.length = L.length ∧ (rws L) = (rws L), (↑L.length : Int) = ↑L.length, IntKind.i64.wrap ((↑k : Int) + 1) = (↑(k + (1 : Nat)) : Int), p = p, L.length = L.length ∧ (rws L) = (rws L), (txB2 H (List.take k L) ++ (ByteArray.mk #[(32 : UInt8)] ++ digS (L.getD k Con.zero).exp ++ ByteArray.mk #[(94 : UInt8)]) ++ ByteArray.mk #[(45 : UInt8)] ++ digS (L.getD k Con.zero).dim).size + (ByteArray.mk #[(95 : UInt8), (73 : UInt8), (73 : UInt8)]).size ≤ (1000000 : Nat), Dec (L.getD k Con.zero).odd false, Dec (p != (2 : Int)) false, (txB2 H (List.take k L) ++ (ByteArray.mk #[(32 : UInt8)] ++ digS (L.getD k Con.zero).exp ++ ByteArray.mk #[(94 : UInt8)]) ++ ByteArray.mk #[(45 : UInt8)]).size + (digS (L.getD k Con.zero).dim).size ≤ (1000000 : Nat), (0 : Int) ≤ (L.getD k Con.zero).dim ∧ (L.getD k Con.zero).dim < 100000, (txB2 H (List.take k L) ++ (ByteArray.mk #[(32 : UInt8)] ++ digS (L.getD k Con.zero).exp ++ ByteArray.mk #[(94 : UInt8)])).size + (ByteArray.mk #[(45 : UInt8)]).size ≤ (1000000 : Nat), Dec ((L.getD k Con.zero).sign == 1) false, (txB2 H (List.take k L)).size + (ByteArray.mk #[(32 : UInt8)] ++ digS (L.getD k Con.zero).exp ++ ByteArray.mk #[(94 : UInt8)]).size ≤ (1000000 : Nat), (ByteArray.mk #[(32 : UInt8)] ++ digS (L.getD k Con.zero).exp).size + (ByteArray.mk #[(94 : UInt8)]).size ≤ (1000000 : Nat), (ByteArray.mk #[(32 : UInt8)]).size + (digS (L.getD k Con.zero).exp).size ≤ (1000000 : Nat), (0 : Int) ≤ (L.getD k Con.zero).exp ∧ (L.getD k Con.zero).exp < 100000, (0 : Int) ≤ ↑k ∧ (↑k : Int) < ↑L.length, Dec (decide ((↑k : Int) < ↑L.length)) true], by kernel_rfl, ⟨?_, ?_, ?_, ?_, ?_, ?_, ?_, d3, (dN hb), ?_, ?_, ?_, d2, ?_, ?_, ?_, ?_, ?_, d1⟩, MuG.out ?_, InG.out ?_⟩⟩))) (fun d1 => ⟨[false], .inr ⟨[txB2 H (List.take k L) = txB2 H L, Dec (decide ((↑k : Int) < (↑L.length : Int))) false], by kernel_rfl, ⟨?_, d1⟩, rfl⟩⟩)
      all_goals first | (refine MuG.mk ?_; (simp only [decide_eq_true_eq] at *; show L.length - (k + 1) < L.length - k; omega)) | (refine InG.mk ?_; (simp only [decide_eq_true_eq] at *; show k + 1 ≤ L.length; omega)) | (refine CtG.mk ?_; (exact (5 : Nat))) | (first | (with_reducible rfl) | exact ⟨rfl, rfl⟩ | (simp only [decide_eq_true_eq, decide_eq_false_iff_not] at d1; first | omega | (rw [List.take_of_length_le (by omega)]; done) | (rw [w64 (by omega) (by omega)]; omega) | (have hk : k < L.length := (by omega); have hc := hL _ (getD_mem hk); obtain ⟨⟨hc, ho⟩, hsg⟩ := hc; have h1 := digS_size (n := (L.getD k Con.zero).exp) (by omega) (by omega); have h2 := digS_size (n := (L.getD k Con.zero).dim) (by omega) (by omega); have h3 := digS_size (n := (L.getD k Con.zero).oddity) (by omega) (by omega); first | omega | (simp only [ByteArray.size_append, one_size, ii3_size]; omega) | (rw [txB2_take H hk, cTxt2_po (sg_p d2) d3]; simp only [ii3, ByteArray.append_assoc]; done) | (rw [txB2_take H hk, cTxt2_pe (sg_p d2) d3]; simp only [ii3, ByteArray.append_assoc]; done) | (rw [txB2_take H hk, cTxt2_mo (sg_m hsg d2) d3]; simp only [ii3, ByteArray.append_assoc]; done) | (rw [txB2_take H hk, cTxt2_me (sg_m hsg d2) d3]; simp only [ii3, ByteArray.append_assoc]; done))))
theorem text_s (p : Int) (L : List Con) (hp : p ≠ 2) (h0 : 0 ≤ p) (h1 : p ≤ 9973) (hL : ∀ c ∈ L, okD c ∧ (c.sign = 1 ∨ c.sign = -1)) (hn : L.length ≤ 8) : PureC Tryz.prog [] 33 [.agg [.int .i64 p, roC L]] (.str (txS p L)) := by
  have hs := digS_size h0 (by omega); have hl0 := t1_loop p L (digS p ++ ⟨#[58]⟩) hp hL hn (by rw [ByteArray.size_append, one_size]; omega)
  have rr := fun (tp : List Bool) (ms : List Prop) h hm => pure_run evOk (callF_ok evOk (orcOf_ok entsDM_ok) 8) Tryz.func33 (A := [.agg [.int .i64 p, roC L]]) (N := Nat.max 1 Tryz.f33.ntmps) rfl (one_ann hl0) rfl rfl evNg (tabs := []) (R := .str (txS p L)) (tp := tp) (ms := ms) h hm
  refine rr [] [txB (digS p ++ ByteArray.mk #[(58 : UInt8)]) L = txS p L, digS p ++ ByteArray.mk #[(58 : UInt8)] = digS p ++ ByteArray.mk #[(58 : UInt8)], L.length = L.length ∧ (rws L) = (rws L), (↑L.length : Int) = ↑L.length, p = p, L.length = L.length ∧ (rws L) = (rws L), (digS p).size + (ByteArray.mk #[(58 : UInt8)]).size ≤ (1000000 : Nat), (0 : Int) ≤ p ∧ p < 100000] (by kernel_rfl) ⟨?_, ?_, ?_, ?_, ?_, ?_, ?_, (?_ : (0 : Int) ≤ p ∧ p < 100000)⟩
  all_goals first | (first | (with_reducible rfl) | exact ⟨rfl, rfl⟩ | (first | omega | (rw [one_size]; omega) | rfl | exact (5 : Nat)))
theorem text_t0 (p : Int) (L : List Con) (hp : p = 2) (h0 : 0 ≤ p) (h1 : p ≤ 9973) (hL : ∀ c ∈ L, okD c ∧ (c.sign = 1 ∨ c.sign = -1)) (hn : L.length ≤ 8) : PureC Tryz.prog [] 33 [.agg [.int .i64 p, roC L]] (.str (txB2 (digS p ++ ⟨#[58]⟩) L)) := by
  have hs := digS_size h0 (by omega); have hl0 := t2_loop p L (digS p ++ ⟨#[58]⟩) hp hL hn (by rw [ByteArray.size_append, one_size]; omega)
  have rr := fun (tp : List Bool) (ms : List Prop) h hm => pure_run evOk (callF_ok evOk (orcOf_ok entsDM_ok) 8) Tryz.func33 (A := [.agg [.int .i64 p, roC L]]) (N := Nat.max 1 Tryz.f33.ntmps) rfl (one_ann hl0) rfl rfl evNg (tabs := []) (R := .str (txB2 (digS p ++ ⟨#[58]⟩) L)) (tp := tp) (ms := ms) h hm
  refine rr [] [txB2 (digS p ++ ByteArray.mk #[(58 : UInt8)]) L = txB2 (digS p ++ ByteArray.mk #[(58 : UInt8)]) L, digS p ++ ByteArray.mk #[(58 : UInt8)] = digS p ++ ByteArray.mk #[(58 : UInt8)], L.length = L.length ∧ (rws L) = (rws L), (↑L.length : Int) = ↑L.length, p = p, L.length = L.length ∧ (rws L) = (rws L), (digS p).size + (ByteArray.mk #[(58 : UInt8)]).size ≤ (1000000 : Nat), (0 : Int) ≤ p ∧ p < 100000] (by kernel_rfl) ⟨?_, ?_, ?_, ?_, ?_, ?_, ?_, (?_ : (0 : Int) ≤ p ∧ p < 100000)⟩
  all_goals first | (first | (with_reducible rfl) | exact ⟨rfl, rfl⟩ | (first | omega | (rw [one_size]; omega) | rfl | exact (5 : Nat)))
theorem dig2 : digS 2 ++ ⟨#[58]⟩ = (⟨#[50, 58]⟩ : ByteArray) := by
  rw [dig_small (by omega) (by omega)]; rfl
theorem text_t (L : List Con) (hL : ∀ c ∈ L, okD c ∧ (c.sign = 1 ∨ c.sign = -1)) (hn : L.length ≤ 8) : PureC Tryz.prog [] 33 [.agg [.int .i64 2, roC L]] (.str (txT L)) := by
  have h := text_t0 2 L rfl (by omega) (by omega) hL hn
  rw [dig2] at h
  exact h
end Go.Proofs.YtgdhgnhgmbkpdaaGreatDoor.S

namespace Go.Proofs.YtgdhgnhgmbkpdaaGreatDoor.S
open Go.QfSy Go.RowKit
def txA (p : Int) (L : List Con) : ByteArray := bif p == 2 then txT L else txS p L
theorem text_pure (p : Int) (L : List Con) (h0 : 0 ≤ p) (h1 : p ≤ 9973) (hL : ∀ c ∈ L, okD c ∧ (c.sign = 1 ∨ c.sign = -1)) (hn : L.length ≤ 8) : PureC Tryz.prog [] 33 [.agg [.int .i64 p, roC L]] (.str (txA p L)) := by
  unfold txA
  by_cases h : p = 2
  · subst h; exact text_t L hL hn
  · rw [beq_false_of_ne h]; exact text_s p L h h0 h1 hL hn
noncomputable def entsTX : List OEnt := [
  ⟨33, [], fun A => match A with
    | [.agg [.int .i64 p, .sl n 5 row]] => some (.str (txA p (consR n row)), [(∀ i, i < n → row i = (Con.ofR (row i)).rvs) ∧ 0 ≤ p ∧ p ≤ 9973 ∧ (∀ c ∈ consR n row, okD c ∧ (c.sign = 1 ∨ c.sign = -1)) ∧ n ≤ 8])
    | _ => none⟩]
theorem entsTX_ok : ∀ e ∈ entsTX, EntOk Tryz.prog e := by
  intro e he
  unfold entsTX at he
  rw [List.mem_singleton] at he
  subst he
  intro A R ms h hm
  simp only at h
  split at h
  · cases h
    obtain ⟨h1, h2, h3, h4, h5⟩ := hm _ (List.mem_singleton.2 rfl)
    exact PureC.imp (text_pure _ _ h2 h3 h4 (by rw [consR_len]; exact h5)) (.cons (.agg (.cons .same (.cons (.con h1) .nil))) .nil)
  · cases h
noncomputable def entsFR : List OEnt := entsTX ++ entsZ
theorem entsFR_ok : ∀ e ∈ entsFR, EntOk Tryz.prog e := by
  intro e he
  unfold entsFR at he
  rcases List.mem_append.1 he with h | h
  · exact entsTX_ok e h
  · exact entsZ_ok e h
theorem vS_text {p : Int} {L : List Con} (h : vSv p L = true) : p ≠ 2 ∧ 0 ≤ p ∧ p ≤ 9973 ∧ (∀ c ∈ L, okD c ∧ (c.sign = 1 ∨ c.sign = -1)) ∧ L.length ≤ 8 := by
  obtain ⟨h1, h2, _, _, h5⟩ := Q.vS_parts h
  have g1 := Q.vL_good (by omega) (by omega) h5
  have g2 := Q.vL_len (by omega) h5
  refine ⟨by omega, by omega, h2, fun c hc => ?_, by simp at g2; omega⟩
  obtain ⟨a, b, d, e, f, _, g⟩ := g1 (toQ c) (List.mem_map.2 ⟨c, hc, rfl⟩)
  have g : c.oddity = 0 := g
  exact ⟨⟨⟨a, b, d, e⟩, by omega, by omega⟩, f⟩
theorem rfmtS_good (p : Int) (L : List Con) (hv : vSv p L = true) : PureC Tryz.prog [] 11 [.agg [.int .i64 p, roC L]] (.tup [.str (txS p L), .int .i64 0]) := by
  have hk : vSv p (consR L.length fun i => (L.getD i Con.zero).rvs) = true := (by rw [consR_ro]; exact hv); obtain ⟨q1, q2, q3, q4, q5⟩ := vS_text hv
  have rr := fun (tp : List Bool) (ms : List Prop) h hm => pure_run evOk (callF_ok evOk (orcOf_ok entsFR_ok) 8) Tryz.func11 (A := [.agg [.int .i64 p, roC L]]) rfl none_ann rfl rfl evNg (tabs := []) (R := .tup [.str (txS p L), .int .i64 0]) (tp := tp) (ms := ms) h hm
  refine rr [false] [txA p (consR L.length (rws L)) = txS p L, (0 : Int) = 0, (∀ (i : Nat), i < L.length → (rws L) i = (Con.ofR ((rws L) i)).rvs) ∧ (0 : Int) ≤ p ∧ p ≤ 9973 ∧ (∀ (c : Con), (c ∈ consR L.length (rws L)) → okD c ∧ (c.sign = 1 ∨ c.sign = -1)) ∧ L.length ≤ (8 : Nat), Dec (!vSv p (consR L.length (rws L))) false, (∀ (i : Nat), i < L.length → (rws L) i = (Con.ofR ((rws L) i)).rvs) ∧ L.length ≤ (1000 : Nat)] (by kernel_rfl) ⟨?_, ?_, ?_, (dN hk), (?_ : (∀ (i : Nat), i < L.length → (rws L) i = (Con.ofR ((rws L) i)).rvs) ∧ L.length ≤ (1000 : Nat))⟩
  all_goals first | (first | (with_reducible rfl) | exact ⟨fun _ _ => rfl, by omega⟩ | exact ⟨fun _ _ => rfl, q2, q3, (by rw [consR_ro]; exact q4), q5⟩ | (unfold txA; rw [beq_false_of_ne q1, consR_ro]; rfl))
theorem rfmtS_bad (p : Int) (L : List Con) (hv : vSv p L = false) (hn : L.length ≤ 1000) : PureC Tryz.prog [] 11 [.agg [.int .i64 p, roC L]] (.tup [.str ⟨#[]⟩, .int .i64 22]) := by
  have hk : vSv p (consR L.length fun i => (L.getD i Con.zero).rvs) = false := (by rw [consR_ro]; exact hv)
  have rr := fun (tp : List Bool) (ms : List Prop) h hm => pure_run evOk (callF_ok evOk (orcOf_ok entsFR_ok) 8) Tryz.func11 (A := [.agg [.int .i64 p, roC L]]) rfl none_ann rfl rfl evNg (tabs := []) (R := .tup [.str ⟨#[]⟩, .int .i64 22]) (tp := tp) (ms := ms) h hm
  refine rr [true] [ByteArray.mk #[] = ByteArray.mk #[], (22 : Int) = 22, Dec (!vSv p (consR L.length (rws L))) true, (∀ (i : Nat), i < L.length → (rws L) i = (Con.ofR ((rws L) i)).rvs) ∧ L.length ≤ (1000 : Nat)] (by kernel_rfl) ⟨?_, ?_, (dN hk), (?_ : (∀ (i : Nat), i < L.length → (rws L) i = (Con.ofR ((rws L) i)).rvs) ∧ L.length ≤ (1000 : Nat))⟩
  all_goals first | (first | (with_reducible rfl) | exact ⟨fun _ _ => rfl, hn⟩)
theorem rfmtS_pure (p : Int) (L : List Con) (hn : L.length ≤ 1000) : PureC Tryz.prog [] 11 [.agg [.int .i64 p, roC L]] (.tup [.str (bif vSv p L then txS p L else ⟨#[]⟩), .int .i64 (bif vSv p L then 0 else 22)]) := by
  cases h : vSv p L with
  | true => exact rfmtS_good p L h
  | false => exact rfmtS_bad p L h hn
end Go.Proofs.YtgdhgnhgmbkpdaaGreatDoor.S

namespace Go.Proofs.YtgdhgnhgmbkpdaaGreatDoor.S
open Go.QfSy Go.RowKit
end Go.Proofs.YtgdhgnhgmbkpdaaGreatDoor.S

namespace Go.Proofs.YtgdhgnhgmbkpdaaGreatDoor.S
open Go.QfSy Go.RowKit
theorem prs_atoi (l : List UInt8) : Lib.parseIntB 64 l = Lib.atoiAll l := by
  cases l with
  | nil => rfl
  | cons c r =>
    unfold Lib.parseIntB Lib.atoiAll
    have e : (2 : Nat) ^ (64 - 1) = 9223372036854775808 := by decide
    simp only [Lib.parseUintB_64, e]
    generalize Lib.parseMag _ = x
    cases x <;> rfl
theorem prs_itoa {n : Int} (h0 : 0 ≤ n) (h1 : n < 10000) : prsV (Lib.itoa n) = n ∧ prsE (Lib.itoa n) = true := by
  unfold prsV prsE
  rw [prs_atoi, atoi_itoa h0 h1]
  exact ⟨rfl, rfl⟩
theorem leadN_all {f : ByteArray → Con × Bool} : ∀ {W : List ByteArray}, (∀ w ∈ W, (f w).2 = true) → leadN f W = W.length
  | [], _ => rfl
  | w :: l, h => by
    rw [leadN, h w List.mem_cons_self, leadN_all (fun x hx => h x (List.mem_cons_of_mem _ hx))]
    rfl
theorem rd_map {f : ByteArray → Con × Bool} {w : Con → List UInt8} {L : List Con} (h : ∀ c ∈ L, f (strL (w c)) = (c, true)) : rdW f (L.map fun c => strL (w c)) = L ∧ leadN f (L.map fun c => strL (w c)) = (L.map fun c => strL (w c)).length := by
  constructor
  · unfold rdW
    rw [List.map_map]
    conv => rhs; rw [← List.map_id L]
    exact List.map_congr_left (fun c hc => by show (f (strL (w c))).1 = c; rw [h c hc])
  · refine leadN_all (fun x hx => ?_)
    obtain ⟨c, hc, rfl⟩ := List.mem_map.1 hx
    rw [h c hc]
theorem wL_free {c : Con} (h : 0 ≤ c.exp ∧ c.exp ≤ 60 ∧ 1 ≤ c.dim ∧ c.dim ≤ 8) : (32 : UInt8) ∉ wL c := by
  have e1 := itoa_free (n := c.exp) (c := 32) h.1 (.inl (by decide))
  have e2 := itoa_free (n := c.dim) (c := 32) (by omega) (.inl (by decide))
  have e4 := (sgB8_ne c).2
  unfold wL
  simp [e1, e2, e4]
theorem txS_list (p : Int) (c : Con) (l : List Con) : (txS p (c :: l)).data.toList = Lib.itoa p ++ 58 :: 32 :: (wL c ++ l.flatMap fun x => 32 :: wL x) := by
  unfold txS
  rw [txB_list]
  simp [digS, strL]
theorem words_txS {p : Int} (hp : 0 ≤ p) {c : Con} {l : List Con} (h : ∀ x ∈ c :: l, 0 ≤ x.exp ∧ x.exp ≤ 60 ∧ 1 ≤ x.dim ∧ x.dim ≤ 8) : wordsS (txS p (c :: l)) = ((c :: l).map fun x => strL (wL x)) ∧ headS (txS p (c :: l)) = Lib.itoa p := by
  have hc := cut_two (c := 58) (d := 32) (wL c ++ l.flatMap fun x => 32 :: wL x) (itoa_free (n := p) (c := 58) hp (.inr (by decide)))
  constructor
  · unfold wordsS restS cB
    rw [txS_list, hc]
    show (spl (wL c ++ l.flatMap fun x => 32 :: wL x)).map strL = _
    rw [spl_flat wL l c (fun x hx => wL_free (h x hx)), List.map_map]
    rfl
  · unfold headS cA
    rw [txS_list, hc]
    rfl
theorem vS_even {p : Int} {L : List Con} (h : vSv p L = true) : L ≠ [] ∧ ∀ c ∈ L, c.odd = false ∧ c.oddity = 0 := by
  obtain ⟨h1, h2, _, h4, h5⟩ := Q.vS_parts h
  have g1 := Q.vL_good (by omega) (by omega) h5
  refine ⟨fun e => h4 (by rw [e]; rfl), fun c hc => ?_⟩
  obtain ⟨a, b, d, e, f, o, g⟩ := g1 (toQ c) (List.mem_map.2 ⟨c, hc, rfl⟩)
  exact ⟨o, g⟩
theorem good_txS {p : Int} {L : List Con} (h : vSv p L = true) : conS (txS p L) = L ∧ goodS (txS p L) = true ∧ prsV (headS (txS p L)) = p := by
  obtain ⟨-, hp0, hp1, hd, -⟩ := vS_text h
  obtain ⟨hn, hv⟩ := vS_even h
  cases L with
  | nil => exact absurd rfl hn
  | cons c l =>
    obtain ⟨w1, w2⟩ := words_txS hp0 (c := c) (l := l) (fun x hx => (hd x hx).1.1)
    obtain ⟨p1, p2⟩ := prs_itoa hp0 (by omega : p < 10000)
    obtain ⟨r1, r2⟩ := rd_map (f := pcS) (w := wL) (L := c :: l) (fun x hx => pcS_word (hd x hx).1.1 (hd x hx).2 (hv x hx).1 (hv x hx).2)
    have e : conS (txS p (c :: l)) = c :: l := by unfold conS; rw [w1]; exact r1
    have e2 : prsV (headS (txS p (c :: l))) = p := by rw [w2]; exact p1
    refine ⟨e, ?_, e2⟩
    unfold goodS
    rw [e, e2, h, eqB_self, w1, r2, w2, p2]
    simp
end Go.Proofs.YtgdhgnhgmbkpdaaGreatDoor.S

namespace Go.Proofs.YtgdhgnhgmbkpdaaGreatDoor.S
open Go.QfSy Go.RowKit
def nxV (s : ByteArray) (a : Int) : Int := bif decide (a < (s.size : Int)) then ((s[a.toNat]?.getD 0).toNat : Int) else 0
def skA (s : ByteArray) (b a : Int) : Int := bif nxV s a == b then a + 1 else a
def skB (s : ByteArray) (b a : Int) (f : Bool) : Bool := bif nxV s a == b then f else true
def skp (s : ByteArray) (b : Int) (t : Int × Bool) : Int × Bool := (skA s b t.1, skB s b t.1 t.2)
def digQ (s : ByteArray) (a : Int) : Bool := decide (48 ≤ nxV s a) && decide (nxV s a ≤ 57)
def numG (s : ByteArray) : Nat → Int → Int → Int × Int
  | 0, n, a => (n, a)
  | k + 1, n, a => bif digQ s a then numG s k (10 * n + (nxV s a - 48)) (a + 1) else (n, a)
def numV (s : ByteArray) (a : Int) : Int := (numG s 9 0 a).1
def numE (s : ByteArray) (a : Int) : Int := (numG s 9 0 a).2
def numB (s : ByteArray) (a : Int) (f : Bool) : Bool := bif numE s a == a then true else f
def numS (s : ByteArray) (t : Int × Bool) : Int × Bool := (numE s t.1, numB s t.1 t.2)
def sgT (s : ByteArray) (t : Int × Bool) : Int × Bool := bif nxV s t.1 == 45 then skp s 45 t else skp s 43 t
def sgN (s : ByteArray) (t : Int × Bool) : Int := bif nxV s t.1 == 45 then -1 else 1
def t0 (s : ByteArray) (t : Int × Bool) : Int × Bool := skp s 32 t
def t1 (s : ByteArray) (t : Int × Bool) : Int × Bool := skp s 94 (numS s (t0 s t))
def t2 (s : ByteArray) (t : Int × Bool) : Int × Bool := sgT s (t1 s t)
def t3 (s : ByteArray) (t : Int × Bool) : Int × Bool := numS s (t2 s t)
def t4 (s : ByteArray) (t : Int × Bool) : Int × Bool := skp s 95 (t3 s t)
def evQ (s : ByteArray) (t : Int × Bool) : Bool := nxV s (t4 s t).1 == 73
def rdC (s : ByteArray) (p : Int) (t : Int × Bool) : Con :=
  ⟨numV s (t0 s t).1, numV s (t2 s t).1, sgN s (t1 s t), (p == 2) && !evQ s t, bif (p == 2) && !evQ s t then numV s (t4 s t).1 else 0⟩
def rdE (s : ByteArray) (p : Int) (t : Int × Bool) : Int × Bool :=
  bif p == 2 then bif evQ s t then skp s 73 (skp s 73 (t4 s t)) else numS s (t4 s t) else t3 s t
def rdL (s : ByteArray) (p : Int) : Nat → List Con → Int × Bool → List Con × (Int × Bool)
  | 0, L, t => (L, t)
  | k + 1, L, t => bif !t.2 && decide (t.1 < (s.size : Int)) then rdL s p k (L ++ [rdC s p t]) (rdE s p t) else (L, t)
def rdP (s : ByteArray) : Int := numV s 0
def rdT (s : ByteArray) : List Con × (Int × Bool) := rdL s (rdP s) (s.size + 2) [] (skp s 58 (numS s (0, false)))
theorem sz_app {s : ByteArray} {l : List UInt8} (h : s.data.toList = l) : s.size = l.length := by rw [← h]; rfl
theorem at_app {s : ByteArray} {A B : List UInt8} {x : UInt8} (h : s.data.toList = A ++ x :: B) : s[A.length]? = some x := by
  obtain ⟨⟨l⟩⟩ := s
  have h : l = A ++ x :: B := h
  subst h
  have hl : A.length < (ByteArray.mk ⟨A ++ x :: B⟩).size := by
    show A.length < (A ++ x :: B).length
    simp
  rw [getElem?_pos (ByteArray.mk ⟨A ++ x :: B⟩) A.length hl]
  show some ((A ++ x :: B)[A.length]'(by simp)) = _
  simp
theorem nx_app {s : ByteArray} {A B : List UInt8} {x : UInt8} (h : s.data.toList = A ++ x :: B) : nxV s A.length = (x.toNat : Int) := by
  have hs := sz_app h
  unfold nxV
  rw [decide_eq_true (by rw [hs]; simp; omega)]
  simp only [cond_true]
  have e : ((A.length : Int)).toNat = A.length := by omega
  rw [e, at_app h]
  rfl
theorem nx_end {s : ByteArray} {A : List UInt8} (h : s.data.toList = A) : nxV s A.length = 0 := by
  unfold nxV
  rw [decide_eq_false (by rw [sz_app h]; omega)]
  rfl
def stopD (B : List UInt8) : Prop := ∀ c r, B = c :: r → c.toNat < 48 ∨ 57 < c.toNat
theorem nx_stop {s : ByteArray} {A B : List UInt8} (h : s.data.toList = A ++ B) (hB : stopD B) : digQ s A.length = false := by
  unfold digQ
  cases B with
  | nil => rw [nx_end (by simpa using h)]; rfl
  | cons c r =>
    rw [nx_app h]
    rcases hB c r rfl with h | h
    · rw [decide_eq_false (by omega)]; rfl
    · rw [decide_eq_false (p := (c.toNat : Int) ≤ 57) (by omega)]; simp
theorem num_digits {s : ByteArray} : ∀ (ds : List UInt8) (k acc m : Nat) (A B : List UInt8), s.data.toList = A ++ (ds ++ B) → stopD B → Lib.decFrom acc ds = some m → ds.length ≤ k → numG s k acc A.length = ((m : Int), ((A ++ ds).length : Int))
  | [], k, acc, m, A, B, h, hB, hd, hk => by
    cases hd
    have h : s.data.toList = A ++ B := h
    cases k with
    | zero => simp [numG]
    | succ k => rw [numG, nx_stop h hB]; simp
  | c :: r, k, acc, m, A, B, h, hB, hd, hk => by
    have h : s.data.toList = A ++ c :: (r ++ B) := h
    cases k with
    | zero => simp at hk
    | succ k =>
      unfold Lib.decFrom at hd
      split at hd
      · rename_i d hv
        obtain ⟨g1, g2, g3⟩ := Lib.digitVal_eq hv
        have ih := num_digits r k (acc * 10 + d) m (A ++ [c]) B (by rw [h]; simp) hB hd (by simp at hk; omega)
        have e1 : 10 * (acc : Int) + ((c.toNat : Int) - 48) = ((acc * 10 + d : Nat) : Int) := by omega
        have e2 : (A.length : Int) + 1 = ((A ++ [c]).length : Int) := by simp
        have e3 : digQ s A.length = true := by
          unfold digQ
          rw [nx_app h, decide_eq_true (by omega), decide_eq_true (by omega)]; rfl
        rw [numG, e3, cond_true, nx_app h, e1, e2, ih]
        simp
      · cases hd
theorem num_itoa {s : ByteArray} {n : Int} {A B : List UInt8} (h0 : 0 ≤ n) (h1 : n < 10000) (h : s.data.toList = A ++ (Lib.itoa n ++ B)) (hB : stopD B) : numV s A.length = n ∧ ∀ f, numS s ((A.length : Int), f) = (((A ++ Lib.itoa n).length : Int), f) := by
  have hl := dec_len 3 n.toNat (by omega)
  rw [itoa_nat h0] at h ⊢
  have := num_digits (Lib.decDigits n.toNat) 9 0 n.toNat A B h hB (decFrom_dig _) (by omega)
  have this : numG s 9 0 A.length = ((n.toNat : Int), ((A ++ Lib.decDigits n.toNat).length : Int)) := this
  refine ⟨?_, fun f => ?_⟩
  · unfold numV; rw [this]; show (n.toNat : Int) = n; omega
  · unfold numS numB numE
    simp only
    rw [this]
    have hp : 0 < (Lib.decDigits n.toNat).length := List.length_pos_iff.2 (dec_ne _)
    have : (((A ++ Lib.decDigits n.toNat).length : Int) == (A.length : Int)) = false := by
      rw [beq_eq_false_iff_ne]; simp; omega
    rw [this]
    rfl
theorem skp_app {s : ByteArray} {A B : List UInt8} {x : UInt8} {b : Int} (h : s.data.toList = A ++ x :: B) (hb : (x.toNat : Int) = b) (f : Bool) : skp s b ((A.length : Int), f) = (((A ++ [x]).length : Int), f) := by
  unfold skp skA skB
  simp only
  rw [nx_app h, hb, beq_self_eq_true]
  simp
theorem stop_of {x : UInt8} (B : List UInt8) (h : x.toNat < 48 ∨ 57 < x.toNat) : stopD (x :: B) := by
  rintro c r e
  cases e
  exact h
theorem sg_byte (c : Con) (hs : c.sign = 1 ∨ c.sign = -1) : ((sgB8 c).toNat : Int) = (bif c.sign == -1 then 45 else 43) ∧ c.sign = (bif c.sign == -1 then -1 else 1) := by
  unfold sgB8
  rcases hs with h | h <;> rw [h] <;> exact ⟨rfl, rfl⟩
theorem read_head {s : ByteArray} {c : Con} {A B : List UInt8} (hc : 0 ≤ c.exp ∧ c.exp ≤ 60 ∧ 1 ≤ c.dim ∧ c.dim ≤ 8) (hs : c.sign = 1 ∨ c.sign = -1) (h : s.data.toList = A ++ (32 :: wL c ++ B)) (hB : stopD B) :
    numV s (t0 s ((A.length : Int), false)).1 = c.exp ∧ numV s (t2 s ((A.length : Int), false)).1 = c.dim ∧ sgN s (t1 s ((A.length : Int), false)) = c.sign ∧ t3 s ((A.length : Int), false) = (((A ++ (32 :: wL c)).length : Int), false) := by
  unfold wL at h ⊢
  have h0 : s.data.toList = A ++ 32 :: (Lib.itoa c.exp ++ 94 :: sgB8 c :: Lib.itoa c.dim ++ B) := h
  have h1 : s.data.toList = (A ++ [32]) ++ (Lib.itoa c.exp ++ (94 :: sgB8 c :: (Lib.itoa c.dim ++ B))) := by rw [h0]; simp
  have h2 : s.data.toList = (A ++ [32] ++ Lib.itoa c.exp) ++ 94 :: (sgB8 c :: (Lib.itoa c.dim ++ B)) := by rw [h0]; simp
  have h3 : s.data.toList = (A ++ [32] ++ Lib.itoa c.exp ++ [94]) ++ sgB8 c :: (Lib.itoa c.dim ++ B) := by rw [h0]; simp
  have h4 : s.data.toList = (A ++ [32] ++ Lib.itoa c.exp ++ [94] ++ [sgB8 c]) ++ (Lib.itoa c.dim ++ B) := by rw [h0]; simp
  have e0 : t0 s ((A.length : Int), false) = (((A ++ [32]).length : Int), false) := skp_app h0 rfl false
  obtain ⟨n1, n2⟩ := num_itoa hc.1 (by omega) h1 (stop_of _ (.inr (by decide)))
  have e1 : t1 s ((A.length : Int), false) = (((A ++ [32] ++ Lib.itoa c.exp ++ [94]).length : Int), false) := by
    unfold t1; rw [e0, n2, skp_app (b := 94) h2 rfl]
  obtain ⟨g1, g2⟩ := sg_byte c hs
  have e2 : t2 s ((A.length : Int), false) = (((A ++ [32] ++ Lib.itoa c.exp ++ [94] ++ [sgB8 c]).length : Int), false) := by
    unfold t2 sgT
    rw [e1]
    simp only
    rw [nx_app h3, g1]
    cases hq : c.sign == -1 with
    | true => rw [hq] at g1; exact skp_app h3 g1 false
    | false => rw [hq] at g1; exact skp_app h3 g1 false
  obtain ⟨m1, m2⟩ := num_itoa (n := c.dim) (by omega) (by omega) h4 hB
  refine ⟨by rw [e0]; exact n1, by rw [e2]; exact m1, ?_, ?_⟩
  · unfold sgN
    rw [e1]
    simp only
    rw [nx_app h3, g1, g2]
    cases hq : c.sign == -1 <;> rfl
  · unfold t3
    rw [e2, m2]
    simp
theorem read_con {s : ByteArray} {p : Int} {c : Con} {A B : List UInt8} (hp : p ≠ 2) (hc : 0 ≤ c.exp ∧ c.exp ≤ 60 ∧ 1 ≤ c.dim ∧ c.dim ≤ 8) (hs : c.sign = 1 ∨ c.sign = -1) (ho : c.odd = false) (hz : c.oddity = 0) (h : s.data.toList = A ++ (32 :: wL c ++ B)) (hB : stopD B) :
    rdC s p ((A.length : Int), false) = c ∧ rdE s p ((A.length : Int), false) = (((A ++ (32 :: wL c)).length : Int), false) := by
  obtain ⟨e1, e2, e3, e4⟩ := read_head hc hs h hB
  have hp : (p == 2) = false := by rw [beq_eq_false_iff_ne]; exact hp
  unfold rdC rdE
  rw [e1, e2, e3, e4, hp]
  obtain ⟨e, d, sg, o, t⟩ := c
  simp only at ho hz
  subst ho hz
  exact ⟨rfl, rfl⟩
theorem flat_stop (w : Con → List UInt8) (l : List Con) : stopD (l.flatMap fun x => 32 :: w x) := by
  cases l with
  | nil => rintro c r e; cases e
  | cons c l => exact stop_of _ (.inl (by decide))
theorem read_list {s : ByteArray} {p : Int} {w : Con → List UInt8} : ∀ (l : List Con) (k : Nat) (L : List Con) (A : List UInt8), (∀ c ∈ l, ∀ A B, s.data.toList = A ++ (32 :: w c ++ B) → stopD B → rdC s p ((A.length : Int), false) = c ∧ rdE s p ((A.length : Int), false) = (((A ++ (32 :: w c)).length : Int), false)) →
    s.data.toList = A ++ (l.flatMap fun x => 32 :: w x) → l.length ≤ k → rdL s p k L ((A.length : Int), false) = (L ++ l, ((s.size : Int), false))
  | [], k, L, A, hw, h, hk => by
    have h : s.data.toList = A := by rw [h]; simp
    have hs := sz_app h
    cases k with
    | zero => rw [rdL, hs]; simp
    | succ k => rw [rdL, hs]; simp
  | c :: l, k, L, A, hw, h, hk => by
    cases k with
    | zero => simp at hk
    | succ k =>
      have h1 : s.data.toList = A ++ (32 :: w c ++ (l.flatMap fun x => 32 :: w x)) := by rw [h]; simp
      have h2 : s.data.toList = (A ++ 32 :: w c) ++ (l.flatMap fun x => 32 :: w x) := by rw [h]; simp
      obtain ⟨e1, e2⟩ := hw c List.mem_cons_self A _ h1 (flat_stop w l)
      have ih := read_list l k (L ++ [c]) (A ++ 32 :: w c) (fun x hx => hw x (List.mem_cons_of_mem _ hx)) h2 (by simpa using hk)
      have hs := sz_app h1
      have hd : decide ((A.length : Int) < (s.size : Int)) = true := decide_eq_true (by rw [hs]; simp; omega)
      rw [rdL, hd, e1, e2, ih]
      simp
theorem read_txS {p : Int} {L : List Con} (h : vSv p L = true) : rdP (txS p L) = p ∧ rdT (txS p L) = (L, (((txS p L).size : Int), false)) := by
  obtain ⟨hp2, hp0, hp1, hd, hn⟩ := vS_text h
  obtain ⟨-, hv⟩ := vS_even h
  have h0 : (txS p L).data.toList = [] ++ (Lib.itoa p ++ (58 :: (L.flatMap fun x => 32 :: wL x))) := by
    unfold txS
    rw [txB_list]
    simp [digS, strL]
  obtain ⟨n1, n2⟩ := num_itoa hp0 (by omega) h0 (stop_of _ (.inr (by decide)))
  have h1 : (txS p L).data.toList = ([] ++ Lib.itoa p) ++ 58 :: (L.flatMap fun x => 32 :: wL x) := by rw [h0]; simp
  have h2 : (txS p L).data.toList = ([] ++ Lib.itoa p ++ [58]) ++ (L.flatMap fun x => 32 :: wL x) := by rw [h0]; simp
  have n1 : rdP (txS p L) = p := n1
  refine ⟨n1, ?_⟩
  have hsz : L.length ≤ (txS p L).size + 2 := by
    have e : ∀ l : List Con, l.length ≤ (l.flatMap fun x => 32 :: wL x).length := by
      intro l
      induction l with
      | nil => simp
      | cons c l ih => simp only [List.flatMap_cons, List.length_append, List.length_cons]; omega
    have := e L
    have hs := sz_app h2
    rw [List.length_append] at hs
    omega
  unfold rdT
  rw [n1]
  have n2 := n2 false
  have n2 : numS (txS p L) (0, false) = ((([] ++ Lib.itoa p).length : Int), false) := n2
  rw [n2, skp_app (b := 58) h1 rfl]
  have := read_list (s := txS p L) (p := p) (w := wL) L ((txS p L).size + 2) [] _ (fun c hc A B g1 g2 => read_con hp2 (hd c hc).1.1 (hd c hc).2 (hv c hc).1 (hv c hc).2 g1 g2) h2 hsz
  simpa using this
end Go.Proofs.YtgdhgnhgmbkpdaaGreatDoor.S

namespace Go.Proofs.YtgdhgnhgmbkpdaaGreatDoor.S
open Go.QfSy Go.RowKit
theorem nx_bounds (s : ByteArray) (a : Int) : 0 ≤ nxV s a ∧ nxV s a ≤ 255 := by
  unfold nxV
  cases decide (a < (s.size : Int)) with
  | false => simp only [cond_false]; omega
  | true =>
    have := (s[a.toNat]?.getD 0).toNat_lt
    simp only [cond_true]
    omega
theorem nx_pos {s : ByteArray} {a : Int} (h : nxV s a ≠ 0) : a < (s.size : Int) := by
  unfold nxV at h
  by_cases hd : a < (s.size : Int)
  · exact hd
  · rw [decide_eq_false hd] at h
    exact absurd rfl h
theorem skA_bounds {s : ByteArray} {b a : Int} (hb : b ≠ 0) : a ≤ skA s b a ∧ skA s b a ≤ a + 1 ∧ (a ≤ s.size → skA s b a ≤ s.size) := by
  unfold skA
  by_cases h : nxV s a = b
  · have := nx_pos (s := s) (a := a) (by rw [h]; exact hb)
    rw [beq_iff_eq.2 h]
    simp only [cond_true]
    omega
  · rw [beq_eq_false_iff_ne.2 h]
    simp only [cond_false]
    omega
theorem skB_false {s : ByteArray} {b a : Int} {f : Bool} (h : skB s b a f = false) : f = false ∧ skA s b a = a + 1 := by
  unfold skB at h
  unfold skA
  cases hq : nxV s a == b with
  | true => rw [hq] at h; exact ⟨h, rfl⟩
  | false => rw [hq] at h; cases h
theorem numG_bounds (s : ByteArray) : ∀ (k : Nat) (n a : Int), 0 ≤ n → 0 ≤ (numG s k n a).1 ∧ (numG s k n a).1 < (n + 1) * 10 ^ k ∧ a ≤ (numG s k n a).2 ∧ (a ≤ s.size → (numG s k n a).2 ≤ s.size)
  | 0, n, a, h => by
    simp only [numG]
    refine ⟨h, by omega, Int.le_refl _, fun h => h⟩
  | k + 1, n, a, h => by
    rw [numG]
    cases hq : digQ s a with
    | false =>
      simp only [cond_false]
      refine ⟨h, ?_, Int.le_refl _, fun h => h⟩
      have h0 : (0 : Int) < 10 ^ (k + 1) := Int.pow_pos (by decide)
      have h1 : (1 : Int) ≤ 10 ^ (k + 1) := by omega
      have := Int.mul_le_mul_of_nonneg_left h1 (show (0 : Int) ≤ n + 1 by omega)
      omega
    | true =>
      simp only [cond_true]
      unfold digQ at hq
      simp only [Bool.and_eq_true, decide_eq_true_eq] at hq
      have hp := nx_pos (s := s) (a := a) (by omega)
      obtain ⟨g1, g2, g3, g4⟩ := numG_bounds s k (10 * n + (nxV s a - 48)) (a + 1) (by omega)
      refine ⟨g1, ?_, by omega, fun _ => g4 (by omega)⟩
      have h1 : (0 : Int) ≤ 10 ^ k := Int.le_of_lt (Int.pow_pos (by decide))
      have : (10 * n + (nxV s a - 48) + 1) * 10 ^ k ≤ ((n + 1) * 10) * 10 ^ k := Int.mul_le_mul_of_nonneg_right (by omega) h1
      have e : (n + 1) * 10 ^ (k + 1) = ((n + 1) * 10) * 10 ^ k := by rw [Int.pow_succ, Int.mul_assoc, Int.mul_comm 10]
      omega
theorem numE_bounds (s : ByteArray) (a : Int) : a ≤ numE s a ∧ (a ≤ s.size → numE s a ≤ s.size) := by
  obtain ⟨_, _, g3, g4⟩ := numG_bounds s 9 0 a (by decide)
  exact ⟨g3, g4⟩
theorem numB_false {s : ByteArray} {a : Int} {f : Bool} (h : numB s a f = false) : f = false := by
  unfold numB at h
  cases hq : numE s a == a with
  | true => rw [hq] at h; cases h
  | false => rw [hq] at h; exact h
theorem num_lim {n : Int} {k : Nat} (h0 : 0 ≤ n) (h : (n + 1) * 10 ^ k ≤ 1000000000) : n < 1000000000 := by
  have h1 : (0 : Int) < 10 ^ k := Int.pow_pos (by decide)
  have := Int.mul_le_mul_of_nonneg_left (show (1 : Int) ≤ 10 ^ k by omega) (show (0 : Int) ≤ n + 1 by omega)
  omega
theorem num_limS {n d : Int} {k : Nat} (hk : 0 < k) (hd : d ≤ 9) (h : (n + 1) * 10 ^ k ≤ 1000000000) : (10 * n + d + 1) * 10 ^ (k - 1) ≤ 1000000000 := by
  obtain ⟨j, rfl⟩ : ∃ j, k = j + 1 := ⟨k - 1, by omega⟩
  have h1 : (0 : Int) ≤ 10 ^ j := Int.le_of_lt (Int.pow_pos (by decide))
  have : (10 * n + d + 1) * 10 ^ j ≤ ((n + 1) * 10) * 10 ^ j := Int.mul_le_mul_of_nonneg_right (by omega) h1
  have e : (n + 1) * 10 ^ (j + 1) = ((n + 1) * 10) * 10 ^ j := by rw [Int.pow_succ, Int.mul_assoc, Int.mul_comm 10]
  rw [show j + 1 - 1 = j from rfl]
  omega
theorem numG_go {s : ByteArray} {k : Nat} {n a : Int} (hk : 0 < k) (h : digQ s a = true) : numG s k n a = numG s (k - 1) (10 * n + (nxV s a - 48)) (a + 1) := by
  obtain ⟨j, rfl⟩ : ∃ j, k = j + 1 := ⟨k - 1, by omega⟩
  rw [numG, h]
  rfl
theorem numG_stop {s : ByteArray} {k : Nat} {n a : Int} (h : digQ s a = false) : numG s k n a = (n, a) := by
  cases k with
  | zero => rfl
  | succ k => rw [numG, h]; rfl
theorem digQ_of {s : ByteArray} {a : Int} (h1 : nxV s a ≥ 48) (h2 : nxV s a ≤ 57) : digQ s a = true := by
  unfold digQ; rw [decide_eq_true h1, decide_eq_true h2]; rfl
theorem digQ_not {s : ByteArray} {a : Int} (h : ¬ nxV s a ≥ 48 ∨ ¬ nxV s a ≤ 57) : digQ s a = false := by
  unfold digQ
  rcases h with h | h
  · rw [decide_eq_false h]; rfl
  · rw [decide_eq_false h, Bool.and_false]
def goes (s : ByteArray) (t t' : Int × Bool) : Prop := t.1 ≤ t'.1 ∧ (t.1 ≤ s.size → t'.1 ≤ s.size) ∧ (t'.2 = false → t.2 = false)
theorem goes.trans {s : ByteArray} {t t' t'' : Int × Bool} (h : goes s t t') (h' : goes s t' t'') : goes s t t'' :=
  ⟨Int.le_trans h.1 h'.1, fun g => h'.2.1 (h.2.1 g), fun g => h.2.2 (h'.2.2 g)⟩
theorem skp_goes {s : ByteArray} {b : Int} (t : Int × Bool) (hb : b ≠ 0) : goes s t (skp s b t) :=
  ⟨(skA_bounds hb).1, (skA_bounds hb).2.2, fun h => (skB_false h).1⟩
theorem numS_goes {s : ByteArray} (t : Int × Bool) : goes s t (numS s t) :=
  ⟨(numE_bounds s t.1).1, (numE_bounds s t.1).2, fun h => numB_false h⟩
theorem sgT_goes {s : ByteArray} (t : Int × Bool) : goes s t (sgT s t) := by
  unfold sgT
  cases nxV s t.1 == 45
  · exact skp_goes t (by decide)
  · exact skp_goes t (by decide)
theorem t1_goes (s : ByteArray) (t : Int × Bool) : goes s (t0 s t) (t1 s t) := (numS_goes _).trans (skp_goes _ (by decide))
theorem t3_goes (s : ByteArray) (t : Int × Bool) : goes s (t0 s t) (t3 s t) := ((t1_goes s t).trans (sgT_goes _)).trans (numS_goes _)
theorem t4_goes (s : ByteArray) (t : Int × Bool) : goes s (t0 s t) (t4 s t) := (t3_goes s t).trans (skp_goes _ (by decide))
theorem rdE_goes0 (s : ByteArray) (p : Int) (t : Int × Bool) : goes s (t0 s t) (rdE s p t) := by
  unfold rdE
  cases p == 2
  · exact t3_goes s t
  · cases evQ s t
    · exact (t4_goes s t).trans (numS_goes _)
    · exact ((t4_goes s t).trans (skp_goes _ (by decide))).trans (skp_goes _ (by decide))
theorem rdE_goes (s : ByteArray) (p : Int) (t : Int × Bool) : goes s t (rdE s p t) := (skp_goes t (by decide)).trans (rdE_goes0 s p t)
theorem rdE_step {s : ByteArray} {p : Int} {t : Int × Bool} (h : (rdE s p t).2 = false) : t.1 + 1 ≤ (rdE s p t).1 := by
  have h0 := rdE_goes0 s p t
  have h1 : (t0 s t).2 = false := h0.2.2 h
  have h2 : (t0 s t).1 = t.1 + 1 := (skB_false h1).2
  have := h0.1
  omega
theorem rdL_go {s : ByteArray} {p a : Int} {f : Bool} {k : Nat} {L : List Con} (hf : f = false) (ha : a < (s.size : Int)) (hk : 0 < k) : rdL s p k L (a, f) = rdL s p (k - 1) (L ++ [rdC s p (a, f)]) (rdE s p (a, f)) := by
  obtain ⟨j, rfl⟩ : ∃ j, k = j + 1 := ⟨k - 1, by omega⟩
  subst hf
  rw [rdL, decide_eq_true ha]
  rfl
theorem rdL_end {s : ByteArray} {p a : Int} {f : Bool} {k : Nat} {L : List Con} (h : f = true ∨ ¬ a < (s.size : Int)) : rdL s p k L (a, f) = (L, (a, f)) := by
  cases k with
  | zero => rfl
  | succ k =>
    rw [rdL]
    rcases h with h | h
    · subst h; rfl
    · rw [decide_eq_false h, Bool.and_false]; rfl
def rdFin (s : ByteArray) (p : Int) (t : Int × Bool) : List Con × (Int × Bool) := rdL s p (s.size + 2) [] t
structure RdI (s : ByteArray) (p : Int) (t : Int × Bool) (k : Nat) (a : Int) (f : Bool) (L : List Con) : Prop where
  fin : rdL s p k L (a, f) = rdFin s p t
  fuel : f = false → (s.size : Int) - a + 1 ≤ k
  lo : 0 ≤ a
  hi : a ≤ s.size
  len : (L.length : Int) ≤ a + 1
  len0 : f = false → (L.length : Int) ≤ a
theorem RdI.step {s : ByteArray} {p : Int} {t : Int × Bool} {k : Nat} {a : Int} {f : Bool} {L : List Con} (h : RdI s p t k a f L) (hf : f = false) (ha : a < (s.size : Int)) : RdI s p t (k - 1) (rdE s p (a, f)).1 (rdE s p (a, f)).2 (L ++ [rdC s p (a, f)]) ∧ 0 < k := by
  have hk := h.fuel hf
  have h1 := h.len0 hf
  have hlo := h.lo
  have hhi := h.hi
  obtain ⟨g1, g2, _⟩ := rdE_goes s p (a, f)
  have g1 : a ≤ (rdE s p (a, f)).1 := g1
  refine ⟨⟨?_, fun h2 => ?_, by omega, g2 hhi, ?_, fun h2 => ?_⟩, by omega⟩
  · have := h.fin
    rw [rdL_go hf ha (by omega)] at this
    exact this
  · have h3 : a + 1 ≤ (rdE s p (a, f)).1 := rdE_step h2
    omega
  · rw [List.length_append, List.length_singleton]; omega
  · have h3 : a + 1 ≤ (rdE s p (a, f)).1 := rdE_step h2
    rw [List.length_append, List.length_singleton]; omega
theorem RdI.done {s : ByteArray} {p : Int} {t : Int × Bool} {k : Nat} {a : Int} {f : Bool} {L : List Con} (h : RdI s p t k a f L) (he : f = true ∨ ¬ a < (s.size : Int)) : (rdFin s p t).1 = L ∧ (rdFin s p t).2.1 = a ∧ (rdFin s p t).2.2 = f := by
  rw [← h.fin, rdL_end he]
  exact ⟨rfl, rfl, rfl⟩
theorem RdI.start {s : ByteArray} {p a : Int} {f : Bool} (h0 : 0 ≤ a) (h1 : a ≤ (s.size : Int)) : RdI s p (a, f) (s.size + 2) a f [] := by
  refine ⟨rfl, fun _ => by omega, h0, h1, ?_, fun _ => ?_⟩
  · show ((0 : Nat) : Int) ≤ _; omega
  · show ((0 : Nat) : Int) ≤ _; omega
end Go.Proofs.YtgdhgnhgmbkpdaaGreatDoor.S

namespace Go.Proofs.YtgdhgnhgmbkpdaaGreatDoor.S
open Go.QfSy Go.RowKit
def rV (s : ByteArray) (a : Int) (f : Bool) : List RV := [.str s, .int .i64 a, .bool f]
attribute [local irreducible] nxV skA skB numV numE numB
theorem next_ptr (s : ByteArray) (a : Int) (f : Bool) (hs : s.size ≤ 1000) (h0 : 0 ≤ a) : PtrC Tryz.prog 97 103 ((rV s a f)) [] (.int .u8 (nxV s a)) ((rV s a f)) := by
  have rr := fun (tp : List Bool) (ms : List Prop) h hm => ptr_of_run evOk (callF_ok evOk (noOrc_ok _ _) 8) Tryz.func103 (A := []) (V := (rV s a f)) (V' := (rV s a f)) (el := 97) (N := Nat.max 1 Tryz.f103.ntmps) rfl none_ann evNg (R := .int .u8 (nxV s a)) (tp := tp) (ms := ms) h hm
  refine oe (decide (a ≥ (↑s.size : Int))) (fun d1 => rr [true] [(0 : Int) = nxV s a, s = s, a = a, f = f, Dec (decide (a ≥ (↑s.size : Int))) true] (by kernel_rfl) ⟨?_, ?_, ?_, ?_, d1⟩) (fun d1 => rr [false] [(↑(s[a.toNat]?.getD (0 : UInt8)).toNat : Int) = nxV s a, s = s, a = a, f = f, (0 : Int) ≤ a ∧ a.toNat < s.size, Dec (decide (a ≥ (↑s.size : Int))) false] (by kernel_rfl) ⟨?_, ?_, ?_, ?_, ?_, d1⟩)
  all_goals first | (first | (with_reducible rfl) | (simp only [decide_eq_true_eq] at d1; unfold nxV; rw [decide_eq_false (by omega)]; rfl) | (simp only [decide_eq_false_iff_not] at d1; first | omega | (unfold nxV; rw [decide_eq_true (by omega)]; rfl)))
def nextGo (V A : List RV) : Option (RV × List RV × List Prop) := match V, A with
  | [.str s, .int .i64 a, .bool f], [] => some (.int .u8 (nxV s a), rV s a f, [s.size ≤ 1000 ∧ 0 ≤ a])
  | _, _ => none
theorem nextGo_ok : ∀ V A R V' ms, nextGo V A = some (R, V', ms) → (∀ p ∈ ms, p) → PtrC Tryz.prog 97 103 V A R V' := by
  intro V A R V' ms h hm
  unfold nextGo at h
  split at h
  · cases h
    obtain ⟨h1, h2⟩ := all_one hm
    exact next_ptr _ _ _ h1 h2
  · cases h
noncomputable def nextOrc : CallF := orcP 97 103 nextGo noOrc
theorem nextOrc_ok : CallOk Tryz.prog EV.ng nextOrc := orcP_ok nextGo_ok (noOrc_ok _ _)
theorem skip_ptr (s : ByteArray) (a : Int) (f : Bool) (b : Int) (hs : s.size ≤ 1000) (h0 : 0 ≤ a) (h1 : a ≤ 1000) : PtrC Tryz.prog 97 67 ((rV s a f)) [.int .u8 b] (.tup []) ((rV s (skA s b a) (skB s b a f))) := by
  have rr := fun (tp : List Bool) (ms : List Prop) h hm => ptr_of_run evOk (callF_ok evOk nextOrc_ok 8) Tryz.func67 (A := [.int .u8 b]) (V := (rV s a f)) (V' := (rV s (skA s b a) (skB s b a f))) (el := 97) (N := Nat.max 2 Tryz.f67.ntmps) rfl none_ann evNg (R := .tup []) (tp := tp) (ms := ms) h hm
  refine oe (nxV s a == b) (fun d1 => rr [false] [s = s, IntKind.i64.wrap (a + 1) = skA s b a, f = skB s b a f, Dec (nxV s a != b) false, s.size ≤ (1000 : Nat) ∧ (0 : Int) ≤ a] (by kernel_rfl) ⟨?_, ?_, ?_, (dN d1), (?_ : s.size ≤ (1000 : Nat) ∧ (0 : Int) ≤ a)⟩) (fun d1 => rr [true] [s = s, a = skA s b a, true = skB s b a f, Dec (nxV s a != b) true, s.size ≤ (1000 : Nat) ∧ (0 : Int) ≤ a] (by kernel_rfl) ⟨?_, ?_, ?_, (dN d1), (?_ : s.size ≤ (1000 : Nat) ∧ (0 : Int) ≤ a)⟩)
  all_goals first | (first | (with_reducible rfl) | omega | (unfold skA; rw [d1]; rfl) | (unfold skB; rw [d1]; rfl) | (unfold skA; rw [d1, w64 (by omega) (by omega)]; rfl))
noncomputable def rdB (s : ByteArray) (a : Int) (f : Bool) : List (Nat × Blk) := [(1000, ⟨.plain [.vstr s, .vint .i64 a, .vbool f], 97, 0, false, true⟩)]
noncomputable def nmAnn (s : ByteArray) (a : Int) (f : Bool) : Ann := ⟨⟨[(0, .ptr 1000 0), (3, .int .i64 0), (4, .vint .i64 a)], rdB s a f, 1100⟩, none, fun _ => (.exit 0, ⟨[(0, .ptr 1000 0), (3, .vint .i64 (numV s a)), (4, .vint .i64 a)], rdB s (numE s a) f, 1100⟩)⟩
theorem dig_wrap8 {c : Int} (h0 : 48 ≤ c) (h1 : c ≤ 57) : IntKind.u8.wrap (c - 48) = c - 48 := by
  unfold IntKind.wrap
  simp [IntKind.bits, IntKind.signed]
  omega
theorem num_wrap {n c : Int} (h0 : 0 ≤ n) (h1 : n < 1000000000) (h2 : 48 ≤ c) (h3 : c ≤ 57) : IntKind.i64.wrap (IntKind.i64.wrap ((10 : Int) * n) + IntKind.i64.wrap (IntKind.u8.wrap (c - (48 : Int)))) = 10 * n + (c - 48) := by
  have e1 : IntKind.i64.wrap ((10 : Int) * n) = 10 * n := w64 (by omega) (by omega)
  have e2 : IntKind.i64.wrap (c - 48) = c - 48 := w64 (by omega) (by omega)
  rw [dig_wrap8 h2 h3, e1, e2]
  exact w64 (by omega) (by omega)
theorem num_end {s : ByteArray} {k : Nat} {n a a0 : Int} (g : numG s k n a = numG s 9 0 a0) (h : digQ s a = false ∨ k = 0) : n = numV s a0 ∧ a = numE s a0 := by
  have e : numG s k n a = (n, a) := by
    rcases h with h | h
    · exact numG_stop h
    · rw [h]; rfl
  rw [e] at g
  unfold numV numE
  rw [← g]
  exact ⟨rfl, rfl⟩
theorem nm_loop (s : ByteArray) (a : Int) (f : Bool) (hs : s.size ≤ 1000) (h0 : 0 ≤ a) (h1 : a ≤ 1000) : AnnOk Tryz.prog EV.ng (Nat.max 1 Tryz.f66.ntmps) (bodyAt Tryz.f66 [0, 0, 1, 1]) (nmAnn s a f) := by
  refine ann_of evOk (callF_ok evOk nextOrc_ok 8) none_ann (by kernel_rfl) (by kernel_rfl) (fun i : Nat × Int × Int => (fun (q : Nat × Int × Int) => (⟨[(0, .ptr 1000 0), (3, .vint .i64 q.2.1), (4, .vint .i64 a)], rdB s q.2.2 f, 1100⟩ : St)) i) (fun i : Nat × Int × Int => (fun (q : Nat × Int × Int) => (q.1 : Nat)) i) (fun (d : Bool) (i : Nat × Int × Int) => (fun (q : Nat × Int × Int) => (numG s q.1 q.2.1 q.2.2 = numG s 9 0 a ∧ q.1 ≤ 9 ∧ q.2.2 = a + (9 - (q.1 : Int)) ∧ 0 ≤ q.2.1 ∧ (q.2.1 + 1) * 10 ^ q.1 ≤ 1000000000 : Prop)) i) ?_ ?_
  · intro d hd
    exact ⟨((9, 0, a)), [(0 : Int) = ((0 : Int), a).fst, a = a, s = s, a = ((0 : Int), a).snd, f = f], by kernel_rfl, (by refine ⟨?_, ?_, ?_, ?_, (?_ : f = f)⟩ <;> (first | rfl | assumption | omega | simp_all)), (by exact ⟨rfl, Nat.le_refl 9, (by show a = a + (9 - ((9 : Nat) : Int)); omega), Int.le_refl 0, (by show ((0 : Int) + 1) * 10 ^ 9 ≤ 1000000000; decide)⟩)⟩
  · rintro d hd q hI
    cases d
    · -- d = false
      obtain ⟨g1, g2, g3, g4, g5⟩ := hI; have g6 := num_lim g4 g5; have g7 := nx_bounds s q.2.2
      refine oe (decide (nxV s q.snd.snd ≥ 48)) (fun d1 => oe (decide (nxV s q.snd.snd ≤ 57)) (fun d2 => oe (decide (IntKind.i64.wrap (q.snd.snd - a) < 9)) (fun d3 => ⟨[true, true, true], .inl ⟨((q.1 - 1, 10 * q.2.1 + (nxV s q.2.2 - 48), q.2.2 + 1)), [IntKind.i64.wrap (IntKind.i64.wrap ((10 : Int) * q.snd.fst) + IntKind.i64.wrap (IntKind.u8.wrap (nxV s q.snd.snd - 48))) = ((10 : Int) * q.snd.fst + (nxV s q.snd.snd - 48), q.snd.snd + 1).fst, a = a, s = s, IntKind.i64.wrap (q.snd.snd + 1) = ((10 : Int) * q.snd.fst + (nxV s q.snd.snd - 48), q.snd.snd + 1).snd, f = f, s.size ≤ (1000 : Nat) ∧ (0 : Int) ≤ q.snd.snd, Dec (decide (IntKind.i64.wrap (q.snd.snd - a) < 9)) true, Dec (decide (nxV s q.snd.snd ≤ 57)) true, s.size ≤ (1000 : Nat) ∧ (0 : Int) ≤ q.snd.snd, Dec (decide (nxV s q.snd.snd ≥ 48)) true, s.size ≤ (1000 : Nat) ∧ (0 : Int) ≤ q.snd.snd], by kernel_rfl, ⟨?_, ?_, ?_, ?_, ?_, ?_, d3, d2, ?_, d1, (?_ : s.size ≤ (1000 : Nat) ∧ (0 : Int) ≤ q.snd.snd)⟩, MuG.out ?_, InG.out ?_⟩⟩) (fun d3 => ⟨[true, true, false], .inr ⟨[q.snd.fst = numV s a, a = a, s = s, q.snd.snd = numE s a, f = f, Dec (decide (IntKind.i64.wrap (q.snd.snd - a) < 9)) false, Dec (decide (nxV s q.snd.snd ≤ 57)) true, s.size ≤ (1000 : Nat) ∧ (0 : Int) ≤ q.snd.snd, Dec (decide (nxV s q.snd.snd ≥ 48)) true, s.size ≤ (1000 : Nat) ∧ (0 : Int) ≤ q.snd.snd], by kernel_rfl, ⟨?_, ?_, ?_, ?_, ?_, d3, d2, ?_, d1, (?_ : s.size ≤ (1000 : Nat) ∧ (0 : Int) ≤ q.snd.snd)⟩, rfl⟩⟩)) (fun d2 => ⟨[true, false], .inr ⟨[q.snd.fst = numV s a, a = a, s = s, q.snd.snd = numE s a, f = f, Dec (decide (nxV s q.snd.snd ≤ 57)) false, s.size ≤ (1000 : Nat) ∧ (0 : Int) ≤ q.snd.snd, Dec (decide (nxV s q.snd.snd ≥ 48)) true, s.size ≤ (1000 : Nat) ∧ (0 : Int) ≤ q.snd.snd], by kernel_rfl, ⟨?_, ?_, ?_, ?_, ?_, d2, ?_, d1, (?_ : s.size ≤ (1000 : Nat) ∧ (0 : Int) ≤ q.snd.snd)⟩, rfl⟩⟩)) (fun d1 => ⟨[false], .inr ⟨[q.snd.fst = numV s a, a = a, s = s, q.snd.snd = numE s a, f = f, Dec (decide (nxV s q.snd.snd ≥ 48)) false, s.size ≤ (1000 : Nat) ∧ (0 : Int) ≤ q.snd.snd], by kernel_rfl, ⟨?_, ?_, ?_, ?_, ?_, d1, (?_ : s.size ≤ (1000 : Nat) ∧ (0 : Int) ≤ q.snd.snd)⟩, rfl⟩⟩)
      all_goals first | (refine MuG.mk ?_; (have d3 := of_decide_eq_true d3; rw [w64 (by omega) (by omega)] at d3; show q.1 - 1 < q.1; omega)) | (refine InG.mk ?_; (have d1 := of_decide_eq_true d1; have d2 := of_decide_eq_true d2; have d3 := of_decide_eq_true d3; rw [w64 (by omega) (by omega)] at d3; exact ⟨by show numG s (q.1 - 1) (10 * q.2.1 + (nxV s q.2.2 - 48)) (q.2.2 + 1) = _; rw [← numG_go (by omega) (digQ_of d1 d2)]; exact g1, by show q.1 - 1 ≤ 9; omega, by show q.2.2 + 1 = a + (9 - ((q.1 - 1 : Nat) : Int)); omega, by show 0 ≤ 10 * q.2.1 + (nxV s q.2.2 - 48); omega, num_limS (by omega) (by omega) g5⟩)) | (refine CtG.mk ?_; (exact (5 : Nat))) | (first | (with_reducible rfl) | exact (num_end g1 (.inl (digQ_not (.inl (of_decide_eq_false d1))))).1 | exact (num_end g1 (.inl (digQ_not (.inl (of_decide_eq_false d1))))).2 | exact (num_end g1 (.inl (digQ_not (.inr (of_decide_eq_false d2))))).1 | exact (num_end g1 (.inl (digQ_not (.inr (of_decide_eq_false d2))))).2 | (have d3 := of_decide_eq_false d3; rw [w64 (by omega) (by omega)] at d3; first | exact (num_end g1 (.inr (by omega))).1 | exact (num_end g1 (.inr (by omega))).2) | (have d1 := of_decide_eq_true d1; have d2 := of_decide_eq_true d2; first | exact num_wrap g4 g6 d1 d2 | (show IntKind.i64.wrap (q.2.2 + 1) = q.2.2 + 1; exact w64 (by omega) (by omega)) | omega) | omega)
    · -- d = true
      obtain ⟨g1, g2, g3, g4, g5⟩ := hI; have g6 := num_lim g4 g5; have g7 := nx_bounds s q.2.2
      refine oe (decide (nxV s q.snd.snd ≥ 48)) (fun d1 => oe (decide (nxV s q.snd.snd ≤ 57)) (fun d2 => oe (decide (IntKind.i64.wrap (q.snd.snd - a) < 9)) (fun d3 => ⟨[true, true, true], .inl ⟨((q.1 - 1, 10 * q.2.1 + (nxV s q.2.2 - 48), q.2.2 + 1)), [IntKind.i64.wrap (IntKind.i64.wrap ((10 : Int) * q.snd.fst) + IntKind.i64.wrap (IntKind.u8.wrap (nxV s q.snd.snd - 48))) = ((10 : Int) * q.snd.fst + (nxV s q.snd.snd - 48), q.snd.snd + 1).fst, a = a, s = s, IntKind.i64.wrap (q.snd.snd + 1) = ((10 : Int) * q.snd.fst + (nxV s q.snd.snd - 48), q.snd.snd + 1).snd, f = f, s.size ≤ (1000 : Nat) ∧ (0 : Int) ≤ q.snd.snd, Dec (decide (IntKind.i64.wrap (q.snd.snd - a) < 9)) true, Dec (decide (nxV s q.snd.snd ≤ 57)) true, s.size ≤ (1000 : Nat) ∧ (0 : Int) ≤ q.snd.snd, Dec (decide (nxV s q.snd.snd ≥ 48)) true, s.size ≤ (1000 : Nat) ∧ (0 : Int) ≤ q.snd.snd], by kernel_rfl, ⟨?_, ?_, ?_, ?_, ?_, ?_, d3, d2, ?_, d1, (?_ : s.size ≤ (1000 : Nat) ∧ (0 : Int) ≤ q.snd.snd)⟩, MuG.out ?_, InG.out ?_⟩⟩) (fun d3 => ⟨[true, true, false], .inr ⟨[q.snd.fst = numV s a, a = a, s = s, q.snd.snd = numE s a, f = f, Dec (decide (IntKind.i64.wrap (q.snd.snd - a) < 9)) false, Dec (decide (nxV s q.snd.snd ≤ 57)) true, s.size ≤ (1000 : Nat) ∧ (0 : Int) ≤ q.snd.snd, Dec (decide (nxV s q.snd.snd ≥ 48)) true, s.size ≤ (1000 : Nat) ∧ (0 : Int) ≤ q.snd.snd], by kernel_rfl, ⟨?_, ?_, ?_, ?_, ?_, d3, d2, ?_, d1, (?_ : s.size ≤ (1000 : Nat) ∧ (0 : Int) ≤ q.snd.snd)⟩, rfl⟩⟩)) (fun d2 => ⟨[true, false], .inr ⟨[q.snd.fst = numV s a, a = a, s = s, q.snd.snd = numE s a, f = f, Dec (decide (nxV s q.snd.snd ≤ 57)) false, s.size ≤ (1000 : Nat) ∧ (0 : Int) ≤ q.snd.snd, Dec (decide (nxV s q.snd.snd ≥ 48)) true, s.size ≤ (1000 : Nat) ∧ (0 : Int) ≤ q.snd.snd], by kernel_rfl, ⟨?_, ?_, ?_, ?_, ?_, d2, ?_, d1, (?_ : s.size ≤ (1000 : Nat) ∧ (0 : Int) ≤ q.snd.snd)⟩, rfl⟩⟩)) (fun d1 => ⟨[false], .inr ⟨[q.snd.fst = numV s a, a = a, s = s, q.snd.snd = numE s a, f = f, Dec (decide (nxV s q.snd.snd ≥ 48)) false, s.size ≤ (1000 : Nat) ∧ (0 : Int) ≤ q.snd.snd], by kernel_rfl, ⟨?_, ?_, ?_, ?_, ?_, d1, (?_ : s.size ≤ (1000 : Nat) ∧ (0 : Int) ≤ q.snd.snd)⟩, rfl⟩⟩)
      all_goals first | (refine MuG.mk ?_; (have d3 := of_decide_eq_true d3; rw [w64 (by omega) (by omega)] at d3; show q.1 - 1 < q.1; omega)) | (refine InG.mk ?_; (have d1 := of_decide_eq_true d1; have d2 := of_decide_eq_true d2; have d3 := of_decide_eq_true d3; rw [w64 (by omega) (by omega)] at d3; exact ⟨by show numG s (q.1 - 1) (10 * q.2.1 + (nxV s q.2.2 - 48)) (q.2.2 + 1) = _; rw [← numG_go (by omega) (digQ_of d1 d2)]; exact g1, by show q.1 - 1 ≤ 9; omega, by show q.2.2 + 1 = a + (9 - ((q.1 - 1 : Nat) : Int)); omega, by show 0 ≤ 10 * q.2.1 + (nxV s q.2.2 - 48); omega, num_limS (by omega) (by omega) g5⟩)) | (refine CtG.mk ?_; (exact (5 : Nat))) | (first | (with_reducible rfl) | exact (num_end g1 (.inl (digQ_not (.inl (of_decide_eq_false d1))))).1 | exact (num_end g1 (.inl (digQ_not (.inl (of_decide_eq_false d1))))).2 | exact (num_end g1 (.inl (digQ_not (.inr (of_decide_eq_false d2))))).1 | exact (num_end g1 (.inl (digQ_not (.inr (of_decide_eq_false d2))))).2 | (have d3 := of_decide_eq_false d3; rw [w64 (by omega) (by omega)] at d3; first | exact (num_end g1 (.inr (by omega))).1 | exact (num_end g1 (.inr (by omega))).2) | (have d1 := of_decide_eq_true d1; have d2 := of_decide_eq_true d2; first | exact num_wrap g4 g6 d1 d2 | (show IntKind.i64.wrap (q.2.2 + 1) = q.2.2 + 1; exact w64 (by omega) (by omega)) | omega) | omega)
theorem number_ptr (s : ByteArray) (a : Int) (f : Bool) (hs : s.size ≤ 1000) (h0 : 0 ≤ a) (h1 : a ≤ 1000) : PtrC Tryz.prog 97 66 ((rV s a f)) [] (.int .i64 (numV s a)) ((rV s (numE s a) (numB s a f))) := by
  have hl0 := nm_loop s a f hs h0 h1
  have rr := fun (tp : List Bool) (ms : List Prop) h hm => ptr_of_run evOk (callF_ok evOk nextOrc_ok 8) Tryz.func66 (A := []) (V := (rV s a f)) (V' := (rV s (numE s a) (numB s a f))) (el := 97) (N := Nat.max 1 Tryz.f66.ntmps) rfl (one_ann hl0) evNg (R := .int .i64 (numV s a)) (tp := tp) (ms := ms) h hm
  refine oe (numE s a == a) (fun d1 => rr [true] [numV s a = numV s a, s = s, numE s a = numE s a, true = numB s a f, Dec (numE s a == a) true, a = a, s = s, a = a, f = f] (by kernel_rfl) ⟨?_, ?_, ?_, ?_, d1, ?_, ?_, ?_, (?_ : f = f)⟩) (fun d1 => rr [false] [numV s a = numV s a, s = s, numE s a = numE s a, f = numB s a f, Dec (numE s a == a) false, a = a, s = s, a = a, f = f] (by kernel_rfl) ⟨?_, ?_, ?_, ?_, d1, ?_, ?_, ?_, (?_ : f = f)⟩)
  all_goals first | (first | (with_reducible rfl) | omega | (unfold numB; rw [d1]; rfl))
end Go.Proofs.YtgdhgnhgmbkpdaaGreatDoor.S

namespace Go.Proofs.YtgdhgnhgmbkpdaaGreatDoor.S
open Go.QfSy Go.RowKit
def skipGo (V A : List RV) : Option (RV × List RV × List Prop) := match V, A with
  | [.str s, .int .i64 a, .bool f], [.int .u8 b] => some (.tup [], rV s (skA s b a) (skB s b a f), [s.size ≤ 1000 ∧ 0 ≤ a ∧ a ≤ 1000])
  | _, _ => none
def numGo (V A : List RV) : Option (RV × List RV × List Prop) := match V, A with
  | [.str s, .int .i64 a, .bool f], [] => some (.int .i64 (numV s a), rV s (numE s a) (numB s a f), [s.size ≤ 1000 ∧ 0 ≤ a ∧ a ≤ 1000])
  | _, _ => none
theorem skipGo_ok : ∀ V A R V' ms, skipGo V A = some (R, V', ms) → (∀ p ∈ ms, p) → PtrC Tryz.prog 97 67 V A R V' := by
  intro V A R V' ms h hm
  unfold skipGo at h
  split at h
  · cases h
    obtain ⟨h1, h2, h3⟩ := all_one hm
    exact skip_ptr _ _ _ _ h1 h2 h3
  · cases h
theorem numGo_ok : ∀ V A R V' ms, numGo V A = some (R, V', ms) → (∀ p ∈ ms, p) → PtrC Tryz.prog 97 66 V A R V' := by
  intro V A R V' ms h hm
  unfold numGo at h
  split at h
  · cases h
    obtain ⟨h1, h2, h3⟩ := all_one hm
    exact number_ptr _ _ _ h1 h2 h3
  · cases h
noncomputable def rdOrc : CallF := orcP 97 66 numGo (orcP 97 67 skipGo nextOrc)
theorem rdOrc_ok : CallOk Tryz.prog EV.ng rdOrc := orcP_ok numGo_ok (orcP_ok skipGo_ok nextOrc_ok)
theorem inR_sk {s : ByteArray} {b x : Int} (hb : b ≠ 0) (h : 0 ≤ x ∧ x ≤ (s.size : Int)) : 0 ≤ skA s b x ∧ skA s b x ≤ (s.size : Int) := by
  obtain ⟨h1, _, h3⟩ := skA_bounds (s := s) (b := b) (a := x) hb
  exact ⟨by omega, h3 h.2⟩
theorem inR_num {s : ByteArray} {x : Int} (h : 0 ≤ x ∧ x ≤ (s.size : Int)) : 0 ≤ numE s x ∧ numE s x ≤ (s.size : Int) := by
  obtain ⟨h1, h3⟩ := numE_bounds s x
  exact ⟨by omega, h3 h.2⟩
theorem rng_of {s : ByteArray} {x : Int} (hs : s.size ≤ 900) (h : 0 ≤ x ∧ x ≤ (s.size : Int)) : s.size ≤ 1000 ∧ 0 ≤ x ∧ x ≤ 1000 := ⟨by omega, h.1, by omega⟩
theorem rng2_of {s : ByteArray} {x : Int} (hs : s.size ≤ 900) (h : 0 ≤ x ∧ x ≤ (s.size : Int)) : s.size ≤ 1000 ∧ 0 ≤ x := ⟨by omega, h.1⟩
attribute [local irreducible] nxV skA skB numV numE numB
theorem con_ptr (s : ByteArray) (a : Int) (f : Bool) (p : Int) (hs : s.size ≤ 900) (h0 : 0 ≤ a) (h1 : a ≤ s.size) : PtrC Tryz.prog 97 68 ((rV s a f)) [.int .i64 p] (.agg (rdC s p (a, f)).rvs) ((rV s (rdE s p (a, f)).1 (rdE s p (a, f)).2)) := by
  have rr := fun (tp : List Bool) (ms : List Prop) h hm => ptr_of_run evOk (callF_ok evOk rdOrc_ok 8) Tryz.func68 (A := [.int .i64 p]) (V := (rV s a f)) (V' := (rV s (rdE s p (a, f)).1 (rdE s p (a, f)).2)) (el := 97) (N := Nat.max 2 Tryz.f68.ntmps) rfl none_ann evNg (R := .agg (rdC s p (a, f)).rvs) (tp := tp) (ms := ms) h hm
  refine oe (nxV s (skA s (94 : Int) (numE s (skA s (32 : Int) a))) == 45) (fun d1 => oe (p == 2) (fun d2 => oe (nxV s (skA s (95 : Int) (numE s (skA s (45 : Int) (skA s (94 : Int) (numE s (skA s (32 : Int) a)))))) == 73) (fun d3 => rr [true, false, true] [numV s (skA s (32 : Int) a) = (rdC s p (a, f)).exp, numV s (skA s (45 : Int) (skA s (94 : Int) (numE s (skA s (32 : Int) a)))) = (rdC s p (a, f)).dim, (-1 : Int) = (rdC s p (a, f)).sign, false = (rdC s p (a, f)).odd, (0 : Int) = (rdC s p (a, f)).oddity, s = s, skA s (73 : Int) (skA s (73 : Int) (skA s (95 : Int) (numE s (skA s (45 : Int) (skA s (94 : Int) (numE s (skA s (32 : Int) a))))))) = (rdE s p (a, f)).fst, skB s (73 : Int) (skA s (73 : Int) (skA s (95 : Int) (numE s (skA s (45 : Int) (skA s (94 : Int) (numE s (skA s (32 : Int) a))))))) (skB s (73 : Int) (skA s (95 : Int) (numE s (skA s (45 : Int) (skA s (94 : Int) (numE s (skA s (32 : Int) a)))))) (skB s (95 : Int) (numE s (skA s (45 : Int) (skA s (94 : Int) (numE s (skA s (32 : Int) a))))) (numB s (skA s (45 : Int) (skA s (94 : Int) (numE s (skA s (32 : Int) a)))) (skB s (45 : Int) (skA s (94 : Int) (numE s (skA s (32 : Int) a))) (skB s (94 : Int) (numE s (skA s (32 : Int) a)) (numB s (skA s (32 : Int) a) (skB s (32 : Int) a f))))))) = (rdE s p (a, f)).snd, s.size ≤ (1000 : Nat) ∧ (0 : Int) ≤ skA s (73 : Int) (skA s (95 : Int) (numE s (skA s (45 : Int) (skA s (94 : Int) (numE s (skA s (32 : Int) a)))))) ∧ skA s (73 : Int) (skA s (95 : Int) (numE s (skA s (45 : Int) (skA s (94 : Int) (numE s (skA s (32 : Int) a)))))) ≤ 1000, s.size ≤ (1000 : Nat) ∧ (0 : Int) ≤ skA s (95 : Int) (numE s (skA s (45 : Int) (skA s (94 : Int) (numE s (skA s (32 : Int) a))))) ∧ skA s (95 : Int) (numE s (skA s (45 : Int) (skA s (94 : Int) (numE s (skA s (32 : Int) a))))) ≤ 1000, Dec (nxV s (skA s (95 : Int) (numE s (skA s (45 : Int) (skA s (94 : Int) (numE s (skA s (32 : Int) a)))))) == 73) true, s.size ≤ (1000 : Nat) ∧ (0 : Int) ≤ skA s (95 : Int) (numE s (skA s (45 : Int) (skA s (94 : Int) (numE s (skA s (32 : Int) a))))), s.size ≤ (1000 : Nat) ∧ (0 : Int) ≤ numE s (skA s (45 : Int) (skA s (94 : Int) (numE s (skA s (32 : Int) a)))) ∧ numE s (skA s (45 : Int) (skA s (94 : Int) (numE s (skA s (32 : Int) a)))) ≤ 1000, Dec (p != (2 : Int)) false, s.size ≤ (1000 : Nat) ∧ (0 : Int) ≤ skA s (45 : Int) (skA s (94 : Int) (numE s (skA s (32 : Int) a))) ∧ skA s (45 : Int) (skA s (94 : Int) (numE s (skA s (32 : Int) a))) ≤ 1000, s.size ≤ (1000 : Nat) ∧ (0 : Int) ≤ skA s (94 : Int) (numE s (skA s (32 : Int) a)) ∧ skA s (94 : Int) (numE s (skA s (32 : Int) a)) ≤ 1000, Dec (nxV s (skA s (94 : Int) (numE s (skA s (32 : Int) a))) == 45) true, s.size ≤ (1000 : Nat) ∧ (0 : Int) ≤ skA s (94 : Int) (numE s (skA s (32 : Int) a)), s.size ≤ (1000 : Nat) ∧ (0 : Int) ≤ numE s (skA s (32 : Int) a) ∧ numE s (skA s (32 : Int) a) ≤ 1000, s.size ≤ (1000 : Nat) ∧ (0 : Int) ≤ skA s (32 : Int) a ∧ skA s (32 : Int) a ≤ 1000, s.size ≤ (1000 : Nat) ∧ (0 : Int) ≤ a ∧ a ≤ 1000] (by kernel_rfl) ⟨?_, ?_, ?_, ?_, ?_, ?_, ?_, ?_, ?_, ?_, d3, ?_, ?_, (dN d2), ?_, ?_, d1, ?_, ?_, ?_, (?_ : s.size ≤ (1000 : Nat) ∧ (0 : Int) ≤ a ∧ a ≤ 1000)⟩) (fun d3 => rr [true, false, false] [numV s (skA s (32 : Int) a) = (rdC s p (a, f)).exp, numV s (skA s (45 : Int) (skA s (94 : Int) (numE s (skA s (32 : Int) a)))) = (rdC s p (a, f)).dim, (-1 : Int) = (rdC s p (a, f)).sign, true = (rdC s p (a, f)).odd, numV s (skA s (95 : Int) (numE s (skA s (45 : Int) (skA s (94 : Int) (numE s (skA s (32 : Int) a)))))) = (rdC s p (a, f)).oddity, s = s, numE s (skA s (95 : Int) (numE s (skA s (45 : Int) (skA s (94 : Int) (numE s (skA s (32 : Int) a)))))) = (rdE s p (a, f)).fst, numB s (skA s (95 : Int) (numE s (skA s (45 : Int) (skA s (94 : Int) (numE s (skA s (32 : Int) a)))))) (skB s (95 : Int) (numE s (skA s (45 : Int) (skA s (94 : Int) (numE s (skA s (32 : Int) a))))) (numB s (skA s (45 : Int) (skA s (94 : Int) (numE s (skA s (32 : Int) a)))) (skB s (45 : Int) (skA s (94 : Int) (numE s (skA s (32 : Int) a))) (skB s (94 : Int) (numE s (skA s (32 : Int) a)) (numB s (skA s (32 : Int) a) (skB s (32 : Int) a f)))))) = (rdE s p (a, f)).snd, s.size ≤ (1000 : Nat) ∧ (0 : Int) ≤ skA s (95 : Int) (numE s (skA s (45 : Int) (skA s (94 : Int) (numE s (skA s (32 : Int) a))))) ∧ skA s (95 : Int) (numE s (skA s (45 : Int) (skA s (94 : Int) (numE s (skA s (32 : Int) a))))) ≤ 1000, Dec (nxV s (skA s (95 : Int) (numE s (skA s (45 : Int) (skA s (94 : Int) (numE s (skA s (32 : Int) a)))))) == 73) false, s.size ≤ (1000 : Nat) ∧ (0 : Int) ≤ skA s (95 : Int) (numE s (skA s (45 : Int) (skA s (94 : Int) (numE s (skA s (32 : Int) a))))), s.size ≤ (1000 : Nat) ∧ (0 : Int) ≤ numE s (skA s (45 : Int) (skA s (94 : Int) (numE s (skA s (32 : Int) a)))) ∧ numE s (skA s (45 : Int) (skA s (94 : Int) (numE s (skA s (32 : Int) a)))) ≤ 1000, Dec (p != (2 : Int)) false, s.size ≤ (1000 : Nat) ∧ (0 : Int) ≤ skA s (45 : Int) (skA s (94 : Int) (numE s (skA s (32 : Int) a))) ∧ skA s (45 : Int) (skA s (94 : Int) (numE s (skA s (32 : Int) a))) ≤ 1000, s.size ≤ (1000 : Nat) ∧ (0 : Int) ≤ skA s (94 : Int) (numE s (skA s (32 : Int) a)) ∧ skA s (94 : Int) (numE s (skA s (32 : Int) a)) ≤ 1000, Dec (nxV s (skA s (94 : Int) (numE s (skA s (32 : Int) a))) == 45) true, s.size ≤ (1000 : Nat) ∧ (0 : Int) ≤ skA s (94 : Int) (numE s (skA s (32 : Int) a)), s.size ≤ (1000 : Nat) ∧ (0 : Int) ≤ numE s (skA s (32 : Int) a) ∧ numE s (skA s (32 : Int) a) ≤ 1000, s.size ≤ (1000 : Nat) ∧ (0 : Int) ≤ skA s (32 : Int) a ∧ skA s (32 : Int) a ≤ 1000, s.size ≤ (1000 : Nat) ∧ (0 : Int) ≤ a ∧ a ≤ 1000] (by kernel_rfl) ⟨?_, ?_, ?_, ?_, ?_, ?_, ?_, ?_, ?_, d3, ?_, ?_, (dN d2), ?_, ?_, d1, ?_, ?_, ?_, (?_ : s.size ≤ (1000 : Nat) ∧ (0 : Int) ≤ a ∧ a ≤ 1000)⟩)) (fun d2 => rr [true, true] [numV s (skA s (32 : Int) a) = (rdC s p (a, f)).exp, numV s (skA s (45 : Int) (skA s (94 : Int) (numE s (skA s (32 : Int) a)))) = (rdC s p (a, f)).dim, (-1 : Int) = (rdC s p (a, f)).sign, false = (rdC s p (a, f)).odd, (0 : Int) = (rdC s p (a, f)).oddity, s = s, numE s (skA s (45 : Int) (skA s (94 : Int) (numE s (skA s (32 : Int) a)))) = (rdE s p (a, f)).fst, numB s (skA s (45 : Int) (skA s (94 : Int) (numE s (skA s (32 : Int) a)))) (skB s (45 : Int) (skA s (94 : Int) (numE s (skA s (32 : Int) a))) (skB s (94 : Int) (numE s (skA s (32 : Int) a)) (numB s (skA s (32 : Int) a) (skB s (32 : Int) a f)))) = (rdE s p (a, f)).snd, Dec (p != (2 : Int)) true, s.size ≤ (1000 : Nat) ∧ (0 : Int) ≤ skA s (45 : Int) (skA s (94 : Int) (numE s (skA s (32 : Int) a))) ∧ skA s (45 : Int) (skA s (94 : Int) (numE s (skA s (32 : Int) a))) ≤ 1000, s.size ≤ (1000 : Nat) ∧ (0 : Int) ≤ skA s (94 : Int) (numE s (skA s (32 : Int) a)) ∧ skA s (94 : Int) (numE s (skA s (32 : Int) a)) ≤ 1000, Dec (nxV s (skA s (94 : Int) (numE s (skA s (32 : Int) a))) == 45) true, s.size ≤ (1000 : Nat) ∧ (0 : Int) ≤ skA s (94 : Int) (numE s (skA s (32 : Int) a)), s.size ≤ (1000 : Nat) ∧ (0 : Int) ≤ numE s (skA s (32 : Int) a) ∧ numE s (skA s (32 : Int) a) ≤ 1000, s.size ≤ (1000 : Nat) ∧ (0 : Int) ≤ skA s (32 : Int) a ∧ skA s (32 : Int) a ≤ 1000, s.size ≤ (1000 : Nat) ∧ (0 : Int) ≤ a ∧ a ≤ 1000] (by kernel_rfl) ⟨?_, ?_, ?_, ?_, ?_, ?_, ?_, ?_, (dN d2), ?_, ?_, d1, ?_, ?_, ?_, (?_ : s.size ≤ (1000 : Nat) ∧ (0 : Int) ≤ a ∧ a ≤ 1000)⟩)) (fun d1 => oe (p == 2) (fun d2 => oe (nxV s (skA s (95 : Int) (numE s (skA s (43 : Int) (skA s (94 : Int) (numE s (skA s (32 : Int) a)))))) == 73) (fun d3 => rr [false, false, true] [numV s (skA s (32 : Int) a) = (rdC s p (a, f)).exp, numV s (skA s (43 : Int) (skA s (94 : Int) (numE s (skA s (32 : Int) a)))) = (rdC s p (a, f)).dim, (1 : Int) = (rdC s p (a, f)).sign, false = (rdC s p (a, f)).odd, (0 : Int) = (rdC s p (a, f)).oddity, s = s, skA s (73 : Int) (skA s (73 : Int) (skA s (95 : Int) (numE s (skA s (43 : Int) (skA s (94 : Int) (numE s (skA s (32 : Int) a))))))) = (rdE s p (a, f)).fst, skB s (73 : Int) (skA s (73 : Int) (skA s (95 : Int) (numE s (skA s (43 : Int) (skA s (94 : Int) (numE s (skA s (32 : Int) a))))))) (skB s (73 : Int) (skA s (95 : Int) (numE s (skA s (43 : Int) (skA s (94 : Int) (numE s (skA s (32 : Int) a)))))) (skB s (95 : Int) (numE s (skA s (43 : Int) (skA s (94 : Int) (numE s (skA s (32 : Int) a))))) (numB s (skA s (43 : Int) (skA s (94 : Int) (numE s (skA s (32 : Int) a)))) (skB s (43 : Int) (skA s (94 : Int) (numE s (skA s (32 : Int) a))) (skB s (94 : Int) (numE s (skA s (32 : Int) a)) (numB s (skA s (32 : Int) a) (skB s (32 : Int) a f))))))) = (rdE s p (a, f)).snd, s.size ≤ (1000 : Nat) ∧ (0 : Int) ≤ skA s (73 : Int) (skA s (95 : Int) (numE s (skA s (43 : Int) (skA s (94 : Int) (numE s (skA s (32 : Int) a)))))) ∧ skA s (73 : Int) (skA s (95 : Int) (numE s (skA s (43 : Int) (skA s (94 : Int) (numE s (skA s (32 : Int) a)))))) ≤ 1000, s.size ≤ (1000 : Nat) ∧ (0 : Int) ≤ skA s (95 : Int) (numE s (skA s (43 : Int) (skA s (94 : Int) (numE s (skA s (32 : Int) a))))) ∧ skA s (95 : Int) (numE s (skA s (43 : Int) (skA s (94 : Int) (numE s (skA s (32 : Int) a))))) ≤ 1000, Dec (nxV s (skA s (95 : Int) (numE s (skA s (43 : Int) (skA s (94 : Int) (numE s (skA s (32 : Int) a)))))) == 73) true, s.size ≤ (1000 : Nat) ∧ (0 : Int) ≤ skA s (95 : Int) (numE s (skA s (43 : Int) (skA s (94 : Int) (numE s (skA s (32 : Int) a))))), s.size ≤ (1000 : Nat) ∧ (0 : Int) ≤ numE s (skA s (43 : Int) (skA s (94 : Int) (numE s (skA s (32 : Int) a)))) ∧ numE s (skA s (43 : Int) (skA s (94 : Int) (numE s (skA s (32 : Int) a)))) ≤ 1000, Dec (p != (2 : Int)) false, s.size ≤ (1000 : Nat) ∧ (0 : Int) ≤ skA s (43 : Int) (skA s (94 : Int) (numE s (skA s (32 : Int) a))) ∧ skA s (43 : Int) (skA s (94 : Int) (numE s (skA s (32 : Int) a))) ≤ 1000, s.size ≤ (1000 : Nat) ∧ (0 : Int) ≤ skA s (94 : Int) (numE s (skA s (32 : Int) a)) ∧ skA s (94 : Int) (numE s (skA s (32 : Int) a)) ≤ 1000, Dec (nxV s (skA s (94 : Int) (numE s (skA s (32 : Int) a))) == 45) false, s.size ≤ (1000 : Nat) ∧ (0 : Int) ≤ skA s (94 : Int) (numE s (skA s (32 : Int) a)), s.size ≤ (1000 : Nat) ∧ (0 : Int) ≤ numE s (skA s (32 : Int) a) ∧ numE s (skA s (32 : Int) a) ≤ 1000, s.size ≤ (1000 : Nat) ∧ (0 : Int) ≤ skA s (32 : Int) a ∧ skA s (32 : Int) a ≤ 1000, s.size ≤ (1000 : Nat) ∧ (0 : Int) ≤ a ∧ a ≤ 1000] (by kernel_rfl) ⟨?_, ?_, ?_, ?_, ?_, ?_, ?_, ?_, ?_, ?_, d3, ?_, ?_, (dN d2), ?_, ?_, d1, ?_, ?_, ?_, (?_ : s.size ≤ (1000 : Nat) ∧ (0 : Int) ≤ a ∧ a ≤ 1000)⟩) (fun d3 => rr [false, false, false] [numV s (skA s (32 : Int) a) = (rdC s p (a, f)).exp, numV s (skA s (43 : Int) (skA s (94 : Int) (numE s (skA s (32 : Int) a)))) = (rdC s p (a, f)).dim, (1 : Int) = (rdC s p (a, f)).sign, true = (rdC s p (a, f)).odd, numV s (skA s (95 : Int) (numE s (skA s (43 : Int) (skA s (94 : Int) (numE s (skA s (32 : Int) a)))))) = (rdC s p (a, f)).oddity, s = s, numE s (skA s (95 : Int) (numE s (skA s (43 : Int) (skA s (94 : Int) (numE s (skA s (32 : Int) a)))))) = (rdE s p (a, f)).fst, numB s (skA s (95 : Int) (numE s (skA s (43 : Int) (skA s (94 : Int) (numE s (skA s (32 : Int) a)))))) (skB s (95 : Int) (numE s (skA s (43 : Int) (skA s (94 : Int) (numE s (skA s (32 : Int) a))))) (numB s (skA s (43 : Int) (skA s (94 : Int) (numE s (skA s (32 : Int) a)))) (skB s (43 : Int) (skA s (94 : Int) (numE s (skA s (32 : Int) a))) (skB s (94 : Int) (numE s (skA s (32 : Int) a)) (numB s (skA s (32 : Int) a) (skB s (32 : Int) a f)))))) = (rdE s p (a, f)).snd, s.size ≤ (1000 : Nat) ∧ (0 : Int) ≤ skA s (95 : Int) (numE s (skA s (43 : Int) (skA s (94 : Int) (numE s (skA s (32 : Int) a))))) ∧ skA s (95 : Int) (numE s (skA s (43 : Int) (skA s (94 : Int) (numE s (skA s (32 : Int) a))))) ≤ 1000, Dec (nxV s (skA s (95 : Int) (numE s (skA s (43 : Int) (skA s (94 : Int) (numE s (skA s (32 : Int) a)))))) == 73) false, s.size ≤ (1000 : Nat) ∧ (0 : Int) ≤ skA s (95 : Int) (numE s (skA s (43 : Int) (skA s (94 : Int) (numE s (skA s (32 : Int) a))))), s.size ≤ (1000 : Nat) ∧ (0 : Int) ≤ numE s (skA s (43 : Int) (skA s (94 : Int) (numE s (skA s (32 : Int) a)))) ∧ numE s (skA s (43 : Int) (skA s (94 : Int) (numE s (skA s (32 : Int) a)))) ≤ 1000, Dec (p != (2 : Int)) false, s.size ≤ (1000 : Nat) ∧ (0 : Int) ≤ skA s (43 : Int) (skA s (94 : Int) (numE s (skA s (32 : Int) a))) ∧ skA s (43 : Int) (skA s (94 : Int) (numE s (skA s (32 : Int) a))) ≤ 1000, s.size ≤ (1000 : Nat) ∧ (0 : Int) ≤ skA s (94 : Int) (numE s (skA s (32 : Int) a)) ∧ skA s (94 : Int) (numE s (skA s (32 : Int) a)) ≤ 1000, Dec (nxV s (skA s (94 : Int) (numE s (skA s (32 : Int) a))) == 45) false, s.size ≤ (1000 : Nat) ∧ (0 : Int) ≤ skA s (94 : Int) (numE s (skA s (32 : Int) a)), s.size ≤ (1000 : Nat) ∧ (0 : Int) ≤ numE s (skA s (32 : Int) a) ∧ numE s (skA s (32 : Int) a) ≤ 1000, s.size ≤ (1000 : Nat) ∧ (0 : Int) ≤ skA s (32 : Int) a ∧ skA s (32 : Int) a ≤ 1000, s.size ≤ (1000 : Nat) ∧ (0 : Int) ≤ a ∧ a ≤ 1000] (by kernel_rfl) ⟨?_, ?_, ?_, ?_, ?_, ?_, ?_, ?_, ?_, d3, ?_, ?_, (dN d2), ?_, ?_, d1, ?_, ?_, ?_, (?_ : s.size ≤ (1000 : Nat) ∧ (0 : Int) ≤ a ∧ a ≤ 1000)⟩)) (fun d2 => rr [false, true] [numV s (skA s (32 : Int) a) = (rdC s p (a, f)).exp, numV s (skA s (43 : Int) (skA s (94 : Int) (numE s (skA s (32 : Int) a)))) = (rdC s p (a, f)).dim, (1 : Int) = (rdC s p (a, f)).sign, false = (rdC s p (a, f)).odd, (0 : Int) = (rdC s p (a, f)).oddity, s = s, numE s (skA s (43 : Int) (skA s (94 : Int) (numE s (skA s (32 : Int) a)))) = (rdE s p (a, f)).fst, numB s (skA s (43 : Int) (skA s (94 : Int) (numE s (skA s (32 : Int) a)))) (skB s (43 : Int) (skA s (94 : Int) (numE s (skA s (32 : Int) a))) (skB s (94 : Int) (numE s (skA s (32 : Int) a)) (numB s (skA s (32 : Int) a) (skB s (32 : Int) a f)))) = (rdE s p (a, f)).snd, Dec (p != (2 : Int)) true, s.size ≤ (1000 : Nat) ∧ (0 : Int) ≤ skA s (43 : Int) (skA s (94 : Int) (numE s (skA s (32 : Int) a))) ∧ skA s (43 : Int) (skA s (94 : Int) (numE s (skA s (32 : Int) a))) ≤ 1000, s.size ≤ (1000 : Nat) ∧ (0 : Int) ≤ skA s (94 : Int) (numE s (skA s (32 : Int) a)) ∧ skA s (94 : Int) (numE s (skA s (32 : Int) a)) ≤ 1000, Dec (nxV s (skA s (94 : Int) (numE s (skA s (32 : Int) a))) == 45) false, s.size ≤ (1000 : Nat) ∧ (0 : Int) ≤ skA s (94 : Int) (numE s (skA s (32 : Int) a)), s.size ≤ (1000 : Nat) ∧ (0 : Int) ≤ numE s (skA s (32 : Int) a) ∧ numE s (skA s (32 : Int) a) ≤ 1000, s.size ≤ (1000 : Nat) ∧ (0 : Int) ≤ skA s (32 : Int) a ∧ skA s (32 : Int) a ≤ 1000, s.size ≤ (1000 : Nat) ∧ (0 : Int) ≤ a ∧ a ≤ 1000] (by kernel_rfl) ⟨?_, ?_, ?_, ?_, ?_, ?_, ?_, ?_, (dN d2), ?_, ?_, d1, ?_, ?_, ?_, (?_ : s.size ≤ (1000 : Nat) ∧ (0 : Int) ≤ a ∧ a ≤ 1000)⟩))
  all_goals first | (first | (with_reducible rfl) | (refine rng_of hs ?_; repeat (first | exact ⟨h0, h1⟩ | refine inR_sk (by decide) ?_ | refine inR_num ?_)) | (refine rng2_of hs ?_; repeat (first | exact ⟨h0, h1⟩ | refine inR_sk (by decide) ?_ | refine inR_num ?_)) | (simp only [rdC, rdE, sgN, evQ, t4, t3, t2, t1, t0, sgT, numS, skp, d1, d2, cond_true, cond_false, Bool.true_and, Bool.false_and, Bool.not_true, Bool.not_false]; done) | (simp only [rdC, rdE, sgN, evQ, t4, t3, t2, t1, t0, sgT, numS, skp, d1, d2, d3, cond_true, cond_false, Bool.true_and, Bool.false_and, Bool.not_true, Bool.not_false]; done))
end Go.Proofs.YtgdhgnhgmbkpdaaGreatDoor.S

namespace Go.Proofs.YtgdhgnhgmbkpdaaGreatDoor.S
open Go.QfSy Go.RowKit
noncomputable def conGo (V A : List RV) : Option (RV × List RV × List Prop) := match V, A with
  | [.str s, .int .i64 a, .bool f], [.int .i64 p] => some (.agg (rdC s p (a, f)).rvs, rV s (rdE s p (a, f)).1 (rdE s p (a, f)).2, [s.size ≤ 900 ∧ 0 ≤ a ∧ a ≤ s.size])
  | _, _ => none
theorem conGo_ok : ∀ V A R V' ms, conGo V A = some (R, V', ms) → (∀ p ∈ ms, p) → PtrC Tryz.prog 97 68 V A R V' := by
  intro V A R V' ms h hm
  unfold conGo at h
  split at h
  · cases h
    obtain ⟨h1, h2, h3⟩ := all_one hm
    exact con_ptr _ _ _ _ h1 h2 h3
  · cases h
noncomputable def rdOrc2 : CallF := orcP 97 68 conGo rdOrc
theorem rdOrc2_ok : CallOk Tryz.prog EV.ng rdOrc2 := orcP_ok conGo_ok rdOrc_ok
attribute [local irreducible] nxV skA skB numV numE numB rdE
noncomputable def rdSl (s : ByteArray) : List (Nat × AV) := [(0, .vstr s), (2, .ptr 1000 0), (3, .bool false), (4, .ptr 1001 0), (5, .ptr 1002 0)]
noncomputable def rdH (s : ByteArray) (p a : Int) (f : Bool) (v : AV) : List (Nat × Blk) := [(1000, ⟨.plain [.int .i64 0, .nils], 24, 0, false, true⟩), (1001, ⟨.plain [.vstr s, .vint .i64 a, .vbool f], 97, 0, false, true⟩), (1002, ⟨.plain [.vint .i64 p, v], 24, 0, false, true⟩)]
noncomputable def rdAnn (s : ByteArray) (p a : Int) (f : Bool) : Ann := ⟨⟨rdSl s, rdH s p a f .nils, 1100⟩, some (rdFin s p (a, f)).1.isEmpty, fun d => match d with
  | true => (.exit 0, ⟨rdSl s, rdH s p (rdFin s p (a, f)).2.1 (rdFin s p (a, f)).2.2 .nils, 1161⟩)
  | false => (.exit 0, ⟨rdSl s, rdH s p (rdFin s p (a, f)).2.1 (rdFin s p (a, f)).2.2 (.lo 1160 (rdFin s p (a, f)).1.length) ++ [(1160, ⟨.con (rdFin s p (a, f)).1, 59, 5, true, true⟩)], 1161⟩)⟩
noncomputable def rdS (s : ByteArray) (p : Int) : Nat × Int × Bool × Option (List Con) → St
  | (_, a, f, none) => ⟨rdSl s, rdH s p a f .nils, 1161⟩
  | (_, a, f, some L) => ⟨rdSl s, rdH s p a f (.lo 1160 L.length) ++ [(1160, ⟨.con L, 59, 5, true, true⟩)], 1161⟩
theorem rd_loop (s : ByteArray) (p a0 : Int) (f0 : Bool) (hs : s.size ≤ 900) (h0 : 0 ≤ a0) (h1 : a0 ≤ s.size) : AnnOk Tryz.prog EV.ng (Nat.max 1 Tryz.f41.ntmps) (bodyAt Tryz.f41 [0, 0, 1, 1, 1, 1]) (rdAnn s p a0 f0) := by
  refine ann_of evOk (callF_ok evOk rdOrc2_ok 8) none_ann (by kernel_rfl) (by kernel_rfl) (rdS s p) (fun i => i.1) (fun d i => RdI s p (a0, f0) i.1 i.2.1 i.2.2.1 (i.2.2.2.getD []) ∧ (i.2.2.2 ≠ some []) ∧ d = (rdFin s p (a0, f0)).1.isEmpty) ?_ ?_
  · intro d hd
    exact ⟨(s.size + 2, a0, f0, none), [s = s, s = s, a0 = a0, f0 = f0, p = p], by kernel_rfl, (by refine ⟨?_, ?_, ?_, ?_, (?_ : p = p)⟩ <;> (first | rfl | assumption | omega | simp_all)), (by exact ⟨RdI.start h0 h1, (by intro e; cases e), hd.symm⟩)⟩
  · rintro d hd ⟨k, a, f, o⟩ hI
    cases d
    · -- d = false
      obtain ⟨hI, hO, hD⟩ := hI
      rcases o with _ | L
      · -- 1
        refine oe (f) (fun d1 => CtG.no ?_) (fun d1 => oe (decide (a < ↑s.size)) (fun d2 => ⟨[true, true], .inl ⟨(k - 1, (rdE s p (a, f)).1, (rdE s p (a, f)).2, some [rdC s p (a, f)]), [s = s, s = s, (rdE s p (a, f)).fst = (rdE s p (a, f)).fst, (rdE s p (a, f)).snd = (rdE s p (a, f)).snd, p = p, (1 : Nat) = [rdC s p (a, f)].length, [rdC s p (a, f)] = [Con.mk (numV s (t0 s (a, f)).fst) (numV s (t2 s (a, f)).fst) (sgN s (t1 s (a, f))) (p == 2 && !evQ s (a, f)) (bif p == 2 && !evQ s (a, f) then numV s (t4 s (a, f)).fst else (0 : Int))], (0 : Nat) < (1 : Nat) ∧ (1 : Nat) ≤ (1000000 : Nat), s.size ≤ (900 : Nat) ∧ (0 : Int) ≤ a ∧ a ≤ ↑s.size, Dec (decide (a < ↑s.size)) true, Dec (!f) true], by kernel_rfl, ⟨?_, ?_, ?_, ?_, ?_, ?_, ?_, ?_, ?_, d2, (dN d1)⟩, MuG.out ?_, InG.out ?_⟩⟩) (fun d2 => CtG.no ?_))
        all_goals first | (refine MuG.mk ?_; (have q := (hI.step d1 (of_decide_eq_true d2)).2; show k - 1 < k; exact Nat.sub_lt q Nat.one_pos)) | (refine InG.mk ?_; (exact ⟨(hI.step d1 (of_decide_eq_true d2)).1, (by intro e; simp at e), hD⟩)) | (refine CtG.mk ?_; (first | (rw [(hI.done (.inl d1)).1] at hD; cases hD; done) | (rw [(hI.done (.inr (of_decide_eq_false d2))).1] at hD; cases hD; done) | (rw [(hI.done (.inl d1)).1] at hD; have e := List.isEmpty_iff.1 hD.symm; exact absurd (congrArg some e) hO) | (rw [(hI.done (.inr (of_decide_eq_false d2))).1] at hD; have e := List.isEmpty_iff.1 hD.symm; exact absurd (congrArg some e) hO))) | (first | (with_reducible rfl) | exact rfl | exact (hI.done (.inl d1)).2.1.symm | exact (hI.done (.inl d1)).2.2.symm | exact (hI.done (.inl d1)).1.symm | (rw [(hI.done (.inl d1)).1]; rfl) | exact (hI.done (.inr (of_decide_eq_false d2))).2.1.symm | exact (hI.done (.inr (of_decide_eq_false d2))).2.2.symm | exact (hI.done (.inr (of_decide_eq_false d2))).1.symm | (rw [(hI.done (.inr (of_decide_eq_false d2))).1]; rfl) | exact ⟨hs, hI.lo, hI.hi⟩ | exact ⟨by decide, by decide⟩ | (have q1 : (L.length : Int) ≤ a + 1 := hI.len; have q2 : a ≤ (s.size : Int) := hI.hi; exact ⟨rfl, by omega⟩) | (simp; done))
      · -- 2
        refine oe (f) (fun d1 => ⟨[false], .inr ⟨[s = s, s = s, a = (rdFin s p (a0, f0)).snd.fst, f = (rdFin s p (a0, f0)).snd.snd, p = p, L.length = (rdFin s p (a0, f0)).fst.length, L = (rdFin s p (a0, f0)).fst, Dec (!f) false], by kernel_rfl, ⟨?_, ?_, ?_, ?_, ?_, ?_, ?_, (dN d1)⟩, rfl⟩⟩) (fun d1 => oe (decide (a < ↑s.size)) (fun d2 => ⟨[true, true], .inl ⟨(k - 1, (rdE s p (a, f)).1, (rdE s p (a, f)).2, some (L ++ [rdC s p (a, f)])), [s = s, s = s, (rdE s p (a, f)).fst = (rdE s p (a, f)).fst, (rdE s p (a, f)).snd = (rdE s p (a, f)).snd, p = p, L.length + (1 : Nat) = (L ++ [rdC s p (a, f)]).length, L ++ [rdC s p (a, f)] = L ++ [Con.mk (numV s (t0 s (a, f)).fst) (numV s (t2 s (a, f)).fst) (sgN s (t1 s (a, f))) (p == 2 && !evQ s (a, f)) (bif p == 2 && !evQ s (a, f) then numV s (t4 s (a, f)).fst else (0 : Int))], (View.con L).num = L.length ∧ L.length + (1 : Nat) ≤ (1000000 : Nat), L.length = L.length, s.size ≤ (900 : Nat) ∧ (0 : Int) ≤ a ∧ a ≤ ↑s.size, Dec (decide (a < ↑s.size)) true, Dec (!f) true], by kernel_rfl, ⟨?_, ?_, ?_, ?_, ?_, ?_, ?_, ?_, ?_, ?_, d2, (dN d1)⟩, MuG.out ?_, InG.out ?_⟩⟩) (fun d2 => ⟨[true, false], .inr ⟨[s = s, s = s, a = (rdFin s p (a0, f0)).snd.fst, f = (rdFin s p (a0, f0)).snd.snd, p = p, L.length = (rdFin s p (a0, f0)).fst.length, L = (rdFin s p (a0, f0)).fst, Dec (decide (a < ↑s.size)) false, Dec (!f) true], by kernel_rfl, ⟨?_, ?_, ?_, ?_, ?_, ?_, ?_, d2, (dN d1)⟩, rfl⟩⟩))
        all_goals first | (refine MuG.mk ?_; (have q := (hI.step d1 (of_decide_eq_true d2)).2; show k - 1 < k; exact Nat.sub_lt q Nat.one_pos)) | (refine InG.mk ?_; (exact ⟨(hI.step d1 (of_decide_eq_true d2)).1, (by intro e; simp at e), hD⟩)) | (refine CtG.mk ?_; (first | (rw [(hI.done (.inl d1)).1] at hD; cases hD; done) | (rw [(hI.done (.inr (of_decide_eq_false d2))).1] at hD; cases hD; done) | (rw [(hI.done (.inl d1)).1] at hD; have e := List.isEmpty_iff.1 hD.symm; exact absurd (congrArg some e) hO) | (rw [(hI.done (.inr (of_decide_eq_false d2))).1] at hD; have e := List.isEmpty_iff.1 hD.symm; exact absurd (congrArg some e) hO))) | (first | (with_reducible rfl) | exact rfl | exact (hI.done (.inl d1)).2.1.symm | exact (hI.done (.inl d1)).2.2.symm | exact (hI.done (.inl d1)).1.symm | (rw [(hI.done (.inl d1)).1]; rfl) | exact (hI.done (.inr (of_decide_eq_false d2))).2.1.symm | exact (hI.done (.inr (of_decide_eq_false d2))).2.2.symm | exact (hI.done (.inr (of_decide_eq_false d2))).1.symm | (rw [(hI.done (.inr (of_decide_eq_false d2))).1]; rfl) | exact ⟨hs, hI.lo, hI.hi⟩ | exact ⟨by decide, by decide⟩ | (have q1 : (L.length : Int) ≤ a + 1 := hI.len; have q2 : a ≤ (s.size : Int) := hI.hi; exact ⟨rfl, by omega⟩) | (simp; done))
    · -- d = true
      obtain ⟨hI, hO, hD⟩ := hI
      rcases o with _ | L
      · -- 1
        refine oe (f) (fun d1 => ⟨[false], .inr ⟨[s = s, s = s, a = (rdFin s p (a0, f0)).snd.fst, f = (rdFin s p (a0, f0)).snd.snd, p = p, Dec (!f) false], by kernel_rfl, ⟨?_, ?_, ?_, ?_, ?_, (dN d1)⟩, rfl⟩⟩) (fun d1 => oe (decide (a < ↑s.size)) (fun d2 => ⟨[true, true], .inl ⟨(k - 1, (rdE s p (a, f)).1, (rdE s p (a, f)).2, some [rdC s p (a, f)]), [s = s, s = s, (rdE s p (a, f)).fst = (rdE s p (a, f)).fst, (rdE s p (a, f)).snd = (rdE s p (a, f)).snd, p = p, (1 : Nat) = [rdC s p (a, f)].length, [rdC s p (a, f)] = [Con.mk (numV s (t0 s (a, f)).fst) (numV s (t2 s (a, f)).fst) (sgN s (t1 s (a, f))) (p == 2 && !evQ s (a, f)) (bif p == 2 && !evQ s (a, f) then numV s (t4 s (a, f)).fst else (0 : Int))], (0 : Nat) < (1 : Nat) ∧ (1 : Nat) ≤ (1000000 : Nat), s.size ≤ (900 : Nat) ∧ (0 : Int) ≤ a ∧ a ≤ ↑s.size, Dec (decide (a < ↑s.size)) true, Dec (!f) true], by kernel_rfl, ⟨?_, ?_, ?_, ?_, ?_, ?_, ?_, ?_, ?_, d2, (dN d1)⟩, MuG.out ?_, InG.out ?_⟩⟩) (fun d2 => ⟨[true, false], .inr ⟨[s = s, s = s, a = (rdFin s p (a0, f0)).snd.fst, f = (rdFin s p (a0, f0)).snd.snd, p = p, Dec (decide (a < (↑s.size : Int))) false, Dec (!f) true], by kernel_rfl, ⟨?_, ?_, ?_, ?_, ?_, d2, (dN d1)⟩, rfl⟩⟩))
        all_goals first | (refine MuG.mk ?_; (have q := (hI.step d1 (of_decide_eq_true d2)).2; show k - 1 < k; exact Nat.sub_lt q Nat.one_pos)) | (refine InG.mk ?_; (exact ⟨(hI.step d1 (of_decide_eq_true d2)).1, (by intro e; simp at e), hD⟩)) | (refine CtG.mk ?_; (first | (rw [(hI.done (.inl d1)).1] at hD; cases hD; done) | (rw [(hI.done (.inr (of_decide_eq_false d2))).1] at hD; cases hD; done) | (rw [(hI.done (.inl d1)).1] at hD; have e := List.isEmpty_iff.1 hD.symm; exact absurd (congrArg some e) hO) | (rw [(hI.done (.inr (of_decide_eq_false d2))).1] at hD; have e := List.isEmpty_iff.1 hD.symm; exact absurd (congrArg some e) hO))) | (first | (with_reducible rfl) | exact rfl | exact (hI.done (.inl d1)).2.1.symm | exact (hI.done (.inl d1)).2.2.symm | exact (hI.done (.inl d1)).1.symm | (rw [(hI.done (.inl d1)).1]; rfl) | exact (hI.done (.inr (of_decide_eq_false d2))).2.1.symm | exact (hI.done (.inr (of_decide_eq_false d2))).2.2.symm | exact (hI.done (.inr (of_decide_eq_false d2))).1.symm | (rw [(hI.done (.inr (of_decide_eq_false d2))).1]; rfl) | exact ⟨hs, hI.lo, hI.hi⟩ | exact ⟨by decide, by decide⟩ | (have q1 : (L.length : Int) ≤ a + 1 := hI.len; have q2 : a ≤ (s.size : Int) := hI.hi; exact ⟨rfl, by omega⟩) | (simp; done))
      · -- 2
        refine oe (f) (fun d1 => CtG.no ?_) (fun d1 => oe (decide (a < ↑s.size)) (fun d2 => ⟨[true, true], .inl ⟨(k - 1, (rdE s p (a, f)).1, (rdE s p (a, f)).2, some (L ++ [rdC s p (a, f)])), [s = s, s = s, (rdE s p (a, f)).fst = (rdE s p (a, f)).fst, (rdE s p (a, f)).snd = (rdE s p (a, f)).snd, p = p, L.length + (1 : Nat) = (L ++ [rdC s p (a, f)]).length, L ++ [rdC s p (a, f)] = L ++ [Con.mk (numV s (t0 s (a, f)).fst) (numV s (t2 s (a, f)).fst) (sgN s (t1 s (a, f))) (p == 2 && !evQ s (a, f)) (bif p == 2 && !evQ s (a, f) then numV s (t4 s (a, f)).fst else (0 : Int))], (View.con L).num = L.length ∧ L.length + (1 : Nat) ≤ (1000000 : Nat), L.length = L.length, s.size ≤ (900 : Nat) ∧ (0 : Int) ≤ a ∧ a ≤ ↑s.size, Dec (decide (a < ↑s.size)) true, Dec (!f) true], by kernel_rfl, ⟨?_, ?_, ?_, ?_, ?_, ?_, ?_, ?_, ?_, ?_, d2, (dN d1)⟩, MuG.out ?_, InG.out ?_⟩⟩) (fun d2 => CtG.no ?_))
        all_goals first | (refine MuG.mk ?_; (have q := (hI.step d1 (of_decide_eq_true d2)).2; show k - 1 < k; exact Nat.sub_lt q Nat.one_pos)) | (refine InG.mk ?_; (exact ⟨(hI.step d1 (of_decide_eq_true d2)).1, (by intro e; simp at e), hD⟩)) | (refine CtG.mk ?_; (first | (rw [(hI.done (.inl d1)).1] at hD; cases hD; done) | (rw [(hI.done (.inr (of_decide_eq_false d2))).1] at hD; cases hD; done) | (rw [(hI.done (.inl d1)).1] at hD; have e := List.isEmpty_iff.1 hD.symm; exact absurd (congrArg some e) hO) | (rw [(hI.done (.inr (of_decide_eq_false d2))).1] at hD; have e := List.isEmpty_iff.1 hD.symm; exact absurd (congrArg some e) hO))) | (first | (with_reducible rfl) | exact rfl | exact (hI.done (.inl d1)).2.1.symm | exact (hI.done (.inl d1)).2.2.symm | exact (hI.done (.inl d1)).1.symm | (rw [(hI.done (.inl d1)).1]; rfl) | exact (hI.done (.inr (of_decide_eq_false d2))).2.1.symm | exact (hI.done (.inr (of_decide_eq_false d2))).2.2.symm | exact (hI.done (.inr (of_decide_eq_false d2))).1.symm | (rw [(hI.done (.inr (of_decide_eq_false d2))).1]; rfl) | exact ⟨hs, hI.lo, hI.hi⟩ | exact ⟨by decide, by decide⟩ | (have q1 : (L.length : Int) ≤ a + 1 := hI.len; have q2 : a ≤ (s.size : Int) := hI.hi; exact ⟨rfl, by omega⟩) | (simp; done))
theorem read_pure (s : ByteArray) (hs : s.size ≤ 900) : PureC Tryz.prog [] 41 [.str s] (.tup [.agg [.int .i64 (rdP s), roC (rdT s).1], .bool (!(rdT s).2.2)]) := by
  have q0 := numE_bounds s 0; have q2 := q0.2 (by omega); have q1 := skA_bounds (s := s) (b := 58) (a := numE s 0) (by decide); have hl0 := rd_loop s (numV s 0) (skA s (58 : Int) (numE s (0 : Int))) (skB s (58 : Int) (numE s (0 : Int)) (numB s (0 : Int) false)) hs (by omega) (q1.2.2 (q0.2 (by omega)))
  have rr := fun (tp : List Bool) (ms : List Prop) h hm => pure_run evOk (callF_ok evOk rdOrc2_ok 8) Tryz.func41 (A := [.str s]) (N := Nat.max 1 Tryz.f41.ntmps) rfl (one_ann hl0) rfl rfl evNg (tabs := []) (R := .tup [.agg [.int .i64 (rdP s), roC (rdT s).1], .bool (!(rdT s).2.2)]) (tp := tp) (ms := ms) h hm
  refine oe ((rdFin s (numV s (0 : Int)) (skA s (58 : Int) (numE s (0 : Int)), skB s (58 : Int) (numE s (0 : Int)) (numB s (0 : Int) false))).fst.isEmpty) (fun d1 => rr [true] [numV s (0 : Int) = rdP s, (rdT s).fst.length = (0 : Nat), (!(rdFin s (numV s (0 : Int)) (skA s (58 : Int) (numE s (0 : Int)), skB s (58 : Int) (numE s (0 : Int)) (numB s (0 : Int) false))).snd.snd) = !(rdT s).snd.snd, (rdFin s (numV s (0 : Int)) (skA s (58 : Int) (numE s (0 : Int)), skB s (58 : Int) (numE s (0 : Int)) (numB s (0 : Int) false))).snd.snd = (rdFin s (numV s (0 : Int)) (skA s (58 : Int) (numE s (0 : Int)), skB s (58 : Int) (numE s (0 : Int)) (numB s (0 : Int) false))).snd.snd, s = s, s = s, skA s (58 : Int) (numE s (0 : Int)) = skA s (58 : Int) (numE s (0 : Int)), skB s (58 : Int) (numE s (0 : Int)) (numB s (0 : Int) false) = skB s (58 : Int) (numE s (0 : Int)) (numB s (0 : Int) false), numV s (0 : Int) = numV s (0 : Int), Dec (rdFin s (numV s (0 : Int)) (skA s (58 : Int) (numE s (0 : Int)), skB s (58 : Int) (numE s (0 : Int)) (numB s (0 : Int) false))).fst.isEmpty true, s.size ≤ (1000 : Nat) ∧ (0 : Int) ≤ numE s (0 : Int) ∧ numE s (0 : Int) ≤ 1000, s.size ≤ (1000 : Nat) ∧ (0 : Int) ≤ 0 ∧ (0 : Int) ≤ 1000] (by kernel_rfl) ⟨?_, ?_, ?_, ?_, ?_, ?_, ?_, ?_, ?_, d1, ?_, (?_ : s.size ≤ (1000 : Nat) ∧ (0 : Int) ≤ 0 ∧ (0 : Int) ≤ 1000)⟩) (fun d1 => rr [false] [numV s (0 : Int) = rdP s, (rdFin s (numV s (0 : Int)) (skA s (58 : Int) (numE s (0 : Int)), skB s (58 : Int) (numE s (0 : Int)) (numB s (0 : Int) false))).fst.length = (rdT s).fst.length ∧ (rdFin s (numV s (0 : Int)) (skA s (58 : Int) (numE s (0 : Int)), skB s (58 : Int) (numE s (0 : Int)) (numB s (0 : Int) false))).fst.length = (rdFin s (numV s (0 : Int)) (skA s (58 : Int) (numE s (0 : Int)), skB s (58 : Int) (numE s (0 : Int)) (numB s (0 : Int) false))).fst.length ∧ ∀ (i : Nat), i < (rdFin s (numV s (0 : Int)) (skA s (58 : Int) (numE s (0 : Int)), skB s (58 : Int) (numE s (0 : Int)) (numB s (0 : Int) false))).fst.length → (fun i => ((rdT s).fst.getD i Con.zero).rvs) i = ((rdFin s (numV s (0 : Int)) (skA s (58 : Int) (numE s (0 : Int)), skB s (58 : Int) (numE s (0 : Int)) (numB s (0 : Int) false))).fst.getD i Con.zero).rvs, (!(rdFin s (numV s (0 : Int)) (skA s (58 : Int) (numE s (0 : Int)), skB s (58 : Int) (numE s (0 : Int)) (numB s (0 : Int) false))).snd.snd) = !(rdT s).snd.snd, (rdFin s (numV s (0 : Int)) (skA s (58 : Int) (numE s (0 : Int)), skB s (58 : Int) (numE s (0 : Int)) (numB s (0 : Int) false))).snd.snd = (rdFin s (numV s (0 : Int)) (skA s (58 : Int) (numE s (0 : Int)), skB s (58 : Int) (numE s (0 : Int)) (numB s (0 : Int) false))).snd.snd, s = s, s = s, skA s (58 : Int) (numE s (0 : Int)) = skA s (58 : Int) (numE s (0 : Int)), skB s (58 : Int) (numE s (0 : Int)) (numB s (0 : Int) false) = skB s (58 : Int) (numE s (0 : Int)) (numB s (0 : Int) false), numV s (0 : Int) = numV s (0 : Int), Dec (rdFin s (numV s (0 : Int)) (skA s (58 : Int) (numE s (0 : Int)), skB s (58 : Int) (numE s (0 : Int)) (numB s (0 : Int) false))).fst.isEmpty false, s.size ≤ (1000 : Nat) ∧ (0 : Int) ≤ numE s (0 : Int) ∧ numE s (0 : Int) ≤ 1000, s.size ≤ (1000 : Nat) ∧ (0 : Int) ≤ 0 ∧ (0 : Int) ≤ 1000] (by kernel_rfl) ⟨?_, ?_, ?_, ?_, ?_, ?_, ?_, ?_, ?_, d1, ?_, (?_ : s.size ≤ (1000 : Nat) ∧ (0 : Int) ≤ 0 ∧ (0 : Int) ≤ 1000)⟩)
  all_goals first | (first | (with_reducible rfl) | exact rfl | omega | (have e : (rdT s).1 = [] := List.isEmpty_iff.1 d1; rw [e]; rfl) | exact ⟨rfl, rfl⟩ | exact ⟨rfl, rfl, fun _ _ => rfl⟩ | exact (5 : Nat))
end Go.Proofs.YtgdhgnhgmbkpdaaGreatDoor.S

namespace Go.Proofs.YtgdhgnhgmbkpdaaGreatDoor.S
open Go.QfSy Go.RowKit
noncomputable def fTS (p : Int) (L : List Con) : ByteArray := bif vSv p L then txS p L else ⟨#[]⟩
noncomputable def fES (p : Int) (L : List Con) : Int := bif vSv p L then 0 else 22
noncomputable def rPS (s : ByteArray) : Int := bif goodS s then prsV (headS s) else 0
noncomputable def rLS (s : ByteArray) : List Con := bif goodS s then conS s else []
noncomputable def rES (s : ByteArray) : Int := bif goodS s then 0 else 2
theorem resS_eq (s : ByteArray) : resS s = .tup [.agg [.int .i64 (rPS s), roC (rLS s)], .int .i64 (rES s)] := by
  unfold resS rPS rLS rES badR
  cases goodS s <;> rfl
noncomputable def rPT (s : ByteArray) : Int := bif goodT s then 2 else 0
noncomputable def rLT (s : ByteArray) : List Con := bif goodT s then conT s else []
noncomputable def rET (s : ByteArray) : Int := bif goodT s then 0 else 2
end Go.Proofs.YtgdhgnhgmbkpdaaGreatDoor.S

namespace Go.Proofs.YtgdhgnhgmbkpdaaGreatDoor.S
open Go.QfSy Go.RowKit
theorem txA_S {p : Int} (L : List Con) (h : p ≠ 2) : txA p L = txS p L := by unfold txA; rw [beq_false_of_ne h]; rfl
theorem pars_S1 {s : ByteArray} (h1 : (rdT s).2.2 = false) (h2 : vSv (rdP s) (rdT s).1 = true) (h3 : eqB (txA (rdP s) (rdT s).1) s = true) : rPS s = rdP s ∧ rLS s = (rdT s).1 ∧ rES s = 0 := by
  have e := eqB_true h3
  rw [txA_S _ (vS_text h2).1] at e
  obtain ⟨g1, g2, g3⟩ := good_txS h2
  rw [e] at g1 g2 g3
  unfold rPS rLS rES
  rw [g2, g1, g3]
  exact ⟨rfl, rfl, rfl⟩
theorem pars_S2 {s : ByteArray} (h : goodS s = true) : (rdT s).2.2 = false ∧ vSv (rdP s) (rdT s).1 = true ∧ eqB (txA (rdP s) (rdT s).1) s = true := by
  unfold goodS at h
  simp only [Bool.and_eq_true] at h
  obtain ⟨-, -, h2, h3⟩ := h
  have e := eqB_true h3
  obtain ⟨r1, r2⟩ := read_txS h2
  rw [e] at r1 r2
  rw [r1, r2]
  refine ⟨rfl, h2, ?_⟩
  rw [txA_S _ (vS_text h2).1]
  exact h3
theorem pars_S0 {s : ByteArray} (h : (rdT s).2.2 = false → vSv (rdP s) (rdT s).1 = true → eqB (txA (rdP s) (rdT s).1) s = false) : rPS s = 0 ∧ rLS s = [] ∧ rES s = 2 := by
  have hg : goodS s = false := by
    cases hg : goodS s with
    | false => rfl
    | true =>
      obtain ⟨a, b, c⟩ := pars_S2 hg
      rw [h a b] at c
      cases c
  unfold rPS rLS rES
  rw [hg]
  exact ⟨rfl, rfl, rfl⟩
end Go.Proofs.YtgdhgnhgmbkpdaaGreatDoor.S

namespace Go.Proofs.YtgdhgnhgmbkpdaaGreatDoor.S
open Go.QfSy Go.RowKit
theorem RdI.final {s : ByteArray} {p : Int} {t : Int × Bool} : ∀ (k : Nat) (a : Int) (f : Bool) (L : List Con), RdI s p t k a f L → ((rdFin s p t).1.length : Int) ≤ s.size + 1 := by
  intro k
  induction k with
  | zero =>
    intro a f L h
    by_cases hf : f = false
    · by_cases ha : a < (s.size : Int)
      · exact absurd (h.step hf ha).2 (by decide)
      · rw [(h.done (.inr ha)).1]; have := h.len; have := h.hi; omega
    · rw [(h.done (.inl (by simpa using hf))).1]; have := h.len; have := h.hi; omega
  | succ k ih =>
    intro a f L h
    by_cases hf : f = false
    · by_cases ha : a < (s.size : Int)
      · exact ih _ _ _ (h.step hf ha).1
      · rw [(h.done (.inr ha)).1]; have := h.len; have := h.hi; omega
    · rw [(h.done (.inl (by simpa using hf))).1]; have := h.len; have := h.hi; omega
theorem rdT_len {s : ByteArray} (hs : s.size ≤ 900) : (rdT s).1.length ≤ 1000 := by
  have q0 := numE_bounds s 0
  have q2 := q0.2 (by omega)
  have q1 := skA_bounds (s := s) (b := 58) (a := numE s 0) (by decide)
  have h := (RdI.start (s := s) (p := rdP s) (a := skA s 58 (numE s 0)) (f := skB s 58 (numE s 0) (numB s 0 false)) (by omega) (q1.2.2 q2)).final
  have h : ((rdT s).1.length : Int) ≤ s.size + 1 := h
  omega
noncomputable def entsRd : List OEnt := [
  ⟨41, [], fun A => match A with
    | [.str s] => some (.tup [.agg [.int .i64 (rdP s), roC (rdT s).1], .bool (!(rdT s).2.2)], [s.size ≤ 900])
    | _ => none⟩]
theorem entsRd_ok : ∀ e ∈ entsRd, EntOk Tryz.prog e := by
  intro e he
  unfold entsRd at he
  rw [List.mem_singleton] at he
  subst he
  intro A R ms h hm
  simp only at h
  split at h
  · cases h
    exact read_pure _ (all_one hm)
  · cases h
noncomputable def entsNE1 : List OEnt := entsRd ++ entsFR
theorem entsNE1_ok : ∀ e ∈ entsNE1, EntOk Tryz.prog e := by
  intro e he
  unfold entsNE1 at he
  rcases List.mem_append.1 he with h | h
  · exact entsRd_ok e h
  · exact entsFR_ok e h
attribute [local irreducible] rdP rdT rPS rLS rES rPT rLT rET txA
theorem rparseS_pure (s : ByteArray) (hs : s.size ≤ 900) : PureC Tryz.prog [] 15 [.str s] (.tup [.agg [.int .i64 (rPS s), roC (rLS s)], .int .i64 (rES s)]) := by
  have ln := rdT_len hs
  have rr := fun (tp : List Bool) (ms : List Prop) h hm => pure_run evOk (callF_ok evOk (orcOf_ok entsNE1_ok) 8) Tryz.func15 (A := [.str s]) rfl none_ann rfl rfl evNg (tabs := []) (R := .tup [.agg [.int .i64 (rPS s), roC (rLS s)], .int .i64 (rES s)]) (tp := tp) (ms := ms) h hm
  refine oe ((rdT s).snd.snd) (fun d1 => rr [true] [(0 : Int) = rPS s, (rLS s).length = (0 : Nat), (2 : Int) = rES s, Dec (!!(rdT s).snd.snd) true, s.size ≤ (900 : Nat)] (by kernel_rfl) ⟨?_, ?_, ?_, (dN (dN d1)), (?_ : s.size ≤ (900 : Nat))⟩) (fun d1 => oe (vSv (rdP s) (consR (rdT s).fst.length fun i => ((rdT s).fst.getD i Con.zero).rvs)) (fun d2 => oe ((txA (rdP s) (consR (rdT s).fst.length fun i => ((rdT s).fst.getD i Con.zero).rvs)).toList == s.toList) (fun d3 => rr [false, false, false] [rdP s = rPS s, (rdT s).fst.length = (rLS s).length ∧ (fun i => ((rdT s).fst.getD i Con.zero).rvs) = (rws (rLS s)), (0 : Int) = rES s, Dec (!(txA (rdP s) (consR (rdT s).fst.length fun i => ((rdT s).fst.getD i Con.zero).rvs)).toList == s.toList) false, (∀ (i : Nat), i < (rdT s).fst.length → (fun i => ((rdT s).fst.getD i Con.zero).rvs) i = (Con.ofR ((fun i => ((rdT s).fst.getD i Con.zero).rvs) i)).rvs) ∧ (0 : Int) ≤ rdP s ∧ rdP s ≤ 9973 ∧ (∀ (c : Con), (c ∈ consR (rdT s).fst.length fun i => ((rdT s).fst.getD i Con.zero).rvs) → okD c ∧ (c.sign = 1 ∨ c.sign = -1)) ∧ (rdT s).fst.length ≤ (8 : Nat), Dec (!vSv (rdP s) (consR (rdT s).fst.length fun i => ((rdT s).fst.getD i Con.zero).rvs)) false, (∀ (i : Nat), i < (rdT s).fst.length → (fun i => ((rdT s).fst.getD i Con.zero).rvs) i = (Con.ofR ((fun i => ((rdT s).fst.getD i Con.zero).rvs) i)).rvs) ∧ (rdT s).fst.length ≤ (1000 : Nat), Dec (!!(rdT s).snd.snd) false, s.size ≤ (900 : Nat)] (by kernel_rfl) ⟨?_, ?_, ?_, (dN d3), ?_, (dN d2), ?_, (dN (dN d1)), (?_ : s.size ≤ (900 : Nat))⟩) (fun d3 => rr [false, false, true] [(0 : Int) = rPS s, (rLS s).length = (0 : Nat), (2 : Int) = rES s, Dec (!(txA (rdP s) (consR (rdT s).fst.length fun i => ((rdT s).fst.getD i Con.zero).rvs)).toList == s.toList) true, (∀ (i : Nat), i < (rdT s).fst.length → (fun i => ((rdT s).fst.getD i Con.zero).rvs) i = (Con.ofR ((fun i => ((rdT s).fst.getD i Con.zero).rvs) i)).rvs) ∧ (0 : Int) ≤ rdP s ∧ rdP s ≤ 9973 ∧ (∀ (c : Con), (c ∈ consR (rdT s).fst.length fun i => ((rdT s).fst.getD i Con.zero).rvs) → okD c ∧ (c.sign = 1 ∨ c.sign = -1)) ∧ (rdT s).fst.length ≤ (8 : Nat), Dec (!vSv (rdP s) (consR (rdT s).fst.length fun i => ((rdT s).fst.getD i Con.zero).rvs)) false, (∀ (i : Nat), i < (rdT s).fst.length → (fun i => ((rdT s).fst.getD i Con.zero).rvs) i = (Con.ofR ((fun i => ((rdT s).fst.getD i Con.zero).rvs) i)).rvs) ∧ (rdT s).fst.length ≤ (1000 : Nat), Dec (!!(rdT s).snd.snd) false, s.size ≤ (900 : Nat)] (by kernel_rfl) ⟨?_, ?_, ?_, (dN d3), ?_, (dN d2), ?_, (dN (dN d1)), (?_ : s.size ≤ (900 : Nat))⟩)) (fun d2 => rr [false, true] [(0 : Int) = rPS s, (rLS s).length = (0 : Nat), (2 : Int) = rES s, Dec (!vSv (rdP s) (consR (rdT s).fst.length fun i => ((rdT s).fst.getD i Con.zero).rvs)) true, (∀ (i : Nat), i < (rdT s).fst.length → (fun i => ((rdT s).fst.getD i Con.zero).rvs) i = (Con.ofR ((fun i => ((rdT s).fst.getD i Con.zero).rvs) i)).rvs) ∧ (rdT s).fst.length ≤ (1000 : Nat), Dec (!!(rdT s).snd.snd) false, s.size ≤ (900 : Nat)] (by kernel_rfl) ⟨?_, ?_, ?_, (dN d2), ?_, (dN (dN d1)), (?_ : s.size ≤ (900 : Nat))⟩))
  all_goals first | (first | (with_reducible rfl) | exact hs | ((try simp only [consR_ro] at *); first | exact ⟨fun _ _ => rfl, ln⟩ | exact ⟨fun _ _ => rfl, (vS_text d2).2.1, (vS_text d2).2.2.1, (vS_text d2).2.2.2.1, (vS_text d2).2.2.2.2⟩ | (have k := pars_S0 (s := s) (fun h _ => absurd (d1.symm.trans h) (by decide)); first | exact k.1.symm | exact k.2.2.symm | (rw [k.2.1]; rfl)) | (have k := pars_S0 (s := s) (fun _ h => absurd (d2.symm.trans h) (by decide)); first | exact k.1.symm | exact k.2.2.symm | (rw [k.2.1]; rfl)) | (have k := pars_S0 (s := s) (fun _ _ => d3); first | exact k.1.symm | exact k.2.2.symm | (rw [k.2.1]; rfl)) | (have k := pars_S1 (s := s) d1 d2 d3; first | exact k.1.symm | exact k.2.2.symm | (rw [k.2.1]; exact ⟨rfl, rfl⟩))))
end Go.Proofs.YtgdhgnhgmbkpdaaGreatDoor.S

