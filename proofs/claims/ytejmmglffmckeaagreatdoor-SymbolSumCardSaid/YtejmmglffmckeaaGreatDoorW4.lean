/- quadformref24.Small, Odd; quadformref26.order, Valid. -/
import Derived.Test.YtejmmglffmckeaaGreatDoorW3
import Derived.BigQuiet
import Derived.Deep.QuietTactic
namespace Go.Proofs.YtejmmglffmckeaaGreatDoor.Q
open Go.RowKit

noncomputable def oddP (p : Int) : Bool := decide (p ≠ 2 ∧ p ≤ 9973) && isP p

theorem small_calls (p : Int) (w : World) : Calls Tryz.prog 61 #[.int .i64 p] w fun e w' => e = .returned (.bool (decide (p ≤ 9973) && isP p)) ∧ w = w' := by
  by_cases h : p ≤ 9973
  · have HB := Lib.hid (show (decide (p ≤ 9973) && isP p) = isP p by simp [h])
    generalize (decide (p ≤ 9973) && isP p) = r at HB ⊢
    go_enter Tryz.func61, Tryz.ntmps61
    go_wp2_with (go_at_call 127; refine (refIs _ _).mono ?_; rintro e w' ⟨rfl, rfl⟩)
    go_ret
    exact ⟨ret_bool HB.out.symm, rfl⟩
  · have HB := Lib.hid (show (decide (p ≤ 9973) && isP p) = false by simp [h])
    generalize (decide (p ≤ 9973) && isP p) = r at HB ⊢
    go_enter Tryz.func61, Tryz.ntmps61
    go_wp2
    go_ret
    exact ⟨ret_bool HB.out.symm, rfl⟩

theorem odd_calls (p : Int) (w : World) : Calls Tryz.prog 26 #[.int .i64 p] w fun e w' => e = .returned (.bool (oddP p)) ∧ w = w' := by
  by_cases h : p = 2
  · subst h
    have HB := Lib.hid (show oddP 2 = false by simp [oddP])
    generalize oddP 2 = r at HB ⊢
    go_enter Tryz.func26, Tryz.ntmps26
    go_wp2
    go_ret
    exact ⟨ret_bool HB.out.symm, rfl⟩
  · have HB := Lib.hid (show oddP p = (decide (p ≤ 9973) && isP p) by simp [oddP, h])
    have hb : (p != 2) = true := by simpa using h
    have hc := Lib.hid (small_calls p)
    generalize (decide (p ≤ 9973) && isP p) = r at HB hc
    generalize oddP p = r' at HB ⊢
    go_enter Tryz.func26, Tryz.ntmps26
    go_wp2_with (go_at_call 61; refine (hc.out _).mono ?_; rintro e w' ⟨rfl, rfl⟩)
    go_ret
    exact ⟨ret_bool HB.out.symm, rfl⟩

def oc (c : Con) (s last : Int) : Bool := decide (last < c.exp ∧ c.exp ≤ 60 ∧ 1 ≤ c.dim ∧ c.dim ≤ 8 - s ∧ (c.sign = 1 ∨ c.sign = -1))
def oL : List Con → Int → Int → Bool
  | [], _, _ => true
  | c :: l, s, last => oc c s last && oL l (s + c.dim) c.exp
theorem oL_drop {l : List Con} {k : Nat} {c : Con} (h : l[k]? = some c) (s last : Int) : oL (l.drop k) s last = (oc c s last && oL (l.drop (k + 1)) (s + c.dim) c.exp) := by
  rw [List.getElem?_eq_some_iff] at h
  obtain ⟨hk, rfl⟩ := h
  rw [List.drop_eq_getElem_cons hk]
  rfl
theorem oL_end {l : List Con} {k : Nat} (h : l.length ≤ k) (s last : Int) : oL (l.drop k) s last = true := by
  rw [List.drop_eq_nil_of_le h]; rfl

theorem below_drewN {B : Nat} {a w : World} (h : Below B a w) (n : Nat) : Below B a (w.drewN n) := ⟨h.os, h.tape, h.output, h.size, h.block⟩
theorem ordF {c : Con} {S L : Int} {t r : Bool} (h : (oc c S L && t) = r) (hf : ¬ (L < c.exp ∧ c.exp ≤ 60 ∧ 1 ≤ c.dim ∧ c.dim ≤ 8 - S ∧ (c.sign = 1 ∨ c.sign = -1))) : r = false := by
  rw [← h]; simp only [oc, decide_eq_false hf, Bool.false_and]
theorem ordT {c : Con} {S L : Int} {t r : Bool} (h : (oc c S L && t) = r) (hf : L < c.exp ∧ c.exp ≤ 60 ∧ 1 ≤ c.dim ∧ c.dim ≤ 8 - S ∧ (c.sign = 1 ∨ c.sign = -1)) : t = r := by
  rw [← h]; simp only [oc, decide_eq_true hf, Bool.true_and]

set_option maxHeartbeats 40000000 in
theorem order_cons (l : List Con) (n b o cap : Nat) (w : World) (hn : Hid (l.length = n)) (hn0 : 0 < n) (hn1 : n ≤ 1000) (hb : b < w.heap.size) (hc : Hid (∀ i c, l[i]? = some c → ConAt w b (o + i * 5) c))
    (r : Bool) (hr : Hid (oL l 0 (-1) = r)) :
    Calls Tryz.prog 52 #[.slice (some ⟨b, o, none⟩) n cap] w fun e w' => e = .returned (.bool r) ∧ Below w.heap.size w w' := by
  go_enter Tryz.func52, Tryz.ntmps52
  go_wp2
  go_loopw [3, 8] (fun s i wr => ∃ (k : Nat) (S L : Int), k ≤ n ∧ 0 ≤ S ∧ S ≤ 8 ∧ k ≤ S ∧ -1 ≤ L ∧ L ≤ 60 ∧ s = .int .i64 S ∧ i = .int .i64 k ∧ Hid (oL (l.drop k) S L = r) ∧ Hid ((k = 0 ∧ L = -1) ∨ ∃ j c, k = j + 1 ∧ l[j]? = some c ∧ c.exp = L) ∧ Below w.heap.size w wr) (fun _ i _ => (n - (intOf i).toNat))
  case atStart => exact ⟨0, 0, -1, by omega, by omega, by omega, by omega, by omega, by omega, rfl, rfl, hr, .inl ⟨rfl, rfl⟩, Below.refl _ _⟩
  case round =>
    obtain ⟨k, S, L, hk, hS0, hS1, hkS, hL0, hL1, rfl, rfl, hv, hp, hbe⟩ := hrel
    by_cases hlt : k < n
    · obtain ⟨c, hkc⟩ : ∃ c, l[k]? = some c := ⟨l[k]'(by rw [hn.out]; exact hlt), List.getElem?_eq_getElem _⟩
      obtain ⟨g0, g1, g2, g3, g4⟩ := (hc.out k c hkc).below hbe hb
      have hsz := hbe.size
      have hd := oL_drop hkc S L
      have hv' : Hid ((oc c S L && oL (l.drop (k + 1)) (S + c.dim) c.exp) = r) := hd ▸ hv.out
      clear hd hv
      have hkc := Lib.hid hkc
      by_cases t1 : c.exp < 0
      · have e1 : decide (c.exp < 0) = true := by simpa using t1
        have hr' := Lib.hid (ordF hv'.out (by rintro ⟨y1, y2, y3, y4, y5⟩; omega))
        clear hv'
        go_wp2
        go_hide hQ
        go_quiet (fail)
        subst hQ
        go_wp2
        go_ret
        refine ⟨ret_bool hr'.out.symm, ?_⟩
        repeat (first | exact hbe | refine below_drewN ?_ _ | refine Below.alloc ?_ (by first | omega | (simp; omega)) _ | refine Below.setCell ?_ (by first | omega | (simp; omega)) _)
      have e1 : decide (c.exp < 0) = false := by simpa using t1
      by_cases t2 : 60 < c.exp
      · have e2 : decide (60 < c.exp) = true := by simpa using t2
        have hr' := Lib.hid (ordF hv'.out (by rintro ⟨y1, y2, y3, y4, y5⟩; omega))
        clear hv'
        go_wp2
        go_hide hQ
        go_quiet (fail)
        subst hQ
        go_wp2
        go_ret
        refine ⟨ret_bool hr'.out.symm, ?_⟩
        repeat (first | exact hbe | refine below_drewN ?_ _ | refine Below.alloc ?_ (by first | omega | (simp; omega)) _ | refine Below.setCell ?_ (by first | omega | (simp; omega)) _)
      have e2 : decide (60 < c.exp) = false := by simpa using t2
      by_cases hk0 : 0 < k
      · obtain ⟨j, cj, hkj, hj, hcj⟩ : ∃ j c, k = j + 1 ∧ l[j]? = some c ∧ c.exp = L := by
          rcases hp.out with ⟨rfl, _⟩ | h
          · omega
          · exact h
        obtain ⟨q0, -⟩ := (hc.out j cj hj).below hbe hb
        rw [hcj] at q0
        obtain rfl : j = k - 1 := by omega
        have hix := fun w => run_ix (i := k - 1) (n := n) (I := (k : Int) - 1) (by omega) (by omega) b o cap w
        have hbw : b < wr.heap.size := by omega
        have hkw : IntKind.i64.wrap ((k : Int) - 1) = (k : Int) - 1 := by rw [IntKind.wrap_i64]; omega
        have ek : decide ((0 : Int) < k) = true := by simpa using hk0
        clear hp hcj hkj hj
        by_cases t3 : c.exp ≤ L
        · have e3 : decide (c.exp ≤ L) = true := by simpa using t3
          have hr' := Lib.hid (ordF hv'.out (by rintro ⟨y1, y2, y3, y4, y5⟩; omega))
          clear hv'
          go_wp2
          go_hide hQ
          go_quiet (fail)
          subst hQ
          go_wp2
          go_ret
          refine ⟨ret_bool hr'.out.symm, ?_⟩
          repeat (first | exact hbe | refine below_drewN ?_ _ | refine Below.alloc ?_ (by first | omega | (simp; omega)) _ | refine Below.setCell ?_ (by first | omega | (simp; omega)) _)
        have e3 : decide (c.exp ≤ L) = false := by simpa using t3
        by_cases t4 : c.sign = 1
        · have e4 : (c.sign != 1) = false := by simpa using t4
          have y4 : c.sign = 1 ∨ c.sign = -1 := .inl t4
          have t4' := Lib.hid t4
          clear t4
          have y4' := Lib.hid y4
          clear y4
          by_cases t6 : c.dim < 1
          · have e6 : decide (c.dim < 1) = true := by simpa using t6
            have hr' := Lib.hid (ordF hv'.out (by rintro ⟨y1, y2, y3, y4, y5⟩; omega))
            clear hv'
            go_wp2
            go_hide hQ
            go_quiet (fail)
            subst hQ
            go_wp2
            go_ret
            refine ⟨ret_bool hr'.out.symm, ?_⟩
            repeat (first | exact hbe | refine below_drewN ?_ _ | refine Below.alloc ?_ (by first | omega | (simp; omega)) _ | refine Below.setCell ?_ (by first | omega | (simp; omega)) _)
          have e6 : decide (c.dim < 1) = false := by simpa using t6
          by_cases t7 : 8 - S < c.dim
          · have e7 : decide (8 - S < c.dim) = true := by simpa using t7
            have hr' := Lib.hid (ordF hv'.out (by rintro ⟨y1, y2, y3, y4, y5⟩; omega))
            clear hv'
            go_wp2
            go_hide hQ
            go_quiet (fail)
            subst hQ
            go_wp2
            go_ret
            refine ⟨ret_bool hr'.out.symm, ?_⟩
            repeat (first | exact hbe | refine below_drewN ?_ _ | refine Below.alloc ?_ (by first | omega | (simp; omega)) _ | refine Below.setCell ?_ (by first | omega | (simp; omega)) _)
          have e7 : decide (8 - S < c.dim) = false := by simpa using t7
          have hvt := Lib.hid (ordT hv'.out ⟨by omega, by omega, by omega, by omega, y4'.out⟩)
          clear hv'
          go_wp2
          go_hide hQ
          go_quiet (fail)
          subst hQ
          go_wp2
          go_roundw
          case rel => exact ⟨k + 1, S + c.dim, c.exp, by omega, by omega, by omega, by omega, by omega, by omega, by go_num, by go_num, hvt.out, .inr ⟨k, c, rfl, hkc, rfl⟩, by (repeat (first | exact hbe | refine below_drewN ?_ _ | refine Below.alloc ?_ (by first | omega | (simp; omega)) _ | refine Below.setCell ?_ (by first | omega | (simp; omega)) _))⟩
          case measure => simp [intOf]; omega
        · have e4 : (c.sign != 1) = true := by simpa using t4
          by_cases t5 : c.sign = -1
          · have e5 : (c.sign != -1) = false := by simpa using t5
            have y4 : c.sign = 1 ∨ c.sign = -1 := .inr t5
            have t5' := Lib.hid t5
            clear t4 t5
            have y4' := Lib.hid y4
            clear y4
            by_cases t6 : c.dim < 1
            · have e6 : decide (c.dim < 1) = true := by simpa using t6
              have hr' := Lib.hid (ordF hv'.out (by rintro ⟨y1, y2, y3, y4, y5⟩; omega))
              clear hv'
              go_wp2
              go_hide hQ
              go_quiet (fail)
              subst hQ
              go_wp2
              go_ret
              refine ⟨ret_bool hr'.out.symm, ?_⟩
              repeat (first | exact hbe | refine below_drewN ?_ _ | refine Below.alloc ?_ (by first | omega | (simp; omega)) _ | refine Below.setCell ?_ (by first | omega | (simp; omega)) _)
            have e6 : decide (c.dim < 1) = false := by simpa using t6
            by_cases t7 : 8 - S < c.dim
            · have e7 : decide (8 - S < c.dim) = true := by simpa using t7
              have hr' := Lib.hid (ordF hv'.out (by rintro ⟨y1, y2, y3, y4, y5⟩; omega))
              clear hv'
              go_wp2
              go_hide hQ
              go_quiet (fail)
              subst hQ
              go_wp2
              go_ret
              refine ⟨ret_bool hr'.out.symm, ?_⟩
              repeat (first | exact hbe | refine below_drewN ?_ _ | refine Below.alloc ?_ (by first | omega | (simp; omega)) _ | refine Below.setCell ?_ (by first | omega | (simp; omega)) _)
            have e7 : decide (8 - S < c.dim) = false := by simpa using t7
            have hvt := Lib.hid (ordT hv'.out ⟨by omega, by omega, by omega, by omega, y4'.out⟩)
            clear hv'
            go_wp2
            go_hide hQ
            go_quiet (fail)
            subst hQ
            go_wp2
            go_roundw
            case rel => exact ⟨k + 1, S + c.dim, c.exp, by omega, by omega, by omega, by omega, by omega, by omega, by go_num, by go_num, hvt.out, .inr ⟨k, c, rfl, hkc, rfl⟩, by (repeat (first | exact hbe | refine below_drewN ?_ _ | refine Below.alloc ?_ (by first | omega | (simp; omega)) _ | refine Below.setCell ?_ (by first | omega | (simp; omega)) _))⟩
            case measure => simp [intOf]; omega
          · have e5 : (c.sign != -1) = true := by simpa using t5
            have hr' := Lib.hid (ordF hv'.out (by rintro ⟨y1, y2, y3, y4, y5⟩; omega))
            clear hv'
            go_wp2
            go_hide hQ
            go_quiet (fail)
            subst hQ
            go_wp2
            go_ret
            refine ⟨ret_bool hr'.out.symm, ?_⟩
            repeat (first | exact hbe | refine below_drewN ?_ _ | refine Below.alloc ?_ (by first | omega | (simp; omega)) _ | refine Below.setCell ?_ (by first | omega | (simp; omega)) _)
      · have t3 : L < c.exp := by rcases hp.out with ⟨_, h⟩ | ⟨j, _, h, _⟩ <;> omega
        have ek : decide ((0 : Int) < k) = false := by simpa using hk0
        clear hp
        by_cases t4 : c.sign = 1
        · have e4 : (c.sign != 1) = false := by simpa using t4
          have y4 : c.sign = 1 ∨ c.sign = -1 := .inl t4
          have t4' := Lib.hid t4
          clear t4
          have y4' := Lib.hid y4
          clear y4
          by_cases t6 : c.dim < 1
          · have e6 : decide (c.dim < 1) = true := by simpa using t6
            have hr' := Lib.hid (ordF hv'.out (by rintro ⟨y1, y2, y3, y4, y5⟩; omega))
            clear hv'
            go_wp2
            go_hide hQ
            go_quiet (fail)
            subst hQ
            go_wp2
            go_ret
            refine ⟨ret_bool hr'.out.symm, ?_⟩
            repeat (first | exact hbe | refine below_drewN ?_ _ | refine Below.alloc ?_ (by first | omega | (simp; omega)) _ | refine Below.setCell ?_ (by first | omega | (simp; omega)) _)
          have e6 : decide (c.dim < 1) = false := by simpa using t6
          by_cases t7 : 8 - S < c.dim
          · have e7 : decide (8 - S < c.dim) = true := by simpa using t7
            have hr' := Lib.hid (ordF hv'.out (by rintro ⟨y1, y2, y3, y4, y5⟩; omega))
            clear hv'
            go_wp2
            go_hide hQ
            go_quiet (fail)
            subst hQ
            go_wp2
            go_ret
            refine ⟨ret_bool hr'.out.symm, ?_⟩
            repeat (first | exact hbe | refine below_drewN ?_ _ | refine Below.alloc ?_ (by first | omega | (simp; omega)) _ | refine Below.setCell ?_ (by first | omega | (simp; omega)) _)
          have e7 : decide (8 - S < c.dim) = false := by simpa using t7
          have hvt := Lib.hid (ordT hv'.out ⟨by omega, by omega, by omega, by omega, y4'.out⟩)
          clear hv'
          go_wp2
          go_hide hQ
          go_quiet (fail)
          subst hQ
          go_wp2
          go_roundw
          case rel => exact ⟨k + 1, S + c.dim, c.exp, by omega, by omega, by omega, by omega, by omega, by omega, by go_num, by go_num, hvt.out, .inr ⟨k, c, rfl, hkc, rfl⟩, by (repeat (first | exact hbe | refine below_drewN ?_ _ | refine Below.alloc ?_ (by first | omega | (simp; omega)) _ | refine Below.setCell ?_ (by first | omega | (simp; omega)) _))⟩
          case measure => simp [intOf]; omega
        · have e4 : (c.sign != 1) = true := by simpa using t4
          by_cases t5 : c.sign = -1
          · have e5 : (c.sign != -1) = false := by simpa using t5
            have y4 : c.sign = 1 ∨ c.sign = -1 := .inr t5
            have t5' := Lib.hid t5
            clear t4 t5
            have y4' := Lib.hid y4
            clear y4
            by_cases t6 : c.dim < 1
            · have e6 : decide (c.dim < 1) = true := by simpa using t6
              have hr' := Lib.hid (ordF hv'.out (by rintro ⟨y1, y2, y3, y4, y5⟩; omega))
              clear hv'
              go_wp2
              go_hide hQ
              go_quiet (fail)
              subst hQ
              go_wp2
              go_ret
              refine ⟨ret_bool hr'.out.symm, ?_⟩
              repeat (first | exact hbe | refine below_drewN ?_ _ | refine Below.alloc ?_ (by first | omega | (simp; omega)) _ | refine Below.setCell ?_ (by first | omega | (simp; omega)) _)
            have e6 : decide (c.dim < 1) = false := by simpa using t6
            by_cases t7 : 8 - S < c.dim
            · have e7 : decide (8 - S < c.dim) = true := by simpa using t7
              have hr' := Lib.hid (ordF hv'.out (by rintro ⟨y1, y2, y3, y4, y5⟩; omega))
              clear hv'
              go_wp2
              go_hide hQ
              go_quiet (fail)
              subst hQ
              go_wp2
              go_ret
              refine ⟨ret_bool hr'.out.symm, ?_⟩
              repeat (first | exact hbe | refine below_drewN ?_ _ | refine Below.alloc ?_ (by first | omega | (simp; omega)) _ | refine Below.setCell ?_ (by first | omega | (simp; omega)) _)
            have e7 : decide (8 - S < c.dim) = false := by simpa using t7
            have hvt := Lib.hid (ordT hv'.out ⟨by omega, by omega, by omega, by omega, y4'.out⟩)
            clear hv'
            go_wp2
            go_hide hQ
            go_quiet (fail)
            subst hQ
            go_wp2
            go_roundw
            case rel => exact ⟨k + 1, S + c.dim, c.exp, by omega, by omega, by omega, by omega, by omega, by omega, by go_num, by go_num, hvt.out, .inr ⟨k, c, rfl, hkc, rfl⟩, by (repeat (first | exact hbe | refine below_drewN ?_ _ | refine Below.alloc ?_ (by first | omega | (simp; omega)) _ | refine Below.setCell ?_ (by first | omega | (simp; omega)) _))⟩
            case measure => simp [intOf]; omega
          · have e5 : (c.sign != -1) = true := by simpa using t5
            have hr' := Lib.hid (ordF hv'.out (by rintro ⟨y1, y2, y3, y4, y5⟩; omega))
            clear hv'
            go_wp2
            go_hide hQ
            go_quiet (fail)
            subst hQ
            go_wp2
            go_ret
            refine ⟨ret_bool hr'.out.symm, ?_⟩
            repeat (first | exact hbe | refine below_drewN ?_ _ | refine Below.alloc ?_ (by first | omega | (simp; omega)) _ | refine Below.setCell ?_ (by first | omega | (simp; omega)) _)
    · have hr' := hv.out
      rw [oL_end (by rw [hn.out]; omega)] at hr'
      have hr'' := Lib.hid hr'
      clear hr' hp
      have hS : 0 < S := by omega
      go_wp2
      go_ret
      exact ⟨ret_bool hr''.out, hbe⟩
end Go.Proofs.YtejmmglffmckeaaGreatDoor.Q
