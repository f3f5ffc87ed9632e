/- A part of the proof of TiedSymbolSums: D, W6, W7, W8, W9, YS, YE, KQ, YF. -/
import Derived.Test.YtbjfdfjmclggkaaGreatDoorPkS2
import Derived.BigRegion
import Derived.StillTailTactics
import Derived.Laws.AppendOwn
import Derived.OwnWalk
import Derived.WalkSpells
import Derived.Deep.RegionWith
import Derived.Deep.RegionHeld3
import Derived.Laws.StructEq
import Derived.Test.YtbjfdfjmclggkaaGreatDoorPkS1
set_option linter.unusedSimpArgs false
set_option linter.unusedVariables false
/- The excess: plain mathematics. -/
namespace Go.Proofs.YtbjfdfjmclggkaaGreatDoor.Q

theorem pow_mod (a : Int) (k : Nat) : (a % 8) ^ k % 8 = a ^ k % 8 := by
  induction k with
  | zero => simp
  | succ k ih => rw [Int.pow_succ, Int.pow_succ, Int.mul_emod, ih, Int.emod_emod, ← Int.mul_emod]
theorem mul_pow_mod (o a : Int) (k : Nat) : (o * (a % 8) ^ k) % 8 = (o * a ^ k) % 8 := by
  rw [Int.mul_emod, pow_mod, ← Int.mul_emod]

/-- p to the e modulo 8. -/
def pw (p e : Int) : Int := p ^ e.toNat % 8
theorem pw_bounds (p e : Int) : 0 ≤ pw p e ∧ pw p e ≤ 7 := by
  unfold pw; omega
theorem pow_odd {p : Int} (h : p % 2 = 1) : ∀ k : Nat, p ^ k % 2 = 1
  | 0 => by simp
  | k + 1 => by rw [Int.pow_succ, Int.mul_emod, pow_odd h k, h]; rfl
theorem pw_pos {p : Int} (h : p % 2 = 1) (e : Int) : 1 ≤ pw p e := by
  have := pow_odd h e.toNat
  unfold pw; omega

/-- What ModPow's loop keeps. -/
theorem modpow_even {o a e : Int} (h0 : 0 ≤ e) (he : e % 2 = 0) : (o * (a * a % 8) ^ (e / 2).toNat) % 8 = (o * a ^ e.toNat) % 8 := by
  rw [mul_pow_mod]
  have : e.toNat = (e / 2).toNat + (e / 2).toNat := by omega
  rw [this, Int.pow_add, ← Int.mul_pow]
theorem modpow_odd {o a e : Int} (h0 : 0 ≤ e) (he : e % 2 = 1) : ((o * a % 8) * (a * a % 8) ^ (e / 2).toNat) % 8 = (o * a ^ e.toNat) % 8 := by
  rw [mul_pow_mod]
  have : e.toNat = (e / 2).toNat + (e / 2).toNat + 1 := by omega
  rw [this, Int.pow_succ, Int.pow_add, ← Int.mul_pow]
  rw [Int.mul_emod, Int.emod_emod, ← Int.mul_emod, Int.mul_assoc, Int.mul_comm a]

def four (c : Con) : Int := if c.exp % 2 = 1 ∧ c.sign = -1 then 4 else 0
def ex1 (p : Int) : List Con → Int
  | [] => 0
  | c :: l => (c.dim * (pw p c.exp - 1) + four c) + ex1 p l
def ex2 (p : Int) : List Con → Int
  | [] => 0
  | c :: l => (c.dim * (pw p c.exp + 7) + four c) + ex2 p l
theorem ex1_append (p : Int) (a b : List Con) : ex1 p (a ++ b) = ex1 p a + ex1 p b := by
  induction a with
  | nil => simp [ex1]
  | cons c a ih => simp only [List.cons_append, ex1, ih]; omega
theorem ex2_append (p : Int) (a b : List Con) : ex2 p (a ++ b) = ex2 p a + ex2 p b := by
  induction a with
  | nil => simp [ex2]
  | cons c a ih => simp only [List.cons_append, ex2, ih]; omega
theorem take_snoc {l : List Con} {k : Nat} {c : Con} (h : l[k]? = some c) : l.take (k + 1) = l.take k ++ [c] := by
  rw [List.getElem?_eq_some_iff] at h
  obtain ⟨hk, rfl⟩ := h
  rw [List.take_succ_eq_append_getElem hk]
theorem ex1_step (p : Int) {l : List Con} {k : Nat} {c : Con} (h : l[k]? = some c) : ex1 p (l.take (k + 1)) = ex1 p (l.take k) + (c.dim * (pw p c.exp - 1) + four c) := by
  rw [take_snoc h, ex1_append]; simp [ex1]
theorem ex2_step (p : Int) {l : List Con} {k : Nat} {c : Con} (h : l[k]? = some c) : ex2 p (l.take (k + 1)) = ex2 p (l.take k) + (c.dim * (pw p c.exp + 7) + four c) := by
  rw [take_snoc h, ex2_append]; simp [ex2]
theorem ex_same (p : Int) (l : List Con) : ex1 p l % 8 = ex2 p l % 8 := by
  induction l with
  | nil => rfl
  | cons c l ih =>
    simp only [ex1, ex2]
    have : c.dim * (pw p c.exp + 7) = c.dim * (pw p c.exp - 1) + 8 * c.dim := by
      rw [Int.mul_add, Int.mul_sub]; omega
    omega

/-- What a valid list's constituents are. -/
def Con.good (c : Con) : Prop := 0 ≤ c.exp ∧ c.exp ≤ 60 ∧ 1 ≤ c.dim ∧ c.dim ≤ 8 ∧ (c.sign = 1 ∨ c.sign = -1) ∧ c.odd = false ∧ c.oddity = 0
theorem vL_good : ∀ {l : List Con} {s last : Int}, 0 ≤ s → -1 ≤ last → vL l s last = true → ∀ c ∈ l, c.good
  | [], _, _, _, _, _, c, hc => by cases hc
  | x :: l, s, last, h0, h1, h, c, hc => by
    simp only [vL, Bool.and_eq_true, vc, decide_eq_true_eq] at h
    obtain ⟨⟨a1, a2, a3, a4, a5, a6, a7⟩, h2⟩ := h
    rcases List.mem_cons.1 hc with rfl | hc
    · exact ⟨by omega, a2, a3, by omega, a5, a6, a7⟩
    · exact vL_good (by omega) (by omega) h2 c hc
theorem vL_len : ∀ {l : List Con} {s last : Int}, s ≤ 8 → vL l s last = true → (l.length : Int) ≤ 8 - s
  | [], _, _, _, _ => by simp; omega
  | x :: l, s, last, h0, h => by
    simp only [vL, Bool.and_eq_true, vc, decide_eq_true_eq] at h
    obtain ⟨⟨a1, a2, a3, a4, _⟩, h2⟩ := h
    have := vL_len (by omega) h2
    simp; omega
theorem vS_parts {p : Int} {l : List Con} (h : vS p l = true) : 2 < p ∧ p ≤ 9973 ∧ isP p = true ∧ l ≠ [] ∧ vL l 0 (-1) = true := by
  simp only [vS, Bool.and_eq_true, decide_eq_true_eq, Bool.not_eq_true'] at h
  obtain ⟨⟨⟨⟨h1, h2⟩, h3⟩, h4⟩, h5⟩ := h
  exact ⟨h1, h2, h3, (by intro e; rw [e] at h4; cases h4), h5⟩
theorem isP_odd {p : Int} (h : isP p = true) (h2 : 2 < p) : p % 2 = 1 := by
  rcases Int.emod_two_eq p with h0 | h0
  · rw [isP_div (d := 2) (by omega) (by omega) h0] at h; cases h
  · exact h0
theorem term1 {c : Con} {p : Int} (hc : c.good) (hp : p % 2 = 1) : 0 ≤ c.dim * (pw p c.exp - 1) ∧ c.dim * (pw p c.exp - 1) ≤ 48 := by
  obtain ⟨_, _, a3, a4, _⟩ := hc
  have := pw_pos hp c.exp
  have := (pw_bounds p c.exp).2
  exact ⟨Int.mul_nonneg (by omega) (by omega), by
    have := Int.mul_le_mul (a := c.dim) (b := pw p c.exp - 1) (c := 8) (d := 6) (by omega) (by omega) (by omega) (by omega)
    omega⟩
theorem term2 {c : Con} {p : Int} (hc : c.good) : 0 ≤ c.dim * (pw p c.exp + 7) ∧ c.dim * (pw p c.exp + 7) ≤ 112 := by
  obtain ⟨_, _, a3, a4, _⟩ := hc
  have := (pw_bounds p c.exp)
  exact ⟨Int.mul_nonneg (by omega) (by omega), by
    have := Int.mul_le_mul (a := c.dim) (b := pw p c.exp + 7) (c := 8) (d := 14) (by omega) (by omega) (by omega) (by omega)
    omega⟩
theorem four_bounds (c : Con) : 0 ≤ four c ∧ four c ≤ 4 := by unfold four; split <;> omega
end Go.Proofs.YtbjfdfjmclggkaaGreatDoor.Q

/- quadformref22.Mod, ModPow; symbol.Excess; quadformref26.Excess. -/
namespace Go.Proofs.YtbjfdfjmclggkaaGreatDoor.Q
open Go.RowKit

theorem ret_ie {a b c : Int} (h : a = b) : Ending.returned (.tuple #[.int .i64 a, .int .i64 c]) = .returned (.tuple #[.int .i64 b, .int .i64 c]) := by rw [h]
theorem quiet_left {P : Program} {f : FuncId} {args : Array Value} {w : World} {n : Nat} {v : Value}
    (h : Calls P f args (w.drewN n) fun e w' => e = .returned v ∧ w.drewN n = w') : Calls P f args (w.drewN n) fun e w'' => e = .returned v ∧ ∃ m, w'' = w.drewN m :=
  h.mono fun _ _ ⟨he, hm⟩ => ⟨he, n, hm.symm⟩
theorem pw_step {p : Int} {j : Int} (h0 : 0 ≤ j) : pw p (j + 1) = pw p j * (p % 8) % 8 := by
  unfold pw
  have : (j + 1).toNat = j.toNat + 1 := by omega
  rw [this, Int.pow_succ, Int.mul_emod]

set_option maxHeartbeats 4000000 in
theorem excess_cons (p : Int) (l : List Con) (n b o cap : Nat) (w : World) (hw : Hid (Offs w)) (hn : Hid (l.length = n)) (hn0 : 0 < n) (hn1 : n ≤ 1000) (hb : b < w.heap.size) (hcp : n ≤ cap) (hc : Hid (∀ i c, l[i]? = some c → ConAt w b (o + i * 5) c))
    (hp0 : 2 < p) (hp1 : p ≤ 9973) (hpo : Hid (p % 2 = 1)) (hg : Hid (∀ c ∈ l, c.good)) (hv : Hid (∀ W, Offs W → Lst W (.slice (some ⟨b, o, none⟩) n cap) l → Calls Tryz.prog 10 #[.agg #[.int .i64 p, .slice (some ⟨b, o, none⟩) n cap]] W fun e w' => e = .returned (.bool true) ∧ Below W.heap.size W w')) :
    Calls Tryz.prog 14 #[.agg #[.int .i64 p, .slice (some ⟨b, o, none⟩) n cap]] w fun e w' => e = .returned (.tuple #[.int .i64 (ex1 p l % 8), .int .i64 0]) ∧ Below w.heap.size w w' := by
  have hvc := Lib.hid (hv.out (w.alloc (.cells #[.int .i64 p, .slice (some ⟨b, o, none⟩) n cap] 24)) (hw.out.alloc _) (.inr ⟨by have := hn.out; intro e; subst e; simp at this; omega, b, o, cap, by rw [hn.out], by simp; omega, by rw [hn.out]; exact hcp, fun i c hi => (hc.out i c hi).below ((Below.refl w.heap.size w).alloc (Nat.le_refl _) _) hb⟩))
  have HR := Lib.hid (show ex1 p (l.take n) = ex1 p l by rw [List.take_of_length_le (by rw [hn.out]; omega)])
  generalize ex1 p l = R at HR ⊢
  clear hv hw
  go_enter Tryz.func14, Tryz.ntmps14
  go_wp2_with (go_at_call 10; refine hvc.out.mono ?_; rintro e w1 ⟨rfl, hb1⟩; obtain ⟨hc1, hf1⟩ := bcell hb1; have hz1 := hb1.size; simp at hz1)
  have hx0 : w1.cell? ⟨w.heap.size, 0, none⟩ = some (.int .i64 p) := by rw [hc1 _ _ (by simp)]; simp [go_sem]
  have hb2 : Below (w.heap.size) w w1 := ((Below.refl _ _).alloc (Nat.le_refl _) _).trans (hb1.mono (by simp))
  clear hvc hc1 hf1
  go_loopw [4, 14] (fun s i wr => ∃ (k : Nat) (S : Int), k ≤ n ∧ 0 ≤ S ∧ S ≤ 100 * k ∧ s = .int .i64 S ∧ i = .int .i64 k ∧ Hid (ex1 p (l.take k) = S) ∧ wr.cell? ⟨w.heap.size, 0, none⟩ = some (.int .i64 p) ∧ Below w.heap.size w wr ∧ w.heap.size < wr.heap.size) (fun _ i _ => (n - (intOf i).toNat))
  case atStart => exact ⟨0, 0, by omega, by omega, by omega, rfl, rfl, by simp [ex1]; exact trivial, hx0, hb2, by omega⟩
  case round =>
    obtain ⟨k, S, hk, hS0, hS1, rfl, rfl, hv, hx, hbe, hbs⟩ := hrel
    clear hb1 hb2 hz1 hx0 w1
    by_cases hlt : k < n
    · obtain ⟨c, hkc⟩ : ∃ c, l[k]? = some c := ⟨l[k]'(by rw [hn.out]; exact hlt), List.getElem?_eq_getElem _⟩
      obtain ⟨g0, g1, g2, g3, g4⟩ := (hc.out k c hkc).below hbe hb
      have hgc := hg.out c (List.mem_of_getElem? hkc)
      have ⟨t1, t2⟩ := term1 hgc hpo.out
      have hst := Lib.hid (ex1_step p hkc)
      obtain ⟨e0, e1, d0, d1, -⟩ := hgc
      have hQ0 := Lib.hid (show ∀ J : Int, 0 ≤ J → pw p (J + 1) = pw p J * (p % 8) % 8 from fun J hJ => pw_step hJ)
      have hQ1 := Lib.hid (fun J : Int => pw_pos hpo.out J)
      have hQ2 := Lib.hid (fun J : Int => (pw_bounds p J).2)
      generalize hQQ : pw p c.exp = Q at t1 t2 hst
      have hQQ' := Lib.hid hQQ
      have hQ3 : 1 ≤ Q := hQQ ▸ hQ1.out c.exp
      have hQ4 : Q ≤ 7 := hQQ ▸ hQ2.out c.exp
      have hv' := Lib.hid hv.out
      clear hQQ hv
      go_wp2
      go_hide hQ
      go_loop [7, 20] (fun a i => ∃ J A : Int, 0 ≤ J ∧ J ≤ c.exp ∧ 1 ≤ A ∧ A ≤ 7 ∧ a = .int .i64 A ∧ i = .int .i64 J ∧ Hid (pw p J = A)) (fun _ i => (c.exp - intOf i).toNat)
      case atStart => exact ⟨0, 1, by omega, by omega, by omega, by omega, rfl, rfl, by simp [pw]; exact trivial⟩
      case round =>
        obtain ⟨J, A, hJ0, hJ1, hA0, hA1, rfl, rfl, hA⟩ := hrel
        by_cases hJ : J < c.exp
        · have hs := Lib.hid ((hQ0.out J hJ0).trans (by rw [hA.out]))
          have hs1 := hQ1.out (J + 1)
          have hs2 := hQ2.out (J + 1)
          rw [hs.out] at hs1 hs2
          have p0 : 0 ≤ p % 8 := by omega
          have p1 : p % 8 ≤ 7 := by omega
          have m0 : 0 ≤ A * (p % 8) := Int.mul_nonneg (by omega) p0
          have m1 : A * (p % 8) ≤ 7 * 7 := Int.mul_le_mul hA1 p1 p0 (by omega)
          go_wp2
          go_round
          case rel => exact ⟨J + 1, A * (p % 8) % 8, by omega, by omega, by omega, by omega, rfl, rfl, hs⟩
          case measure => simp [intOf]; omega
        · obtain rfl : J = c.exp := by omega
          obtain rfl : A = Q := by rw [← hA.out, hQQ'.out]
          by_cases ho : c.exp % 2 = 1
          · have ho' : (c.exp % 2 == 1) = true := by simpa using ho
            by_cases hs : c.sign = -1
            · have hs' : (c.sign == -1) = true := by simpa using hs
              have hF : Hid (four c = 4) := by unfold four; exact if_pos ⟨ho, hs⟩
              clear ho hs
              go_wp2
              subst hQ
              go_wp2
              go_roundw
              case rel =>
                have hst' := hst.out
                rw [hF.out, hv'.out] at hst'
                refine ⟨k + 1, _, by omega, ?_, ?_, rfl, by go_num, hst'.trans (by omega), ?_, ?_, ?_⟩
                · omega
                · omega
                · simp [go_sem, hbs, hx]
                · repeat (first | exact hbe | refine Below.alloc ?_ (by first | omega | (simp; omega)) _ | refine Below.setCell ?_ (by first | omega | (simp; omega)) _)
                · simp; omega
              case measure => simp [intOf]; omega
            · have hs' : (c.sign == -1) = false := by simpa using hs
              have hF : Hid (four c = 0) := by unfold four; exact if_neg (fun h => hs h.2)
              clear ho hs
              go_wp2
              subst hQ
              go_wp2
              go_roundw
              case rel =>
                have hst' := hst.out
                rw [hF.out, hv'.out] at hst'
                refine ⟨k + 1, _, by omega, ?_, ?_, rfl, by go_num, hst'.trans (by omega), ?_, ?_, ?_⟩
                · omega
                · omega
                · simp [go_sem, hbs, hx]
                · repeat (first | exact hbe | refine Below.alloc ?_ (by first | omega | (simp; omega)) _ | refine Below.setCell ?_ (by first | omega | (simp; omega)) _)
                · simp; omega
              case measure => simp [intOf]; omega
          · have ho' : (c.exp % 2 == 1) = false := by simpa using ho
            have hF : Hid (four c = 0) := by unfold four; exact if_neg (fun h => ho h.1)
            clear ho
            go_wp2
            subst hQ
            go_wp2
            go_roundw
            case rel =>
              have hst' := hst.out
              rw [hF.out, hv'.out] at hst'
              refine ⟨k + 1, _, by omega, ?_, ?_, rfl, by go_num, hst'.trans (by omega), ?_, ?_, ?_⟩
              · omega
              · omega
              · simp [go_sem, hbs, hx]
              · repeat (first | exact hbe | refine Below.alloc ?_ (by first | omega | (simp; omega)) _ | refine Below.setCell ?_ (by first | omega | (simp; omega)) _)
              · simp; omega
            case measure => simp [intOf]; omega
    · have hr' := hv.out
      obtain rfl : k = n := by omega
      rw [HR.out] at hr'
      have hr'' := Lib.hid hr'
      clear hr' hv
      go_wp2
      go_ret2
      exact ⟨ret_ie (by rw [hr''.out]), hbe⟩

theorem excess_no (p : Int) (v : Value) (w : World) (hv : Hid (∀ u, Calls Tryz.prog 10 #[.agg #[.int .i64 p, v]] (w.alloc (.cells #[.int .i64 p, v] u)) fun e w' => e = .returned (.bool false) ∧ Below (w.alloc (.cells #[.int .i64 p, v] u)).heap.size (w.alloc (.cells #[.int .i64 p, v] u)) w')) :
    Calls Tryz.prog 14 #[.agg #[.int .i64 p, v]] w fun e w' => e = .returned (.tuple #[.int .i64 0, .int .i64 22]) ∧ Below w.heap.size w w' := by
  go_enter Tryz.func14, Tryz.ntmps14
  go_wp2_with (go_at_call 10; refine (hv.out _).mono ?_; rintro e w1 ⟨rfl, hb1⟩)
  go_ret2
  exact ⟨rfl, ((Below.refl _ _).alloc (Nat.le_refl _) _).trans (hb1.mono (by simp))⟩

end Go.Proofs.YtbjfdfjmclggkaaGreatDoor.Q

/- quadformscene.constituent for an odd prime. -/
namespace Go.Proofs.YtbjfdfjmclggkaaGreatDoor.Q
open Go.RowKit

/-- The constituent that five bytes stand for. -/
def mkCon (x1 x2 exp room : Int) : Con := ⟨exp, 1 + x1 % min 3 room, 1 - 2 * (x2 % 2), false, 0⟩

set_option maxHeartbeats 4000000 in
theorem constituent_calls (x0 x1 x2 x3 x4 exp room : Int) (w : World) (h1 : 0 ≤ x1) (h1' : x1 ≤ 255) (h2 : 0 ≤ x2) (h2' : x2 ≤ 255) (_ : 0 ≤ exp) (_ : exp ≤ 1000) (hr : 1 ≤ room) (hr' : room ≤ 8) :
    Calls Tryz.prog 54 #[.agg #[.int .u8 x0, .int .u8 x1, .int .u8 x2, .int .u8 x3, .int .u8 x4], .int .i64 exp, .int .i64 room, .bool false] w fun e w' => e = .returned (mkCon x1 x2 exp room).agg ∧ Below w.heap.size w w' := by
  by_cases h3 : 3 ≤ room
  · have hmin : min 3 room = 3 := by omega
    have HC := Lib.hid (show mkCon x1 x2 exp room = ⟨exp, 1 + x1 % 3, 1 - 2 * (x2 % 2), false, 0⟩ by simp [mkCon, hmin])
    clear hmin
    generalize mkCon x1 x2 exp room = c at HC ⊢
    go_enter Tryz.func54, Tryz.ntmps54
    go_wp2
    go_big_region
    go_wp2
    refine bodyPost_ret (v := c.agg) (by rw [HC.out]; simp [results, Tryz.results54, go_sem, Con.agg]) rfl ⟨rfl, ?_⟩
    repeat (first | exact Below.refl _ _ | refine below_drewN ?_ _ | refine Below.alloc ?_ (by first | omega | (simp; done) | (simp; omega)) _ | refine Below.setCell ?_ (by first | omega | (simp; done) | (simp; omega)) _)
  have h12 : room = 1 ∨ room = 2 := by omega
  rcases h12 with rfl | rfl
  · have HC := Lib.hid (show mkCon x1 x2 exp 1 = ⟨exp, 1, 1 - 2 * (x2 % 2), false, 0⟩ by have e : min (3 : Int) 1 = 1 := by decide
                                                                                         simp [mkCon, e])
    generalize mkCon x1 x2 exp 1 = c at HC ⊢
    go_enter Tryz.func54, Tryz.ntmps54
    go_wp2
    go_big_region
    go_wp2
    refine bodyPost_ret (v := c.agg) (by rw [HC.out]; simp [results, Tryz.results54, go_sem, Con.agg]) rfl ⟨rfl, ?_⟩
    repeat (first | exact Below.refl _ _ | refine below_drewN ?_ _ | refine Below.alloc ?_ (by first | omega | (simp; done) | (simp; omega)) _ | refine Below.setCell ?_ (by first | omega | (simp; done) | (simp; omega)) _)
  · have HC := Lib.hid (show mkCon x1 x2 exp 2 = ⟨exp, 1 + x1 % 2, 1 - 2 * (x2 % 2), false, 0⟩ by have e : min (3 : Int) 2 = 2 := by decide
                                                                                                  simp [mkCon, e])
    generalize mkCon x1 x2 exp 2 = c at HC ⊢
    go_enter Tryz.func54, Tryz.ntmps54
    go_wp2
    go_big_region
    go_wp2
    refine bodyPost_ret (v := c.agg) (by rw [HC.out]; simp [results, Tryz.results54, go_sem, Con.agg]) rfl ⟨rfl, ?_⟩
    repeat (first | exact Below.refl _ _ | refine below_drewN ?_ _ | refine Below.alloc ?_ (by first | omega | (simp; done) | (simp; omega)) _ | refine Below.setCell ?_ (by first | omega | (simp; done) | (simp; omega)) _)

theorem mkCon_good {x1 x2 exp room : Int} (hr : 1 ≤ room) : (mkCon x1 x2 exp room).exp = exp ∧ 1 ≤ (mkCon x1 x2 exp room).dim ∧ (mkCon x1 x2 exp room).dim ≤ room ∧ ((mkCon x1 x2 exp room).sign = 1 ∨ (mkCon x1 x2 exp room).sign = -1) ∧ (mkCon x1 x2 exp room).odd = false ∧ (mkCon x1 x2 exp room).oddity = 0 := by
  have hm : 1 ≤ min 3 room ∧ min 3 room ≤ room := by omega
  have hx : 0 ≤ x1 % min 3 room ∧ x1 % min 3 room < min 3 room := ⟨Int.emod_nonneg _ (by omega), Int.emod_lt_of_pos _ (by omega)⟩
  refine ⟨rfl, ?_, ?_, ?_, rfl, rfl⟩ <;> simp only [mkCon] <;> omega
end Go.Proofs.YtbjfdfjmclggkaaGreatDoor.Q

/- quadformscene.Symbol.list for an odd prime. -/
namespace Go.Proofs.YtbjfdfjmclggkaaGreatDoor.Q
open Go.RowKit

/-- Five bytes of block b from o. -/
structure PartAt (w : World) (b o : Nat) (x0 x1 x2 x3 x4 : Int) : Prop where
  c0 : w.cell? ⟨b, o, none⟩ = some (.int .u8 x0)
  c1 : w.cell? ⟨b, o + 1, none⟩ = some (.int .u8 x1)
  c2 : w.cell? ⟨b, o + 2, none⟩ = some (.int .u8 x2)
  c3 : w.cell? ⟨b, o + 3, none⟩ = some (.int .u8 x3)
  c4 : w.cell? ⟨b, o + 4, none⟩ = some (.int .u8 x4)
  b0 : 0 ≤ x0 ∧ x0 ≤ 255
  b1 : 0 ≤ x1 ∧ x1 ≤ 255
  b2 : 0 ≤ x2 ∧ x2 ≤ 255
  b3 : 0 ≤ x3 ∧ x3 ≤ 255
  b4 : 0 ≤ x4 ∧ x4 ≤ 255

theorem PartAt.below {w w' : World} {b o n : Nat} {x0 x1 x2 x3 x4 : Int} (h : PartAt w b o x0 x1 x2 x3 x4) (hb : Below n w w') (hl : b < n) : PartAt w' b o x0 x1 x2 x3 x4 :=
  ⟨(hb.cell (p := ⟨b, _, none⟩) hl).trans h.c0, (hb.cell (p := ⟨b, _, none⟩) hl).trans h.c1, (hb.cell (p := ⟨b, _, none⟩) hl).trans h.c2, (hb.cell (p := ⟨b, _, none⟩) hl).trans h.c3, (hb.cell (p := ⟨b, _, none⟩) hl).trans h.c4, h.b0, h.b1, h.b2, h.b3, h.b4⟩

/-- The slice value v holds n parts. -/
def Prts (w : World) (v : Value) (n : Nat) : Prop :=
  ∃ a cap, v = .slice a n cap ∧ (0 < n → ∃ b o, a = some ⟨b, o, none⟩ ∧ b < w.heap.size ∧ ∀ i, i < n → ∃ x0 x1 x2 x3 x4, PartAt w b (o + i * 5) x0 x1 x2 x3 x4)

def Con.vals (c : Con) : List Value := [.int .i64 c.exp, .int .i64 c.dim, .int .i64 c.sign, .bool c.odd, .int .i64 c.oddity]
def flat : List Con → List Value
  | [] => []
  | c :: l => c.vals ++ flat l
theorem flat_append (a b : List Con) : flat (a ++ b) = flat a ++ flat b := by
  induction a with
  | nil => rfl
  | cons c a ih => simp [flat, ih]
theorem flat_length (l : List Con) : (flat l).length = l.length * 5 := by
  induction l with
  | nil => rfl
  | cons c l ih => simp [flat, Con.vals, ih]; omega
theorem flat_at : ∀ {l : List Con} {i : Nat} {c : Con}, l[i]? = some c → ∀ j u, c.vals[j]? = some u → (flat l)[i * 5 + j]? = some u
  | [], i, c, h, _, _, _ => by simp at h
  | x :: l, 0, c, h, j, u, hu => by
    simp at h
    subst h
    simp only [flat, Nat.zero_mul, Nat.zero_add]
    rw [List.getElem?_append_left (by have := (List.getElem?_eq_some_iff.1 hu).1; exact this)]
    exact hu
  | x :: l, i + 1, c, h, j, u, hu => by
    simp only [List.getElem?_cons_succ] at h
    simp only [flat]
    rw [List.getElem?_append_right (by simp [Con.vals]; omega)]
    have e : (i + 1) * 5 + j - x.vals.length = i * 5 + j := by simp [Con.vals]; omega
    rw [e]
    exact flat_at h j u hu

theorem ownsRow_below {w w' : World} {base : Nat} {e : TypeId} {size : Nat} {v : Value} {n : Nat} {xs : List Value} (h : w.ownsRow base e size v n xs) (hb : Below w.heap.size w w') : w'.ownsRow base e size v n xs := by
  obtain ⟨h1, h2⟩ := h
  refine ⟨h1, ?_⟩
  rcases h2 with h2 | ⟨g, cap, cur, a, b, c, d⟩
  · exact .inl h2
  · refine .inr ⟨g, cap, cur, a, b, ?_, d⟩
    have hlt : g < w.heap.size := by
      rcases Nat.lt_or_ge g w.heap.size with hl | hl
      · exact hl
      · rw [Array.getElem?_eq_none hl] at c; cases c
    rw [hb.block g hlt]; exact c

/-- An own row of constituents is a list. -/
theorem lst_of_own {w : World} {base : Nat} {e : TypeId} {v : Value} {l : List Con} (h : w.ownsRow base e 5 v l.length (flat l)) : Lst w v l := by
  rcases h.2 with ⟨h1, h2⟩ | ⟨g, cap, cur, h1, h2, h3, h4, h5, h6, h7⟩
  · exact .inl ⟨List.length_eq_zero_iff.1 h2, none, 0, h1⟩
  · by_cases hl : l = []
    · subst hl; exact .inl ⟨rfl, _, _, h1⟩
    · have hlt : g < w.heap.size := (h.lt g (by rw [h1]; rfl)).2
      refine .inr ⟨hl, g, 0, cap, h1, hlt, h4, fun i c hi => ?_⟩
      have hcell : ∀ j u, c.vals[j]? = some u → w.cell? ⟨g, 0 + i * 5 + j, none⟩ = some u := fun j u hu => by
        have := h.cells (g := g) (by rw [h1]; rfl) (i * 5 + j) u (flat_at hi j u hu)
        rw [addr_add] at this
        rw [Nat.zero_add] at this ⊢
        exact this
      exact ⟨hcell 0 _ rfl, hcell 1 _ rfl, hcell 2 _ rfl, hcell 3 _ rfl, hcell 4 _ rfl⟩

theorem info74 : (Tryz.prog.info? 50).map (fun i => (i.zero, i.size, i.bytes)) = some (some (.agg #[.int .i64 0, .int .i64 0, .int .i64 0, .bool false, .int .i64 0]), 5, 40) := by kernel_rfl
theorem info_parts74 : ∃ i0, Tryz.prog.info? 50 = some i0 ∧ i0.zero = some (.agg #[.int .i64 0, .int .i64 0, .int .i64 0, .bool false, .int .i64 0]) ∧ i0.size = 5 ∧ i0.bytes = 40 := by
  have h := info74
  cases hi : Tryz.prog.info? 50 with
  | none => rw [hi] at h; cases h
  | some i =>
    rw [hi] at h
    simp only [Option.map_some, Option.some.injEq, Prod.mk.injEq] at h
    exact ⟨i, rfl, h.1, h.2.1, h.2.2⟩
theorem cell_five_new (w : World) (c : Con) (t : TypeId) : ∀ j u, c.vals[j]? = some u → (w.alloc (.cells #[.int .i64 c.exp, .int .i64 c.dim, .int .i64 c.sign, .bool c.odd, .int .i64 c.oddity] t)).cell? ((⟨w.heap.size, 0, none⟩ : Addr).add j) = some u := by
  intro j u hj
  match j, hj with
  | 0, hj => simp [Con.vals] at hj; subst hj; simp [Addr.add]
  | 1, hj => simp [Con.vals] at hj; subst hj; simp [Addr.add]
  | 2, hj => simp [Con.vals] at hj; subst hj; simp [Addr.add]
  | 3, hj => simp [Con.vals] at hj; subst hj; simp [Addr.add]
  | 4, hj => simp [Con.vals] at hj; subst hj; simp [Addr.add]
  | j + 5, hj => simp [Con.vals] at hj

def dims : List Con → Int
  | [] => 0
  | c :: l => c.dim + dims l
theorem dims_append (a b : List Con) : dims (a ++ b) = dims a + dims b := by
  induction a with
  | nil => simp [dims]
  | cons c a ih => simp only [List.cons_append, dims, ih]; omega

/-- What the loop of list keeps. -/
structure Grows (l : List Con) (D E : Int) : Prop where
  ok : ∀ r, vL (l ++ r) 0 (-1) = vL r D E
  sum : dims l = D
  len : l.length ≤ D
  top : ∀ c ∈ l, c.exp ≤ E
  exl : E ≤ 3 * l.length - 1
theorem Grows.nil : Grows [] 0 (-1) := ⟨fun _ => rfl, rfl, by simp, by simp, by simp⟩
theorem Grows.snoc {l : List Con} {D E : Int} {c : Con} (h : Grows l D E) (h1 : E < c.exp) (h2 : c.exp ≤ 60) (h3 : 1 ≤ c.dim) (h4 : c.dim ≤ 8 - D) (h5 : c.sign = 1 ∨ c.sign = -1) (h6 : c.odd = false) (h7 : c.oddity = 0) (h8 : c.exp ≤ E + 3) : Grows (l ++ [c]) (D + c.dim) c.exp := by
  refine ⟨fun r => ?_, ?_, ?_, ?_, ?_⟩
  · rw [List.append_assoc, h.ok]
    simp [vL, vc, h1, h2, h3, h4, h5, h6, h7]
  · rw [dims_append, h.sum]; simp [dims]
  · have := h.len; simp; omega
  · intro x hx
    rcases List.mem_append.1 hx with hx | hx
    · have := h.top x hx; omega
    · simp at hx; subst hx; omega
  · have := h.exl; simp; omega
theorem Grows.valid {l : List Con} {D E : Int} (h : Grows l D E) : vL l 0 (-1) = true := by
  have := h.ok []
  simpa [vL] using this

/-- What list returns. -/
structure Listed (base : Nat) (w : World) (v : Value) (most : Int) (l : List Con) : Prop where
  lst : Lst w v l
  far : ∀ k, v.ownBlock = some k → base ≤ k
  ok : vL l 0 (-1) = true
  ne : l ≠ []
  sum : dims l ≤ most
  top : ∀ c ∈ l, c.exp ≤ 23
theorem Grows.top23 {l : List Con} {D E most : Int} (h : Grows l D E) (h1 : D ≤ most) (h2 : most ≤ 8) : ∀ c ∈ l, c.exp ≤ 23 := by
  intro c hc
  have := h.top c hc
  have := h.exl
  have := h.len
  omega

set_option maxRecDepth 100000 in
set_option maxHeartbeats 4000000 in
theorem list_pos (xp most : Int) (n b o cap : Nat) (w : World) (hm : 1 ≤ most) (hm' : most ≤ 8) (hn0 : 0 < n) (hn1 : n ≤ 20) (hb : b < w.heap.size) (hp : Hid (∀ i, i < n → ∃ x0 x1 x2 x3 x4, PartAt w b (o + i * 5) x0 x1 x2 x3 x4)) :
    Calls Tryz.prog 27 #[.agg #[.int .u8 xp, .slice (some ⟨b, o, none⟩) n cap], .int .i64 most, .bool false] w fun e w' => ∃ v l, e = .returned v ∧ Listed w.heap.size w' v most l ∧ Below w.heap.size w w' := by
  obtain ⟨i0, hi, hz0, hz1, hz2⟩ := info_parts74
  have hi' := Lib.hid hi
  have hz0' := Lib.hid hz0
  have hz1' := Lib.hid hz1
  have hz2' := Lib.hid hz2
  clear hi hz0 hz1 hz2
  go_enter Tryz.func27, Tryz.ntmps27
  go_wp2
  go_loopw [7, 8, 9, 16] (fun v e d i wr => ∃ (k : Nat) (E D : Int) (l : List Con), k ≤ n ∧ -1 ≤ E ∧ E ≤ 3 * k - 1 ∧ 0 ≤ D ∧ D ≤ most ∧ l.length ≤ 20 ∧ (0 < k → 0 < D) ∧ e = .int .i64 E ∧ d = .int .i64 D ∧ i = .int .i64 k ∧ Hid (Grows l D E) ∧ Hid (wr.ownsRow (w.heap.size + 1) 50 5 v l.length (flat l)) ∧ Below w.heap.size w wr ∧ w.heap.size < wr.heap.size) (fun _ _ _ i _ => (n - (intOf i).toNat))
  case atStart => exact ⟨0, -1, 0, [], by omega, by omega, by omega, by omega, by omega, by simp, by omega, rfl, rfl, rfl, Grows.nil, World.ownsRow_nil _ _ _ _, (Below.refl _ _).alloc (Nat.le_refl _) _, by simp⟩
  case round =>
    obtain ⟨k, E, D, l, hk, hE0, hE1, hD0, hD1, hl, hkD, rfl, rfl, rfl, hG, hown, hbe, hbs⟩ := hrel
    by_cases hlt : k < n
    · obtain ⟨x0, x1, x2, x3, x4, hx⟩ := hp.out k hlt
      obtain ⟨g0, g1, g2, g3, g4, b0, b1, b2, -, -⟩ := hx.below hbe hb
      by_cases hD : most ≤ D
      · have hne : Hid (l ≠ []) := fun e => by have := hG.out.sum; rw [e] at this; simp [dims] at this; omega
        go_wp2
        go_ret
        exact ⟨_, l, rfl, ⟨lst_of_own (hown.out.alloc _), fun k hk => by have := (hown.out.lt k hk).1; omega, hG.out.valid, hne.out, by rw [hG.out.sum]; exact hD1, hG.out.top23 hD1 hm'⟩, hbe.alloc (by omega) _⟩
      · have hcall := Lib.hid (fun W => constituent_calls x0 x1 x2 x3 x4 (E + (1 + x0 % 4 % 3)) (most - D) W b1.1 b1.2 b2.1 b2.2 (by omega) (by omega) (by omega) (by omega))
        obtain ⟨c1, c2, c3, c4, c5, c6⟩ := mkCon_good (x1 := x1) (x2 := x2) (exp := E + (1 + x0 % 4 % 3)) (room := most - D) (by omega)
        generalize mkCon x1 x2 (E + (1 + x0 % 4 % 3)) (most - D) = c at hcall c1 c2 c3 c4 c5 c6
        have hcc := Lib.hid (And.intro c1 (And.intro c4 (And.intro c5 c6)))
        clear c1 c4 c5 c6
        unfold Con.agg at hcall
        go_wp2_with (first
          | (go_at_call 54; refine (hcall.out _).mono ?_; rintro e w1 ⟨rfl, hb1⟩; have hz1 := hb1.size; simp at hz1)
          | (at_builtin; refine wpList_append_own _ rfl _ _ 22 rfl (w.heap.size + 1) 50 i0 _ 5 40 Tryz.underlying22 hi'.out hz0'.out hz1'.out hz2'.out rfl (by decide) _ l.length (flat l) rfl (((ownsRow_below (hown.out.alloc _) hb1).alloc _).alloc _) ⟨w1.heap.size + 1, 0, none⟩ 1 1 c.vals rfl rfl ?_ (fun x hx => by simp [Con.vals] at hx; rcases hx with rfl | rfl | rfl | rfl | rfl <;> rfl) (by unfold maxLen; omega) (by omega) (by simp; omega) ?_
             · simpa using cell_five_new (w1.alloc _) c 50
             intro v' w3 hown' hgrow3 hnil3
             have hbw3 : Below w.heap.size w w3 := Below.grown (((((hbe.alloc (by omega) _).trans (hb1.mono (by simp; omega))).alloc (by omega) _).alloc (by simp; omega) _)) hgrow3 (by simp; omega) (fun j hj => by have := (hown.out.lt _ hj).1; omega)
             have hz3 := hgrow3.size
             simp at hz3
             have X : Hid (w3.ownsRow (w.heap.size + 1) 50 5 v' (l.length + 1) (flat l ++ c.vals) ∧ Below w.heap.size w w3) := ⟨hown', hbw3⟩
             clear hown' hgrow3 hnil3 hbw3))
        go_roundw
        case rel =>
          obtain ⟨c1, c4, c5, c6⟩ := hcc.out
          have hx : w3.ownsRow (w.heap.size + 1) 50 5 v' (l ++ [c]).length (flat (l ++ [c])) := by
            have := X.out.1
            rw [flat_append]
            simpa [flat] using this
          exact ⟨k + 1, c.exp, D + c.dim, l ++ [c], by omega, by omega, by omega, by omega, by omega, by have := hG.out.len; simp; omega, by omega, by rw [c1], rfl, by go_num, hG.out.snoc (by omega) (by omega) c2 (by omega) c4 c5 c6 (by omega), hx, X.out.2, by omega⟩
        case measure => simp [intOf]; omega
    · have hne : Hid (l ≠ []) := fun e => by have := hG.out.sum; rw [e] at this; simp [dims] at this; omega
      have hDp : 0 < D := hkD (by omega)
      go_wp2
      go_ret
      exact ⟨_, l, rfl, ⟨lst_of_own hown.out, fun k hk => by have := (hown.out.lt k hk).1; omega, hG.out.valid, hne.out, by rw [hG.out.sum]; exact hD1, hG.out.top23 hD1 hm'⟩, hbe⟩
end Go.Proofs.YtbjfdfjmclggkaaGreatDoor.Q

/- quadformscene.Symbol.list of no parts; OddPrime; Symbol.Local; either; long. -/
namespace Go.Proofs.YtbjfdfjmclggkaaGreatDoor.Q
open Go.RowKit

theorem con0 : mkCon 0 0 0 1 = ⟨0, 1, 1, false, 0⟩ := by decide

set_option maxRecDepth 100000 in
set_option maxHeartbeats 4000000 in
theorem list_zero (xp most : Int) (a : Option Addr) (cap : Nat) (w : World) (hm : 1 ≤ most) (_ : most ≤ 8) :
    Calls Tryz.prog 27 #[.agg #[.int .u8 xp, .slice a 0 cap], .int .i64 most, .bool false] w fun e w' => ∃ v l, e = .returned v ∧ Listed w.heap.size w' v most l ∧ Below w.heap.size w w' := by
  obtain ⟨i0, hi, hz0, hz1, hz2⟩ := info_parts74
  have hi' := Lib.hid hi
  have hz0' := Lib.hid hz0
  have hz1' := Lib.hid hz1
  have hz2' := Lib.hid hz2
  clear hi hz0 hz1 hz2
  have hcall := Lib.hid (fun W => constituent_calls 0 0 0 0 0 0 1 W (by omega) (by omega) (by omega) (by omega) (by omega) (by omega) (by omega) (by omega))
  have hc0 := con0
  generalize mkCon 0 0 0 1 = c at hcall hc0
  have hc0' := Lib.hid hc0
  clear hc0
  unfold Con.agg at hcall
  go_enter Tryz.func27, Tryz.ntmps27
  go_wp2
  go_loopw [7, 8, 9, 16] (fun v e d i wr => v = .slice none 0 0 ∧ e = .int .i64 (-1) ∧ d = .int .i64 0 ∧ i = .int .i64 0 ∧ wr = w.alloc (.cells #[.int .u8 xp, .slice a 0 cap] 27)) (fun _ _ _ _ _ => 0)
  case atStart => exact ⟨rfl, rfl, rfl, rfl, rfl⟩
  case round =>
    obtain ⟨rfl, rfl, rfl, rfl, rfl⟩ := hrel
    go_wp2_with (first
          | (go_at_call 54; refine (hcall.out _).mono ?_; rintro e w1 ⟨rfl, hb1⟩; have hz1 := hb1.size; simp at hz1)
          | (at_builtin; refine wpList_append_own _ rfl _ _ 22 rfl (w.heap.size + 1) 50 i0 _ 5 40 Tryz.underlying22 hi'.out hz0'.out hz1'.out hz2'.out rfl (by decide) _ 0 [] rfl (World.ownsRow_nil _ _ _ _) ⟨w1.heap.size, 0, none⟩ 1 1 c.vals rfl rfl ?_ (fun x hx => by simp [Con.vals] at hx; rcases hx with rfl | rfl | rfl | rfl | rfl <;> rfl) (by unfold maxLen; omega) (by omega) (by simp; omega) ?_
             · simpa using cell_five_new w1 c 50
             intro v' w3 hown' hgrow3 hnil3
             have hbw3 : Below w.heap.size w w3 := Below.grown ((((Below.refl _ _).alloc (Nat.le_refl _) _).trans (hb1.mono (by simp))).alloc (by omega) _) hgrow3 (by simp; omega) (fun j hj => by cases hj)
             have X : Hid (w3.ownsRow (w.heap.size + 1) 50 5 v' (0 + 1) ([] ++ c.vals) ∧ Below w.heap.size w w3) := ⟨hown', hbw3⟩
             clear hown' hgrow3 hnil3 hbw3))
    go_ret
    refine ⟨_, [c], rfl, ⟨lst_of_own (base := w.heap.size + 1) (e := 50) (by simpa [flat] using X.out.1), fun k hk => by have := (X.out.1.lt k hk).1; omega, ?_, by simp, ?_, ?_⟩, X.out.2⟩
    · rw [hc0'.out]; decide
    · rw [hc0'.out]; simp [dims]; omega
    · rw [hc0'.out]; simp

theorem list_calls (xp most : Int) (v : Value) (n : Nat) (w : World) (hm : 1 ≤ most) (hm' : most ≤ 8) (hv : Prts w v n) (hn : n ≤ 20) :
    Calls Tryz.prog 27 #[.agg #[.int .u8 xp, v], .int .i64 most, .bool false] w fun e w' => ∃ v l, e = .returned v ∧ Listed w.heap.size w' v most l ∧ Below w.heap.size w w' := by
  obtain ⟨a, cap, rfl, h⟩ := hv
  rcases Nat.eq_zero_or_pos n with rfl | h0
  · exact list_zero xp most a cap w hm hm'
  · obtain ⟨b, o, rfl, hb, hp⟩ := h h0
    exact list_pos xp most n b o cap w hm hm' h0 hn hb hp

def oddPr (k : Int) : Int := ([3, 5, 7, 11, 13, 17, 19, 23] : List Int).getD (k % 8).toNat 3

theorem oddPrime_calls (k : Int) (w : World) (h0 : 0 ≤ k) (h1 : k ≤ 255) : Calls Tryz.prog 26 #[.int .u8 k] w fun e w' => e = .returned (.int .i64 (oddPr k)) ∧ Below w.heap.size w w' := by
  have hk : k % 8 = 0 ∨ k % 8 = 1 ∨ k % 8 = 2 ∨ k % 8 = 3 ∨ k % 8 = 4 ∨ k % 8 = 5 ∨ k % 8 = 6 ∨ k % 8 = 7 := by omega
  rcases hk with h | h | h | h | h | h | h | h
  all_goals
    have HO := Lib.hid (show oddPr k = _ by unfold oddPr; rw [h])
    generalize oddPr k = r at HO ⊢
    go_enter Tryz.func26, Tryz.ntmps26
    go_wp2
    go_ret
    exact ⟨ret_i64 HO.out.symm, (Below.refl _ _).alloc (Nat.le_refl _) _⟩
end Go.Proofs.YtbjfdfjmclggkaaGreatDoor.Q

/- quadformref24.SameList, quadformref26.Same of equal lists. -/
namespace Go.Proofs.YtbjfdfjmclggkaaGreatDoor.Q
open Go.RowKit

theorem con_eql (c : Con) (w : World) : (binOp .neq 50 c.agg c.agg).run Tryz.prog w = .ok (.bool false) w := by
  have u3 := Tryz.underlying3
  have a3 := Tryz.isAgg3
  have z3 := Tryz.sizeOf3
  have u4 := Tryz.underlying4
  have a4 := Tryz.isAgg4
  have z4 := Tryz.sizeOf4
  have hS : Tryz.prog.underlying 50 = some (.struct (Tryz.prog.fieldsOf 50)) := by kernel_rfl
  have hp : Tryz.prog.stoodInHeld 50 = false := by kernel_rfl
  simp only [Con.agg]
  rw [run_neq_struct, show (10000 : Nat) = 9999 + 1 from rfl, run_equalIn_agg w 9999 50 _ _ hS hp]
  simp only [Program.fieldsOf, Tryz.underlying50]
  go_simp

set_option maxHeartbeats 4000000 in
theorem sameList_cons (l : List Con) (n b o cap b' o' cap' : Nat) (w : World) (hn : Hid (l.length = n)) (hn0 : 0 < n) (hn1 : n ≤ 1000) (hb : b < w.heap.size) (hb' : b' < w.heap.size)
    (hc : Hid (∀ i c, l[i]? = some c → ConAt w b (o + i * 5) c)) (hc' : Hid (∀ i c, l[i]? = some c → ConAt w b' (o' + i * 5) c)) :
    Calls Tryz.prog 32 #[.slice (some ⟨b, o, none⟩) n cap, .slice (some ⟨b', o', none⟩) n cap'] w fun e w' => e = .returned (.bool true) ∧ Below w.heap.size w w' := by
  go_enter Tryz.func32, Tryz.ntmps32
  go_wp2
  go_loopw [13] (fun i wr => ∃ (k : Nat), k ≤ n ∧ i = .int .i64 k ∧ Below w.heap.size w wr) (fun i _ => (n - (intOf i).toNat))
  case atStart => exact ⟨0, by omega, rfl, Below.refl _ _⟩
  case round =>
    obtain ⟨k, hk, rfl, hbe⟩ := hrel
    by_cases hlt : k < n
    · obtain ⟨c, hkc⟩ : ∃ c, l[k]? = some c := ⟨l[k]'(by rw [hn.out]; exact hlt), List.getElem?_eq_getElem _⟩
      obtain ⟨g0, g1, g2, g3, g4⟩ := (hc.out k c hkc).below hbe hb
      obtain ⟨f0, f1, f2, f3, f4⟩ := (hc'.out k c hkc).below hbe hb'
      have hix : (0 : Int) ≤ (k : Int) := by omega
      have hix' : (k : Int) < (n : Int) := by omega
      clear hkc
      have hneq := con_eql c
      unfold Con.agg at hneq
      go_wp2
      go_hide hQ
      go_quiet (fail)
      subst hQ
      go_wp2
      go_roundw
      case rel => exact ⟨k + 1, by omega, by go_num, below_drewN hbe _⟩
      case measure => simp [intOf]; omega
    · go_wp2
      go_ret
      exact ⟨rfl, hbe⟩
theorem sameList_nil (a a' : Option Addr) (cap cap' : Nat) (w : World) :
    Calls Tryz.prog 32 #[.slice a 0 cap, .slice a' 0 cap'] w fun e w' => e = .returned (.bool true) ∧ Below w.heap.size w w' := by
  go_enter Tryz.func32, Tryz.ntmps32
  go_wp2
  go_loopw [13] (fun i wr => i = .int .i64 0 ∧ wr = w) (fun _ _ => 0)
  case atStart => exact ⟨rfl, rfl⟩
  case round =>
    obtain ⟨rfl, rfl⟩ := hrel
    go_wp2
    go_ret
    exact ⟨rfl, Below.refl _ _⟩

theorem sameList_calls (l : List Con) (v v' : Value) (w : World) (h : Lst w v l) (h' : Lst w v' l) (hn : l.length ≤ 1000) :
    Calls Tryz.prog 32 #[v, v'] w fun e w' => e = .returned (.bool true) ∧ Below w.heap.size w w' := by
  rcases h with ⟨rfl, a, c, rfl⟩ | ⟨hne, b, o, cap, rfl, hb, hcp, hc⟩
  · rcases h' with ⟨_, a', c', rfl⟩ | ⟨hne, _⟩
    · exact sameList_nil a a' c c' w
    · exact absurd rfl hne
  · rcases h' with ⟨rfl, _⟩ | ⟨_, b', o', cap', rfl, hb', hcp', hc'⟩
    · exact absurd rfl hne
    · have hpos : 0 < l.length := by cases l; exact absurd rfl hne; simp
      exact sameList_cons l l.length b o cap b' o' cap' w rfl hpos hn hb hb' hc hc'

set_option maxRecDepth 100000 in
set_option maxHeartbeats 1000000 in
theorem same_calls (p : Int) (l : List Con) (a a' : Option Addr) (n n' c c' : Nat) (w : World) (h : Hid (Lst w (.slice a n c) l)) (h' : Hid (Lst w (.slice a' n' c') l)) (hn : Hid (l.length ≤ 1000)) :
    Calls Tryz.prog 15 #[.agg #[.int .i64 p, .slice a n c], .agg #[.int .i64 p, .slice a' n' c']] w fun e w' => e = .returned (.bool true) ∧ Below w.heap.size w w' := by
  have hcall := Lib.hid (fun (W : World) (hW : Below w.heap.size w W) => sameList_calls l (.slice a n c) (.slice a' n' c') W (h.out.below hW (Nat.le_refl _)) (h'.out.below hW (Nat.le_refl _)) hn.out)
  clear h h'
  go_enter Tryz.func15, Tryz.ntmps15
  go_wp2_with (go_at_call 32; refine (hcall.out _ ?_).mono ?_; (exact ((Below.refl _ _).alloc (Nat.le_refl _) _).alloc (by simp) _); rintro e w1 ⟨rfl, hb1⟩)
  go_ret
  exact ⟨rfl, (((Below.refl _ _).alloc (Nat.le_refl _) _).alloc (by simp) _).trans (hb1.mono (by simp; omega))⟩
end Go.Proofs.YtbjfdfjmclggkaaGreatDoor.Q

/- The old contracts as pure calls. -/
set_option linter.unusedSimpArgs false
set_option linter.unusedVariables false
namespace Go.Proofs.YtbjfdfjmclggkaaGreatDoor.S
open Go.QfSy Go.RowKit

def toQ (c : Con) : Q.Con := ⟨c.exp, c.dim, c.sign, c.odd, c.oddity⟩

theorem cell_of {F : Fz} {w : World} (hF : Vld F w) {B o : Nat} {v : Value} (h : FzAt F B o v) : w.cell? ⟨B, o, none⟩ = some v ∧ B < w.heap.size := by
  obtain ⟨cs, el, fr, h1, h2⟩ := h
  have h3 := hF _ _ h1
  refine ⟨?_, (Array.getElem?_eq_some_iff.1 h3).1⟩
  simp [World.cell?, h3, h2]

theorem rs5 {F : Fz} {c : Con} {Vs : List Value} (h : RsRel F c.rvs Vs) : Vs = [.int .i64 c.exp, .int .i64 c.dim, .int .i64 c.sign, .bool c.odd, .int .i64 c.oddity] := by
  unfold Con.rvs at h
  cases h with | cons h0 h => cases h with | cons h1 h => cases h with | cons h2 h => cases h with | cons h3 h => cases h with | cons h4 h =>
  cases h; cases h0; cases h1; cases h2; cases h3; cases h4
  rfl

theorem lst_of {F : Fz} {w : World} (hF : Vld F w) {L : List Con} {V : Value} (h : RRel F (roC L) V) : Q.Lst w V (L.map toQ) ∧ ∃ a n c, V = .slice a n c := by
  unfold roC at h
  cases h with
  | sl0 sz row a c hn =>
    have : L = [] := List.eq_nil_of_length_eq_zero hn
    subst this
    exact ⟨.inl ⟨rfl, a, c, rfl⟩, _, _, _, rfl⟩
  | @sl _ _ B o c _ cs hc hl hf h =>
    refine ⟨?_, _, _, _, rfl⟩
    cases L with
    | nil => exact .inl ⟨rfl, _, _, rfl⟩
    | cons c0 l =>
      have key : ∀ i, i < (c0 :: l).length → ∀ j v, ([.int .i64 ((c0 :: l).getD i Con.zero).exp, .int .i64 ((c0 :: l).getD i Con.zero).dim, .int .i64 ((c0 :: l).getD i Con.zero).sign, .bool ((c0 :: l).getD i Con.zero).odd, .int .i64 ((c0 :: l).getD i Con.zero).oddity] : List Value)[j]? = some v → w.cell? ⟨B, o + i * 5 + j, none⟩ = some v ∧ B < w.heap.size := by
        intro i hi j v hv
        have := rs5 (h i hi)
        exact cell_of hF (hf i j v hi (by rw [this]; exact hv))
      refine .inr ⟨by simp, B, o, c, by simp, (key 0 (by simp) 0 _ rfl).2, by simpa using hc, ?_⟩
      intro i q hq
      rw [List.getElem?_map] at hq
      cases hi : (c0 :: l)[i]? with
      | none => rw [hi] at hq; cases hq
      | some x =>
        rw [hi] at hq
        cases hq
        have hlt := (List.getElem?_eq_some_iff.1 hi).1
        have hx : (c0 :: l).getD i Con.zero = x := by rw [List.getD_eq_getElem?_getD, hi]; rfl
        have k := key i hlt
        rw [hx] at k
        exact ⟨(k 0 _ rfl).1, (k 1 _ rfl).1, (k 2 _ rfl).1, (k 3 _ rfl).1, (k 4 _ rfl).1⟩

/-- A result without slices makes a pure call. -/
theorem flat_pure {tabs : List Tb} {f : Nat} {A : List RV} {R : RV} {V : Value} (hR : ∀ F, RRel F R V) (hfn : ∃ fn, Tryz.prog.funcs[f]? = some fn ∧ fn.body.isSome = true)
    (h : ∀ (w : World) (F : Fz) (Args : List Value), TabW tabs w → Vld F w → RsRel F A Args → Calls Tryz.prog f Args.toArray w fun e w' => e = .returned V ∧ Below w.heap.size w w') : PureC Tryz.prog tabs f A R := by
  refine ⟨hfn, ?_⟩
  intro w F Args ht hF hr
  refine (h w F Args ht hF hr).mono ?_
  rintro e w' ⟨rfl, hb⟩
  exact ⟨V, F, rfl, fun _ _ h => h, hF.below hb, fun _ _ h => .inl h, hR F, hb⟩

def offT : Tb := ⟨0, .i64, [7, 11, 13, 17, 19, 23, 29, 31], 114⟩
theorem offs_of {w : World} (h : TabW [offT] w) : Q.Offs w := h offT (by simp)

theorem valid_pure (p : Int) (L : List Con) (hn : L.length ≤ 1000) : PureC Tryz.prog [offT] 10 [.agg [.int .i64 p, roC L]] (.bool (Q.vS p (L.map toQ))) := by
  refine flat_pure (fun _ => .bool _) ⟨_, Tryz.func10, rfl⟩ ?_
  intro w F Args ht hF hr
  cases hr with | cons h0 hr => cases hr; cases h0 with | agg h0 => cases h0 with | cons h1 h0 => cases h1; cases h0 with | cons h2 h0 =>
  cases h0
  exact Q.valid_calls p _ _ w (offs_of ht) (lst_of hF h2).1 (by simpa using hn)

theorem rvalid_pure (p : Int) (L : List Con) (hn : L.length ≤ 1000) : PureC Tryz.prog [] 11 [.agg [.int .i64 p, roC L]] (.bool (Q.vS p (L.map toQ))) := by
  refine flat_pure (fun _ => .bool _) ⟨_, Tryz.func11, rfl⟩ ?_
  intro w F Args ht hF hr
  cases hr with | cons h0 hr => cases hr; cases h0 with | agg h0 => cases h0 with | cons h1 h0 => cases h1; cases h0 with | cons h2 h0 =>
  cases h0
  exact Q.rvalid_calls p _ _ w (lst_of hF h2).1 (by simpa using hn)

theorem same_pure (p : Int) (L : List Con) (hn : L.length ≤ 1000) : PureC Tryz.prog [] 15 [.agg [.int .i64 p, roC L], .agg [.int .i64 p, roC L]] (.bool true) := by
  refine flat_pure (fun _ => .bool _) ⟨_, Tryz.func15, rfl⟩ ?_
  intro w F Args ht hF hr
  cases hr with | cons h0 hr => cases hr with | cons k0 hr => cases hr; cases h0 with | agg h0 => cases h0 with | cons h1 h0 => cases h1; cases h0 with | cons h2 h0 => cases h0; cases k0 with | agg k0 => cases k0 with | cons k1 k0 => cases k1; cases k0 with | cons k2 k0 =>
  cases k0
  obtain ⟨l1, a, n, c, rfl⟩ := lst_of hF h2
  obtain ⟨l2, a', n', c', rfl⟩ := lst_of hF k2
  exact Q.same_calls p _ a a' n n' c c' w (Lib.hid l1) (Lib.hid l2) (Lib.hid (by simpa using hn))

theorem oddPrime_pure (k : Int) (h0 : 0 ≤ k) (h1 : k ≤ 255) : PureC Tryz.prog [] 26 [.int .u8 k] (.int .i64 (Q.oddPr k)) := by
  refine flat_pure (fun _ => .int _ _) ⟨_, Tryz.func26, rfl⟩ ?_
  intro w F Args ht hF hr
  cases hr with | cons k0 hr =>
  cases hr; cases k0
  exact Q.oddPrime_calls k w h0 h1

end Go.Proofs.YtbjfdfjmclggkaaGreatDoor.S

/- Plain: the symbols that are made for odd primes are valid. -/
set_option linter.unusedSimpArgs false
set_option linter.unusedVariables false
namespace Go.Proofs.YtbjfdfjmclggkaaGreatDoor.S
open Go.QfSy Go.RowKit

noncomputable abbrev vSv (p : Int) (L : List Con) : Bool := Q.vS p (L.map toQ)
theorem vL_ord : ∀ {L : List Con} {l s : Int}, -1 ≤ l → ordL L l s = true → (∀ c ∈ L, c.odd = false ∧ c.oddity = 0) → Q.vL (L.map toQ) s l = true
  | [], l, s, _, _, _ => rfl
  | c :: L, l, s, h0, h, he => by
    simp only [ordL, okO, Bool.and_eq_true, decide_eq_true_eq] at h
    simp only [List.map_cons, Q.vL, Q.vc, Bool.and_eq_true, decide_eq_true_eq]
    have h1 := he c (by simp)
    refine ⟨⟨h.1.2.2.1, h.1.2.1, h.1.2.2.2.2.1, h.1.2.2.2.2.2, h.1.2.2.2.1, h1.1, h1.2⟩, ?_⟩
    exact vL_ord (l := c.exp) (by omega) h.2 (fun x hx => he x (by simp [hx]))
theorem oddPr_cases (k : Int) : Q.oddPr k = 3 ∨ Q.oddPr k = 5 ∨ Q.oddPr k = 7 ∨ Q.oddPr k = 11 ∨ Q.oddPr k = 13 ∨ Q.oddPr k = 17 ∨ Q.oddPr k = 19 ∨ Q.oddPr k = 23 := by
  unfold Q.oddPr
  have h : k % 8 = 0 ∨ k % 8 = 1 ∨ k % 8 = 2 ∨ k % 8 = 3 ∨ k % 8 = 4 ∨ k % 8 = 5 ∨ k % 8 = 6 ∨ k % 8 = 7 := by omega
  rcases h with h | h | h | h | h | h | h | h <;> (rw [h]; simp)
theorem isP_odd23 {p : Int} (h : p = 3 ∨ p = 5 ∨ p = 7 ∨ p = 11 ∨ p = 13 ∨ p = 17 ∨ p = 19 ∨ p = 23) : Q.isP p = true := by
  rcases h with rfl | rfl | rfl | rfl | rfl | rfl | rfl | rfl
  · exact Q.isP_true (d := 2) (by omega) (by omega) (by omega) (by omega) (fun c h1 h2 => by omega)
  · exact Q.isP_true (d := 3) (by omega) (by omega) (by omega) (by omega) (fun c h1 h2 => by obtain rfl : c = 2 := by omega
                                                                                             decide)
  · exact Q.isP_true (d := 3) (by omega) (by omega) (by omega) (by omega) (fun c h1 h2 => by obtain rfl : c = 2 := by omega
                                                                                             decide)
  · exact Q.isP_true (d := 4) (by omega) (by omega) (by omega) (by omega) (fun c h1 h2 => by obtain rfl | rfl : c = 2 ∨ c = 3 := by omega
                                                                                             all_goals decide)
  · exact Q.isP_true (d := 4) (by omega) (by omega) (by omega) (by omega) (fun c h1 h2 => by obtain rfl | rfl : c = 2 ∨ c = 3 := by omega
                                                                                             all_goals decide)
  · exact Q.isP_true (d := 5) (by omega) (by omega) (by omega) (by omega) (fun c h1 h2 => by obtain rfl | rfl | rfl : c = 2 ∨ c = 3 ∨ c = 4 := by omega
                                                                                             all_goals decide)
  · exact Q.isP_true (d := 5) (by omega) (by omega) (by omega) (by omega) (fun c h1 h2 => by obtain rfl | rfl | rfl : c = 2 ∨ c = 3 ∨ c = 4 := by omega
                                                                                             all_goals decide)
  · exact Q.isP_true (d := 5) (by omega) (by omega) (by omega) (by omega) (fun c h1 h2 => by obtain rfl | rfl | rfl : c = 2 ∨ c = 3 ∨ c = 4 := by omega
                                                                                             all_goals decide)
theorem local_ok {k most : Int} {X : List Prt} (hX : ∀ p ∈ X, p.ok) (h1 : 1 ≤ most) (hm : most ≤ 8) : vSv (Q.oddPr k) (listV most false X) = true := by
  have ho := orderV_parts (ord_listV (two := false) h1 hm hX)
  have hl := vL_ord (by decide) ho.1 even_listV
  have hc := oddPr_cases k
  have hp := isP_odd23 hc
  have he : ((listV most false X).map toQ).isEmpty = false := by
    cases hx : listV most false X with
    | nil => rw [hx] at ho; simp at ho
    | cons a l => rfl
  have h2 : 2 < Q.oddPr k ∧ Q.oddPr k ≤ 9973 := by omega
  unfold vSv Q.vS
  simp [h2, hp, he, hl]

theorem dim_listM {most : Int} {two : Bool} : ∀ {X : List Prt} {e n : Int}, (∀ p ∈ X, p.ok) → n ≤ most → dimS (listM most two X e n) ≤ most - n
  | [], e, n, _, h => by simp [listM, dimS]; omega
  | p :: X, e, n, hX, h => by
    simp only [listM]
    split
    · simp [dimS]; omega
    · have hd := dimM_b (hX p (by simp)) (r := most - n) (by omega)
      have ih := dim_listM (most := most) (two := two) (X := X) (e := expM p e) (n := n + dimM p (most - n)) (fun x hx => hX x (by simp [hx])) (by omega)
      simp only [dimS]
      show dimM p (most - n) + _ ≤ _
      omega
theorem dim_listV {most : Int} (h1 : 1 ≤ most) {two : Bool} {X : List Prt} (hX : ∀ p ∈ X, p.ok) : dimS (listV most two X) ≤ most := by
  unfold listV
  cases (listF most two X).isEmpty with
  | false => have := dim_listM (most := most) (two := two) (e := -1) (n := 0) hX (by omega : (0 : Int) ≤ most); simp only [cond_false]; unfold listF; omega
  | true =>
    have hd := dimM_b zero_ok (r := 1) (by decide)
    simp only [cond_true, dimS]
    show dimM Prt.zero 1 + 0 ≤ most
    omega
end Go.Proofs.YtbjfdfjmclggkaaGreatDoor.S

/- quadformref26.join and Add. -/
set_option linter.unusedSimpArgs false
set_option linter.unusedVariables false
namespace Go.Proofs.YtbjfdfjmclggkaaGreatDoor.S
open Go.QfSy Go.RowKit

def addOk (c : Con) : Prop := (0 ≤ c.dim ∧ c.dim ≤ 1000) ∧ (c.sign = 1 ∨ c.sign = -1) ∧ (0 ≤ c.oddity ∧ c.oddity ≤ 7)
def joinM (a b : Con) : Con := ⟨a.exp, a.dim + b.dim, a.sign * b.sign, a.odd || b.odd, (a.oddity + b.oddity) % 8⟩

def addM : List Con → List Con → List Con
  | [], B => B
  | a :: A, [] => a :: A
  | a :: A, b :: B => if a.exp < b.exp then a :: addM A (b :: B) else if b.exp < a.exp then b :: addM (a :: A) B else joinM a b :: addM A B
termination_by A B => A.length + B.length
theorem addM_nil (A : List Con) : addM A [] = A := by cases A <;> rw [addM]

theorem addM_len : ∀ (A B : List Con), (addM A B).length ≤ A.length + B.length
  | [], B => by rw [addM]; simp
  | a :: A, [] => by rw [addM]; simp
  | a :: A, b :: B => by
    rw [addM]
    split
    · have := addM_len A (b :: B); simp at this ⊢; omega
    · split
      · have := addM_len (a :: A) B; simp at this ⊢; omega
      · have := addM_len A B; simp at this ⊢; omega
termination_by A B => A.length + B.length

noncomputable def addA (A B : List Con) : Ann := ⟨⟨[(0, (roC A).av), (1, (roC B).av), (5, .nils), (6, .int .i64 0), (7, .int .i64 0)], [], 1001⟩, none, fun _ => (.exit 0, ⟨[(5, .lo 1001 (addM A B).length)], [(1001, ⟨.con (addM A B), 50, 5, true, true⟩)], 1002⟩)⟩
noncomputable def addS (A B : List Con) : Nat × Nat × List Con → St
  | (i, j, []) => ⟨[(0, (roC A).av), (1, (roC B).av), (5, .nils), (6, .vint .i64 (i : Int)), (7, .vint .i64 (j : Int))], [], 1002⟩
  | (i, j, c :: l) => ⟨[(0, (roC A).av), (1, (roC B).av), (5, .lo 1001 (l.length + 1)), (6, .vint .i64 (i : Int)), (7, .vint .i64 (j : Int))], [(1001, ⟨.con (c :: l), 50, 5, true, true⟩)], 1002⟩
def addI (A B : List Con) (i : Nat × Nat × List Con) : Prop := i.1 ≤ A.length ∧ i.2.1 ≤ B.length ∧ i.2.2.length ≤ i.1 + i.2.1 ∧ i.2.2 ++ addM (A.drop i.1) (B.drop i.2.1) = addM A B

theorem okA {A : List Con} (h : ∀ c ∈ A, addOk c) {k : Nat} (hk : k < A.length) : addOk (at_ A k) := by
  have : at_ A k = A[k] := by simp [at_, hk]
  rw [this]; exact h _ (List.getElem_mem hk)
theorem addI_a {A B : List Con} {i j : Nat} {acc : List Con} (h : addI A B (i, j, acc)) (hi : i < A.length) (hj : B.length ≤ j ∨ (at_ A i).exp < (at_ B j).exp) : addI A B (i + 1, j, acc ++ [at_ A i]) := by
  obtain ⟨h1, h2, h3, h4⟩ := h
  simp only at h1 h2 h3 h4
  refine ⟨hi, h2, by simp; omega, ?_⟩
  show acc ++ [at_ A i] ++ addM (A.drop (i + 1)) (B.drop j) = _
  rw [← h4, drop_at hi]
  rcases Nat.lt_or_ge j B.length with hj' | hj'
  · rw [drop_at hj', addM, if_pos (by omega)]; simp
  · rw [List.drop_eq_nil_of_le hj', addM, addM_nil]; simp
theorem addI_b {A B : List Con} {i j : Nat} {acc : List Con} (h : addI A B (i, j, acc)) (hj : j < B.length) (hi : A.length ≤ i ∨ (at_ B j).exp < (at_ A i).exp) : addI A B (i, j + 1, acc ++ [at_ B j]) := by
  obtain ⟨h1, h2, h3, h4⟩ := h
  simp only at h1 h2 h3 h4
  refine ⟨h1, hj, by simp; omega, ?_⟩
  show acc ++ [at_ B j] ++ addM (A.drop i) (B.drop (j + 1)) = _
  rw [← h4, drop_at hj]
  rcases Nat.lt_or_ge i A.length with hi' | hi'
  · rw [drop_at hi', addM, if_neg (by omega), if_pos (by omega)]; simp
  · rw [List.drop_eq_nil_of_le hi', addM, addM]; simp
theorem addI_c {A B : List Con} {i j : Nat} {acc : List Con} (h : addI A B (i, j, acc)) (hi : i < A.length) (hj : j < B.length) (hx : ¬ (at_ A i).exp < (at_ B j).exp) (hy : ¬ (at_ B j).exp < (at_ A i).exp) : addI A B (i + 1, j + 1, acc ++ [joinM (at_ A i) (at_ B j)]) := by
  obtain ⟨h1, h2, h3, h4⟩ := h
  simp only at h1 h2 h3 h4
  refine ⟨hi, hj, by simp; omega, ?_⟩
  show acc ++ [joinM (at_ A i) (at_ B j)] ++ addM (A.drop (i + 1)) (B.drop (j + 1)) = _
  rw [← h4, drop_at hi, drop_at hj, addM, if_neg hx, if_neg hy]; simp
theorem addI_end {A B : List Con} {i j : Nat} {acc : List Con} (h : addI A B (i, j, acc)) (hi : A.length ≤ i) (hj : B.length ≤ j) : acc = addM A B := by
  obtain ⟨h1, h2, h3, h4⟩ := h
  simp only at h4
  rw [← h4, List.drop_eq_nil_of_le hi, List.drop_eq_nil_of_le hj, addM]; simp

end Go.Proofs.YtbjfdfjmclggkaaGreatDoor.S

