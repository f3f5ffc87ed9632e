/- quadformref22.Mod, ModPow; symbol.Excess; quadformref26.Excess. -/
import Derived.Test.YtejmmglffmckeaaGreatDoorW5
import Derived.Test.YtejmmglffmckeaaGreatDoorD
namespace Go.Proofs.YtejmmglffmckeaaGreatDoor.Q
open Go.RowKit

theorem mod8 (p : Int) (w : World) (h0 : 0 ≤ p) (h1 : p ≤ 100000) : Calls Tryz.prog 139 #[.int .i64 p, .int .i64 8] w fun e w' => e = .returned (.int .i64 (p % 8)) ∧ w = w' := by
  go_enter Tryz.func139, Tryz.ntmps139
  go_wp2
  go_ret
  exact ⟨rfl, rfl⟩

set_option maxHeartbeats 1000000 in
theorem modpow8 (p e : Int) (w : World) (h0 : 0 ≤ p) (h1 : p ≤ 100000) (h2 : 0 ≤ e) (h3 : e ≤ 1000) : Calls Tryz.prog 66 #[.int .i64 p, .int .i64 e, .int .i64 8] w fun e' w' => e' = .returned (.int .i64 (pw p e)) ∧ w = w' := by
  have HS0 : ((1 : Int) * (p % 8) ^ e.toNat) % 8 = pw p e := by
    rw [mul_pow_mod]; simp [pw]
  have HS := Lib.hid HS0
  clear HS0
  generalize pw p e = r at HS ⊢
  go_enter Tryz.func66, Tryz.ntmps66
  go_wp2_with (go_at_call 139; refine (mod8 _ _ h0 h1).mono ?_; rintro e w' ⟨rfl, rfl⟩)
  go_loop [0, 1, 7] (fun a i t => ∃ A E O : Int, 0 ≤ A ∧ A ≤ 7 ∧ 0 ≤ E ∧ E ≤ 1000 ∧ 0 ≤ O ∧ O ≤ 7 ∧ a = .int .i64 A ∧ i = .int .i64 E ∧ t = .int .i64 O ∧ Hid ((O * A ^ E.toNat) % 8 = r)) (fun _ i _ => (intOf i).toNat)
  case atStart => exact ⟨p % 8, e, 1, by omega, by omega, by omega, by omega, by omega, by omega, rfl, rfl, rfl, HS⟩
  case round =>
    obtain ⟨A, E, O, hA0, hA1, hE0, hE1, hO0, hO1, rfl, rfl, rfl, hH⟩ := hrel
    have a1 : 0 ≤ A * A := Int.mul_nonneg hA0 hA0
    have a2 : A * A ≤ 7 * 7 := Int.mul_le_mul hA1 hA1 hA0 (by omega)
    have a3 : 0 ≤ O * A := Int.mul_nonneg hO0 hA0
    have a4 : O * A ≤ 7 * 7 := Int.mul_le_mul hO1 hA1 hA0 (by omega)
    by_cases hE : 0 < E
    · by_cases ho : E % 2 = 1
      · have hs := Lib.hid ((modpow_odd (o := O) (a := A) hE0 ho).trans hH.out)
        have ho' : (E % 2 == 1) = true := by simpa using ho
        have hoh := Lib.hid ho
        clear ho hH HS
        go_wp2
        go_round
        case rel => exact ⟨A * A % 8, E / 2, O * A % 8, by omega, by omega, by omega, by omega, by omega, by omega, rfl, rfl, rfl, hs⟩
        case measure => simp [intOf]; omega
      · have hs := Lib.hid ((modpow_even (o := O) (a := A) hE0 (by omega)).trans hH.out)
        have ho' : (E % 2 == 1) = false := by simpa using ho
        clear ho hH HS
        go_wp2
        go_round
        case rel => exact ⟨A * A % 8, E / 2, O, by omega, by omega, by omega, by omega, by omega, by omega, rfl, rfl, rfl, hs⟩
        case measure => simp [intOf]; omega
    · have hr : O = r := by
        have := hH.out
        obtain rfl : E = 0 := by omega
        simp at this
        omega
      have hr' := Lib.hid hr
      clear hr HS hH
      go_wp2
      go_ret
      exact ⟨ret_i64 hr'.out, rfl⟩

theorem ret_ie {a b c : Int} (h : a = b) : Ending.returned (.tuple #[.int .i64 a, .int .i64 c]) = .returned (.tuple #[.int .i64 b, .int .i64 c]) := by rw [h]
theorem quiet_left {P : Program} {f : FuncId} {args : Array Value} {w : World} {n : Nat} {v : Value}
    (h : Calls P f args (w.drewN n) fun e w' => e = .returned v ∧ w.drewN n = w') : Calls P f args (w.drewN n) fun e w'' => e = .returned v ∧ ∃ m, w'' = w.drewN m :=
  h.mono fun _ _ ⟨he, hm⟩ => ⟨he, n, hm.symm⟩
theorem pw_step {p : Int} {j : Int} (h0 : 0 ≤ j) : pw p (j + 1) = pw p j * (p % 8) % 8 := by
  unfold pw
  have : (j + 1).toNat = j.toNat + 1 := by omega
  rw [this, Int.pow_succ, Int.mul_emod]

set_option maxHeartbeats 4000000 in
theorem excess_cons (p : Int) (l : List Con) (n b o cap : Nat) (w : World) (hw : Hid (Offs w)) (hn : Hid (l.length = n)) (hn0 : 0 < n) (hn1 : n ≤ 1000) (hb : b < w.heap.size) (hcp : n ≤ cap) (hc : Hid (∀ i c, l[i]? = some c → ConAt w b (o + i * 5) c))
    (hp0 : 2 < p) (hp1 : p ≤ 9973) (hpo : Hid (p % 2 = 1)) (hg : Hid (∀ c ∈ l, c.good)) (hv : Hid (∀ W, Offs W → Lst W (.slice (some ⟨b, o, none⟩) n cap) l → Calls Tryz.prog 18 #[.agg #[.int .i64 p, .slice (some ⟨b, o, none⟩) n cap]] W fun e w' => e = .returned (.bool true) ∧ Below W.heap.size W w')) :
    Calls Tryz.prog 32 #[.agg #[.int .i64 p, .slice (some ⟨b, o, none⟩) n cap]] w fun e w' => e = .returned (.tuple #[.int .i64 (ex1 p l % 8), .int .i64 0]) ∧ Below w.heap.size w w' := by
  have hvc := Lib.hid (hv.out (w.alloc (.cells #[.int .i64 p, .slice (some ⟨b, o, none⟩) n cap] 24)) (hw.out.alloc _) (.inr ⟨by have := hn.out; intro e; subst e; simp at this; omega, b, o, cap, by rw [hn.out], by simp; omega, by rw [hn.out]; exact hcp, fun i c hi => (hc.out i c hi).below ((Below.refl w.heap.size w).alloc (Nat.le_refl _) _) hb⟩))
  have HR := Lib.hid (show ex1 p (l.take n) = ex1 p l by rw [List.take_of_length_le (by rw [hn.out]; omega)])
  generalize ex1 p l = R at HR ⊢
  clear hv hw
  go_enter Tryz.func32, Tryz.ntmps32
  go_wp2_with (go_at_call 18; refine hvc.out.mono ?_; rintro e w1 ⟨rfl, hb1⟩; obtain ⟨hc1, hf1⟩ := bcell hb1; have hz1 := hb1.size; simp at hz1)
  have hx0 : w1.cell? ⟨w.heap.size, 0, none⟩ = some (.int .i64 p) := by rw [hc1 _ _ (by simp)]; simp [go_sem]
  have hb2 : Below (w.heap.size) w w1 := ((Below.refl _ _).alloc (Nat.le_refl _) _).trans (hb1.mono (by simp))
  clear hvc hc1 hf1
  go_loopw [4, 14] (fun s i wr => ∃ (k : Nat) (S : Int), k ≤ n ∧ 0 ≤ S ∧ S ≤ 100 * k ∧ s = .int .i64 S ∧ i = .int .i64 k ∧ Hid (ex1 p (l.take k) = S) ∧ wr.cell? ⟨w.heap.size, 0, none⟩ = some (.int .i64 p) ∧ Below w.heap.size w wr ∧ w.heap.size < wr.heap.size) (fun _ i _ => (n - (intOf i).toNat))
  case atStart => exact ⟨0, 0, by omega, by omega, by omega, rfl, rfl, by simp [ex1]; exact trivial, hx0, hb2, by omega⟩
  case round =>
    obtain ⟨k, S, hk, hS0, hS1, rfl, rfl, hv, hx, hbe, hbs⟩ := hrel
    clear hb1 hb2 hz1 hx0 w1
    by_cases hlt : k < n
    · obtain ⟨c, hkc⟩ : ∃ c, l[k]? = some c := ⟨l[k]'(by rw [hn.out]; exact hlt), List.getElem?_eq_getElem _⟩
      obtain ⟨g0, g1, g2, g3, g4⟩ := (hc.out k c hkc).below hbe hb
      have hgc := hg.out c (List.mem_of_getElem? hkc)
      have ⟨t1, t2⟩ := term1 hgc hpo.out
      have hst := Lib.hid (ex1_step p hkc)
      obtain ⟨e0, e1, d0, d1, -⟩ := hgc
      have hQ0 := Lib.hid (show ∀ J : Int, 0 ≤ J → pw p (J + 1) = pw p J * (p % 8) % 8 from fun J hJ => pw_step hJ)
      have hQ1 := Lib.hid (fun J : Int => pw_pos hpo.out J)
      have hQ2 := Lib.hid (fun J : Int => (pw_bounds p J).2)
      generalize hQQ : pw p c.exp = Q at t1 t2 hst
      have hQQ' := Lib.hid hQQ
      have hQ3 : 1 ≤ Q := hQQ ▸ hQ1.out c.exp
      have hQ4 : Q ≤ 7 := hQQ ▸ hQ2.out c.exp
      have hv' := Lib.hid hv.out
      clear hQQ hv
      go_wp2
      go_hide hQ
      go_loop [7, 20] (fun a i => ∃ J A : Int, 0 ≤ J ∧ J ≤ c.exp ∧ 1 ≤ A ∧ A ≤ 7 ∧ a = .int .i64 A ∧ i = .int .i64 J ∧ Hid (pw p J = A)) (fun _ i => (c.exp - intOf i).toNat)
      case atStart => exact ⟨0, 1, by omega, by omega, by omega, by omega, rfl, rfl, by simp [pw]; exact trivial⟩
      case round =>
        obtain ⟨J, A, hJ0, hJ1, hA0, hA1, rfl, rfl, hA⟩ := hrel
        by_cases hJ : J < c.exp
        · have hs := Lib.hid ((hQ0.out J hJ0).trans (by rw [hA.out]))
          have hs1 := hQ1.out (J + 1)
          have hs2 := hQ2.out (J + 1)
          rw [hs.out] at hs1 hs2
          have p0 : 0 ≤ p % 8 := by omega
          have p1 : p % 8 ≤ 7 := by omega
          have m0 : 0 ≤ A * (p % 8) := Int.mul_nonneg (by omega) p0
          have m1 : A * (p % 8) ≤ 7 * 7 := Int.mul_le_mul hA1 p1 p0 (by omega)
          go_wp2
          go_round
          case rel => exact ⟨J + 1, A * (p % 8) % 8, by omega, by omega, by omega, by omega, rfl, rfl, hs⟩
          case measure => simp [intOf]; omega
        · obtain rfl : J = c.exp := by omega
          obtain rfl : A = Q := by rw [← hA.out, hQQ'.out]
          by_cases ho : c.exp % 2 = 1
          · have ho' : (c.exp % 2 == 1) = true := by simpa using ho
            by_cases hs : c.sign = -1
            · have hs' : (c.sign == -1) = true := by simpa using hs
              have hF : Hid (four c = 4) := by unfold four; exact if_pos ⟨ho, hs⟩
              clear ho hs
              go_wp2
              subst hQ
              go_wp2
              go_roundw
              case rel =>
                have hst' := hst.out
                rw [hF.out, hv'.out] at hst'
                refine ⟨k + 1, _, by omega, ?_, ?_, rfl, by go_num, hst'.trans (by omega), ?_, ?_, ?_⟩
                · omega
                · omega
                · simp [go_sem, hbs, hx]
                · repeat (first | exact hbe | refine Below.alloc ?_ (by first | omega | (simp; omega)) _ | refine Below.setCell ?_ (by first | omega | (simp; omega)) _)
                · simp; omega
              case measure => simp [intOf]; omega
            · have hs' : (c.sign == -1) = false := by simpa using hs
              have hF : Hid (four c = 0) := by unfold four; exact if_neg (fun h => hs h.2)
              clear ho hs
              go_wp2
              subst hQ
              go_wp2
              go_roundw
              case rel =>
                have hst' := hst.out
                rw [hF.out, hv'.out] at hst'
                refine ⟨k + 1, _, by omega, ?_, ?_, rfl, by go_num, hst'.trans (by omega), ?_, ?_, ?_⟩
                · omega
                · omega
                · simp [go_sem, hbs, hx]
                · repeat (first | exact hbe | refine Below.alloc ?_ (by first | omega | (simp; omega)) _ | refine Below.setCell ?_ (by first | omega | (simp; omega)) _)
                · simp; omega
              case measure => simp [intOf]; omega
          · have ho' : (c.exp % 2 == 1) = false := by simpa using ho
            have hF : Hid (four c = 0) := by unfold four; exact if_neg (fun h => ho h.1)
            clear ho
            go_wp2
            subst hQ
            go_wp2
            go_roundw
            case rel =>
              have hst' := hst.out
              rw [hF.out, hv'.out] at hst'
              refine ⟨k + 1, _, by omega, ?_, ?_, rfl, by go_num, hst'.trans (by omega), ?_, ?_, ?_⟩
              · omega
              · omega
              · simp [go_sem, hbs, hx]
              · repeat (first | exact hbe | refine Below.alloc ?_ (by first | omega | (simp; omega)) _ | refine Below.setCell ?_ (by first | omega | (simp; omega)) _)
              · simp; omega
            case measure => simp [intOf]; omega
    · have hr' := hv.out
      obtain rfl : k = n := by omega
      rw [HR.out] at hr'
      have hr'' := Lib.hid hr'
      clear hr' hv
      go_wp2
      go_ret2
      exact ⟨ret_ie (by rw [hr''.out]), hbe⟩

theorem excess_no (p : Int) (v : Value) (w : World) (hv : Hid (∀ u, Calls Tryz.prog 18 #[.agg #[.int .i64 p, v]] (w.alloc (.cells #[.int .i64 p, v] u)) fun e w' => e = .returned (.bool false) ∧ Below (w.alloc (.cells #[.int .i64 p, v] u)).heap.size (w.alloc (.cells #[.int .i64 p, v] u)) w')) :
    Calls Tryz.prog 32 #[.agg #[.int .i64 p, v]] w fun e w' => e = .returned (.tuple #[.int .i64 0, .int .i64 22]) ∧ Below w.heap.size w w' := by
  go_enter Tryz.func32, Tryz.ntmps32
  go_wp2_with (go_at_call 18; refine (hv.out _).mono ?_; rintro e w1 ⟨rfl, hb1⟩)
  go_ret2
  exact ⟨rfl, ((Below.refl _ _).alloc (Nat.le_refl _) _).trans (hb1.mono (by simp))⟩

set_option maxHeartbeats 4000000 in
theorem rexcess_cons (p : Int) (l : List Con) (n b o cap : Nat) (w : World) (hn : Hid (l.length = n)) (hn0 : 0 < n) (hn1 : n ≤ 1000) (hb : b < w.heap.size) (hc : Hid (∀ i c, l[i]? = some c → ConAt w b (o + i * 5) c))
    (hp0 : 2 < p) (hp1 : p ≤ 9973) (hg : Hid (∀ c ∈ l, c.good)) :
    Calls Tryz.prog 33 #[.agg #[.int .i64 p, .slice (some ⟨b, o, none⟩) n cap]] w fun e w' => e = .returned (.int .i64 (ex2 p l % 8)) ∧ Below w.heap.size w w' := by
  have HR := Lib.hid (show ex2 p (l.take n) = ex2 p l by rw [List.take_of_length_le (by rw [hn.out]; omega)])
  generalize ex2 p l = R at HR ⊢
  go_enter Tryz.func33, Tryz.ntmps33
  go_wp2
  go_loopw [3, 9] (fun s i wr => ∃ (k : Nat) (S : Int), k ≤ n ∧ 0 ≤ S ∧ S ≤ 200 * k ∧ s = .int .i64 S ∧ i = .int .i64 k ∧ Hid (ex2 p (l.take k) = S) ∧ wr.cell? ⟨w.heap.size, 0, none⟩ = some (.int .i64 p) ∧ Below w.heap.size w wr ∧ w.heap.size < wr.heap.size) (fun _ i _ => (n - (intOf i).toNat))
  case atStart => exact ⟨0, 0, by omega, by omega, by omega, rfl, rfl, by simp [ex2]; exact trivial, by simp [go_sem], (Below.refl _ _).alloc (Nat.le_refl _) _, by simp⟩
  case round =>
    obtain ⟨k, S, hk, hS0, hS1, rfl, rfl, hv, hx, hbe, hbs⟩ := hrel
    by_cases hlt : k < n
    · obtain ⟨c, hkc⟩ : ∃ c, l[k]? = some c := ⟨l[k]'(by rw [hn.out]; exact hlt), List.getElem?_eq_getElem _⟩
      obtain ⟨g0, g1, g2, g3, g4⟩ := (hc.out k c hkc).below hbe hb
      have hgc := hg.out c (List.mem_of_getElem? hkc)
      have ⟨t1, t2⟩ := term2 (p := p) hgc
      have hst := Lib.hid (ex2_step p hkc)
      obtain ⟨e0, e1, d0, d1, -⟩ := hgc
      have hcall := Lib.hid (fun W => modpow8 p c.exp W (by omega) (by omega) (by omega) (by omega))
      have ⟨q1, q2⟩ := pw_bounds p c.exp
      generalize pw p c.exp = Q at t1 t2 hst hcall q1 q2
      have hv' := Lib.hid hv.out
      clear hv
      by_cases ho : c.exp % 2 = 1
      · have ho' : (c.exp % 2 == 1) = true := by simpa using ho
        by_cases hs : c.sign = -1
        · have hs' : (c.sign == -1) = true := by simpa using hs
          have hF : Hid (four c = 4) := by unfold four; exact if_pos ⟨ho, hs⟩
          clear ho hs
          go_wp2
          go_hide hQ
          go_quiet ((go_at_call 66; exact quiet_left (hcall.out _)))
          subst hQ
          go_wp2
          go_roundw
          case rel =>
            have hst' := hst.out
            rw [hF.out, hv'.out] at hst'
            refine ⟨k + 1, _, by omega, ?_, ?_, rfl, by go_num, hst'.trans (by omega), ?_, ?_, ?_⟩
            · omega
            · omega
            · simp [go_sem, hbs, hx]
            · repeat (first | exact hbe | refine below_drewN ?_ _ | refine Below.alloc ?_ (by first | omega | (simp; omega)) _ | refine Below.setCell ?_ (by first | omega | (simp; omega)) _)
            · simp; omega
          case measure => simp [intOf]; omega
        · have hs' : (c.sign == -1) = false := by simpa using hs
          have hF : Hid (four c = 0) := by unfold four; exact if_neg (fun h => hs h.2)
          clear ho hs
          go_wp2
          go_hide hQ
          go_quiet ((go_at_call 66; exact quiet_left (hcall.out _)))
          subst hQ
          go_wp2
          go_roundw
          case rel =>
            have hst' := hst.out
            rw [hF.out, hv'.out] at hst'
            refine ⟨k + 1, _, by omega, ?_, ?_, rfl, by go_num, hst'.trans (by omega), ?_, ?_, ?_⟩
            · omega
            · omega
            · simp [go_sem, hbs, hx]
            · repeat (first | exact hbe | refine below_drewN ?_ _ | refine Below.alloc ?_ (by first | omega | (simp; omega)) _ | refine Below.setCell ?_ (by first | omega | (simp; omega)) _)
            · simp; omega
          case measure => simp [intOf]; omega
      · have ho' : (c.exp % 2 == 1) = false := by simpa using ho
        have hF : Hid (four c = 0) := by unfold four; exact if_neg (fun h => ho h.1)
        clear ho
        go_wp2
        go_hide hQ
        go_quiet ((go_at_call 66; exact quiet_left (hcall.out _)))
        subst hQ
        go_wp2
        go_roundw
        case rel =>
          have hst' := hst.out
          rw [hF.out, hv'.out] at hst'
          refine ⟨k + 1, _, by omega, ?_, ?_, rfl, by go_num, hst'.trans (by omega), ?_, ?_, ?_⟩
          · omega
          · omega
          · simp [go_sem, hbs, hx]
          · repeat (first | exact hbe | refine below_drewN ?_ _ | refine Below.alloc ?_ (by first | omega | (simp; omega)) _ | refine Below.setCell ?_ (by first | omega | (simp; omega)) _)
          · simp; omega
        case measure => simp [intOf]; omega
    · have hr' := hv.out
      obtain rfl : k = n := by omega
      rw [HR.out] at hr'
      have hr'' := Lib.hid hr'
      clear hr' hv
      go_wp2
      go_ret
      exact ⟨ret_i64 (by rw [hr''.out]), hbe⟩
end Go.Proofs.YtejmmglffmckeaaGreatDoor.Q
