/- quadformref26.Valid. -/
import Derived.Test.YtejmmglffmckeaaGreatDoorW4
namespace Go.Proofs.YtejmmglffmckeaaGreatDoor.Q
open Go.RowKit

theorem bcell {W w1 : World} (hb : Below W.heap.size W w1) : (∀ b o, b < W.heap.size → w1.cell? ⟨b, o, none⟩ = W.cell? ⟨b, o, none⟩) ∧ (∀ b o, b < W.heap.size → w1.frozen? ⟨b, o, none⟩ = W.frozen? ⟨b, o, none⟩) :=
  ⟨fun b o h => hb.cell (p := ⟨b, o, none⟩) h, fun b o h => hb.frozen (p := ⟨b, o, none⟩) h⟩

def even (c : Con) : Bool := !c.odd && decide (c.oddity = 0)
theorem all_drop {l : List Con} {k : Nat} {c : Con} (h : l[k]? = some c) : (l.drop k).all even = (even c && (l.drop (k + 1)).all even) := by
  rw [List.getElem?_eq_some_iff] at h
  obtain ⟨hk, rfl⟩ := h
  rw [List.drop_eq_getElem_cons hk]
  rfl
theorem all_end {l : List Con} {k : Nat} (h : l.length ≤ k) : (l.drop k).all even = true := by
  rw [List.drop_eq_nil_of_le h]; rfl

/-- order of an empty list: false. -/
theorem order_nil (a : Option Addr) (cap : Nat) (w : World) : Calls Tryz.prog 52 #[.slice a 0 cap] w fun e w' => e = .returned (.bool false) ∧ Below w.heap.size w w' := by
  go_enter Tryz.func52, Tryz.ntmps52
  go_wp2
  go_loopw [3, 8] (fun s i wr => s = .int .i64 0 ∧ i = .int .i64 0 ∧ wr = w) (fun _ _ _ => 0)
  case atStart => exact ⟨rfl, rfl, rfl⟩
  case round =>
    obtain ⟨rfl, rfl, rfl⟩ := hrel
    go_wp2
    go_ret
    exact ⟨rfl, Below.refl _ _⟩

set_option maxHeartbeats 4000000 in
theorem rvalid_cons (p : Int) (l : List Con) (n b o cap : Nat) (w : World) (hn : Hid (l.length = n)) (hn0 : 0 < n) (hn1 : n ≤ 1000) (hb : b < w.heap.size) (hc : Hid (∀ i c, l[i]? = some c → ConAt w b (o + i * 5) c))
    (hp : Hid (oddP p = true)) (ho : Hid (oL l 0 (-1) = true)) (r : Bool) (hr : Hid (l.all even = r)) :
    Calls Tryz.prog 19 #[.agg #[.int .i64 p, .slice (some ⟨b, o, none⟩) n cap]] w fun e w' => e = .returned (.bool r) ∧ Below w.heap.size w w' := by
  have hpr := Lib.hid (fun (w : World) => (odd_calls p w).mono (R' := fun e w' => e = .returned (.bool true) ∧ w = w') (by rintro e w' ⟨rfl, rfl⟩; exact ⟨ret_bool hp.out, rfl⟩))
  have hor := Lib.hid (order_cons l n b o cap (w.alloc (.cells #[.int .i64 p, .slice (some ⟨b, o, none⟩) n cap] 24)) hn hn0 hn1 (by simp; omega) (fun i c hi => (hc.out i c hi).below ((Below.refl w.heap.size w).alloc (Nat.le_refl _) _) hb) true ho)
  go_enter Tryz.func19, Tryz.ntmps19
  go_wp2_with (first | (go_at_call 26; refine (hpr.out _).mono ?_; rintro e w' ⟨rfl, rfl⟩) | (go_at_call 52; refine hor.out.mono ?_; rintro e w1 ⟨rfl, hb1⟩; obtain ⟨hc1, hf1⟩ := bcell hb1; have hz1 := hb1.size; simp at hz1))
  have hb2 : Below w.heap.size w w1 := ((Below.refl _ _).alloc (Nat.le_refl _) _).trans (hb1.mono (by simp))
  clear hpr hor
  go_loopw [18] (fun i wr => ∃ (k : Nat), k ≤ n ∧ i = .int .i64 k ∧ Hid ((l.drop k).all even = r) ∧ Below w.heap.size w wr) (fun i _ => (n - (intOf i).toNat))
  case atStart => exact ⟨0, by omega, rfl, hr, hb2⟩
  case round =>
    obtain ⟨k, hk, rfl, hv, hbe⟩ := hrel
    clear hb1 hb2 hc1 hf1 hz1 w1
    by_cases hlt : k < n
    · obtain ⟨c, hkc⟩ : ∃ c, l[k]? = some c := ⟨l[k]'(by rw [hn.out]; exact hlt), List.getElem?_eq_getElem _⟩
      obtain ⟨g0, g1, g2, g3, g4⟩ := (hc.out k c hkc).below hbe hb
      have hsz := hbe.size
      have hd := all_drop hkc
      have hv' : Hid ((even c && (l.drop (k + 1)).all even) = r) := hd ▸ hv.out
      clear hd hv
      go_wp2
      all_goals first
        | (go_roundw
           case rel =>
             have hvc : even c = true := by simp_all [even]
             exact ⟨k + 1, by omega, by go_num, by rw [hvc] at hv'; simpa using hv', by (repeat (first | exact hbe | refine Below.alloc ?_ (by first | omega | (simp; omega)) _ | refine Below.setCell ?_ (by first | omega | (simp; omega)) _))⟩
           case measure => simp [intOf]; omega)
        | (have hr' : r = false := by
             have hvc : even c = false := by simp_all [even]
             have := hv'.out
             rw [hvc] at this
             simpa using this.symm
           go_ret
           refine ⟨ret_bool hr'.symm, ?_⟩
           repeat (first | exact hbe | refine Below.alloc ?_ (by first | omega | (simp; omega)) _ | refine Below.setCell ?_ (by first | omega | (simp; omega)) _))
    · have hr' := hv.out
      rw [all_end (by rw [hn.out]; omega)] at hr'
      have hr'' := Lib.hid hr'
      clear hr'
      go_wp2
      go_ret
      exact ⟨ret_bool hr''.out, hbe⟩

/-- The prime or the order fails. -/
theorem rvalid_prime (p : Int) (v : Value) (w : World) (hp : Hid (oddP p = false)) :
    Calls Tryz.prog 19 #[.agg #[.int .i64 p, v]] w fun e w' => e = .returned (.bool false) ∧ Below w.heap.size w w' := by
  have hpr := Lib.hid (fun (w : World) => (odd_calls p w).mono (R' := fun e w' => e = .returned (.bool false) ∧ w = w') (by rintro e w' ⟨rfl, rfl⟩; exact ⟨ret_bool hp.out, rfl⟩))
  go_enter Tryz.func19, Tryz.ntmps19
  go_wp2_with (go_at_call 26; refine (hpr.out _).mono ?_; rintro e w' ⟨rfl, rfl⟩)
  go_ret
  exact ⟨rfl, (Below.refl _ _).alloc (Nat.le_refl _) _⟩
theorem rvalid_order (p : Int) (a : Option Addr) (n cap : Nat) (w : World) (hp : Hid (oddP p = true))
    (hor : Hid (∀ u, Calls Tryz.prog 52 #[.slice a n cap] (w.alloc (.cells #[.int .i64 p, .slice a n cap] u)) fun e w' => e = .returned (.bool false) ∧ Below (w.alloc (.cells #[.int .i64 p, .slice a n cap] u)).heap.size (w.alloc (.cells #[.int .i64 p, .slice a n cap] u)) w')) :
    Calls Tryz.prog 19 #[.agg #[.int .i64 p, .slice a n cap]] w fun e w' => e = .returned (.bool false) ∧ Below w.heap.size w w' := by
  have hpr := Lib.hid (fun (w : World) => (odd_calls p w).mono (R' := fun e w' => e = .returned (.bool true) ∧ w = w') (by rintro e w' ⟨rfl, rfl⟩; exact ⟨ret_bool hp.out, rfl⟩))
  go_enter Tryz.func19, Tryz.ntmps19
  go_wp2_with (first | (go_at_call 26; refine (hpr.out _).mono ?_; rintro e w' ⟨rfl, rfl⟩) | (go_at_call 52; refine (hor.out _).mono ?_; rintro e w1 ⟨rfl, hb1⟩))
  go_ret
  exact ⟨rfl, ((Below.refl _ _).alloc (Nat.le_refl _) _).trans (hb1.mono (by simp))⟩

theorem oL_vL : ∀ (l : List Con) (s last : Int), vL l s last = (oL l s last && l.all even)
  | [], _, _ => rfl
  | c :: l, s, last => by
    simp only [vL, oL, List.all_cons, oL_vL l]
    have : vc c s last = (oc c s last && even c) := by
      simp only [vc, oc, even]
      rw [Bool.eq_iff_iff]
      simp only [Bool.and_eq_true, decide_eq_true_eq, Bool.not_eq_true']
      constructor
      · rintro ⟨a, b, c, d, e, f, g⟩; exact ⟨⟨a, b, c, d, e⟩, f, g⟩
      · rintro ⟨⟨a, b, c, d, e⟩, f, g⟩; exact ⟨a, b, c, d, e, f, g⟩
    rw [this]
    cases oc c s last <;> cases even c <;> simp

theorem oddP_eq (p : Int) : oddP p = (decide (2 < p ∧ p ≤ 9973) && isP p) := by
  unfold oddP
  cases hp : isP p
  · simp
  · have : 2 ≤ p := by
      rcases Int.lt_or_le p 2 with h | h
      · rw [isP_of_lt h] at hp; cases hp
      · exact h
    rw [Bool.and_true, Bool.and_true]
    congr 1
    rw [eq_iff_iff]
    omega

theorem vS_eq (p : Int) (l : List Con) : vS p l = (oddP p && (!l.isEmpty && oL l 0 (-1)) && l.all even) := by
  unfold vS
  rw [oL_vL, oddP_eq]
  cases (decide (2 < p ∧ p ≤ 9973) && isP p) <;> cases l.isEmpty <;> simp

theorem rvalid_calls (p : Int) (l : List Con) (v : Value) (w : World) (hl : Lst w v l) (hn : l.length ≤ 1000) :
    Calls Tryz.prog 19 #[.agg #[.int .i64 p, v]] w fun e w' => e = .returned (.bool (vS p l)) ∧ Below w.heap.size w w' := by
  rw [vS_eq]
  cases hp : oddP p
  · refine (rvalid_prime p v w hp).mono ?_
    rintro e w' ⟨rfl, hb⟩
    exact ⟨ret_bool (by simp), hb⟩
  · rcases hl with ⟨rfl, a, c, rfl⟩ | ⟨hne, b, o, cap, rfl, hb, hcp, hc⟩
    · refine (rvalid_order p a 0 c w hp (fun u => order_nil _ _ _)).mono ?_
      rintro e w' ⟨rfl, hb⟩
      exact ⟨ret_bool (by simp), hb⟩
    · have hpos : 0 < l.length := by cases l; exact absurd rfl hne; simp
      have he : l.isEmpty = false := by cases l; exact absurd rfl hne; rfl
      cases ho : oL l 0 (-1)
      · refine (rvalid_order p (some ⟨b, o, none⟩) l.length cap w hp (fun u => order_cons l l.length b o cap _ rfl hpos hn (by simp; omega) (fun i c hi => (hc i c hi).below ((Below.refl w.heap.size w).alloc (Nat.le_refl _) _) hb) false ho)).mono ?_
        rintro e w' ⟨rfl, hb⟩
        exact ⟨ret_bool (by simp), hb⟩
      · refine (rvalid_cons p l l.length b o cap w rfl hpos hn hb hc hp ho _ rfl).mono ?_
        rintro e w' ⟨rfl, hb⟩
        exact ⟨ret_bool (by simp [he]), hb⟩
end Go.Proofs.YtejmmglffmckeaaGreatDoor.Q
