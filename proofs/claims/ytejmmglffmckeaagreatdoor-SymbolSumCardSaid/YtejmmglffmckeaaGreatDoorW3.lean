/- symbol.Valid. -/
import Derived.Test.YtejmmglffmckeaaGreatDoorC
import Derived.BigQuiet
import Derived.Deep.QuietTactic
namespace Go.Proofs.YtejmmglffmckeaaGreatDoor.Q
open Go.RowKit

set_option maxHeartbeats 1000000 in
theorem valid_cons (p : Int) (l : List Con) (n b o cap : Nat) (w : World) (hw : Hid (Offs w)) (hn : Hid (l.length = n)) (hn0 : 0 < n) (hn1 : n ≤ 1000) (hb : b < w.heap.size) (hc : Hid (∀ i c, l[i]? = some c → ConAt w b (o + i * 5) c))
    (h1 : 2 < p) (h2 : p ≤ 9973) (hp : Hid (isP p = true)) (r : Bool) (hr : Hid (vL l 0 (-1) = r)) :
    Calls Tryz.prog 18 #[.agg #[.int .i64 p, .slice (some ⟨b, o, none⟩) n cap]] w fun e w' => e = .returned (.bool r) ∧ Below w.heap.size w w' := by
  have hnb : ((n : Int) == 0) = false := by simp; omega
  have hpr := Lib.hid (fun (w : World) (hw : Offs w) => (primeIs p w hw).mono (R' := fun e w' => e = .returned (.bool true) ∧ w = w') (by rintro e w' ⟨rfl, rfl⟩; exact ⟨ret_bool hp.out, rfl⟩))
  go_enter Tryz.func18, Tryz.ntmps18
  go_wp2_with (go_at_call 51; refine (hpr.out _ (hw.out.alloc _)).mono ?_; rintro e w' ⟨rfl, rfl⟩)
  go_loopw [3, 4, 30] (fun s t i wr => ∃ (k : Nat) (S L : Int), k ≤ n ∧ 0 ≤ S ∧ S ≤ 8 ∧ -1 ≤ L ∧ L ≤ 60 ∧ s = .int .i64 S ∧ t = .int .i64 L ∧ i = .int .i64 k ∧ Hid (vL (l.drop k) S L = r) ∧ Below (w.heap.size + 1) (w.alloc (.cells #[.int .i64 p, .slice (some ⟨b, o, none⟩) n cap] 24)) wr) (fun _ _ i _ => (n - (intOf i).toNat))
  case atStart => exact ⟨0, 0, -1, by omega, by omega, by omega, by omega, by omega, rfl, rfl, rfl, hr, Below.refl _ _⟩
  case round =>
    obtain ⟨k, S, L, hk, hS0, hS1, hL0, hL1, rfl, rfl, rfl, hv, hbe⟩ := hrel
    by_cases hlt : k < n
    · obtain ⟨c, hkc⟩ : ∃ c, l[k]? = some c := ⟨l[k]'(by rw [hn.out]; exact hlt), List.getElem?_eq_getElem _⟩
      have hca := (hc.out k c hkc).below ((Below.refl w.heap.size w).alloc (Nat.le_refl _) (.cells #[.int .i64 p, .slice (some ⟨b, o, none⟩) n cap] 24)) hb
      have hca := hca.below hbe (by omega)
      obtain ⟨g0, g1, g2, g3, g4⟩ := hca
      have hsz := hbe.size
      simp at hsz
      have hd := vL_drop hkc S L
      have hv' : Hid ((vc c S L && vL (l.drop (k + 1)) (S + c.dim) c.exp) = r) := hd ▸ hv.out
      clear hd hv
      go_wp2
      all_goals first
        | (go_roundw
           case rel =>
             have hvc : vc c S L = true := by
               simp only [vc, decide_eq_true_eq]
               refine ⟨by omega, by omega, by omega, by omega, ?_, ?_, ?_⟩ <;> simp_all
             exact ⟨k + 1, S + c.dim, c.exp, by omega, by omega, by omega, by omega, by omega, rfl, rfl, by go_num, by rw [hvc] at hv'; simpa using hv', by (repeat (first | exact hbe | refine Below.alloc ?_ (by first | omega | (simp; omega)) _ | refine Below.setCell ?_ (by first | omega | (simp; omega)) _))⟩
           case measure => simp [intOf]; omega)
        | (have hr' : r = false := by
             have hvc : vc c S L = false := by
               simp only [vc, decide_eq_false_iff_not]
               rintro ⟨x1, x2, x3, x4, x5, x6, x7⟩
               first | omega | (simp_all; done) | (simp_all; omega)
             have := hv'.out
             rw [hvc] at this
             simpa using this.symm
           go_ret
           refine ⟨ret_bool hr'.symm, ?_⟩
           repeat (first | exact ((Below.refl _ _).alloc (Nat.le_refl _) _).trans (hbe.mono (by simp)) | refine Below.alloc ?_ (by first | omega | (simp; omega)) _ | refine Below.setCell ?_ (by first | omega | (simp; omega)) _))
    · have hr' := hv.out
      rw [vL_end (by rw [hn.out]; omega)] at hr'
      have hr'' := Lib.hid hr'
      clear hr'
      go_wp2
      go_ret
      refine ⟨ret_bool hr''.out, ?_⟩
      exact ((Below.refl _ _).alloc (Nat.le_refl _) _).trans (hbe.mono (by simp))

/-- A first test fails, or the list is empty. -/
theorem valid_no (p : Int) (a : Option Addr) (n cap : Nat) (w : World) (hw : Hid (Offs w)) (hn1 : n ≤ 1000) (h : p ≤ 2 ∨ 9973 < p ∨ isP p = false ∨ n = 0) :
    Calls Tryz.prog 18 #[.agg #[.int .i64 p, .slice a n cap]] w fun e w' => e = .returned (.bool false) ∧ Below w.heap.size w w' := by
  have h0 := Lib.hid h
  clear h
  by_cases h1 : p ≤ 2
  · clear h0
    go_enter Tryz.func18, Tryz.ntmps18
    go_wp2
    go_ret
    exact ⟨rfl, (Below.refl _ _).alloc (Nat.le_refl _) _⟩
  · by_cases h2 : 9973 < p
    · clear h0
      go_enter Tryz.func18, Tryz.ntmps18
      go_wp2
      go_ret
      exact ⟨rfl, (Below.refl _ _).alloc (Nat.le_refl _) _⟩
    · cases hp : isP p
      · have hpr := Lib.hid (fun (w : World) (hw : Offs w) => (primeIs p w hw).mono (R' := fun e w' => e = .returned (.bool false) ∧ w = w') (by rintro e w' ⟨rfl, rfl⟩; exact ⟨ret_bool hp, rfl⟩))
        clear h0 hp
        go_enter Tryz.func18, Tryz.ntmps18
        go_wp2_with (go_at_call 51; refine (hpr.out _ (hw.out.alloc _)).mono ?_; rintro e w' ⟨rfl, rfl⟩)
        go_ret
        exact ⟨rfl, (Below.refl _ _).alloc (Nat.le_refl _) _⟩
      · have hpr := Lib.hid (fun (w : World) (hw : Offs w) => (primeIs p w hw).mono (R' := fun e w' => e = .returned (.bool true) ∧ w = w') (by rintro e w' ⟨rfl, rfl⟩; exact ⟨ret_bool hp, rfl⟩))
        obtain rfl : n = 0 := by rcases h0.out with h | h | h | h <;> first | omega | (rw [hp] at h; cases h)
        clear h0 hp
        go_enter Tryz.func18, Tryz.ntmps18
        go_wp2_with (go_at_call 51; refine (hpr.out _ (hw.out.alloc _)).mono ?_; rintro e w' ⟨rfl, rfl⟩)
        go_ret
        exact ⟨rfl, (Below.refl _ _).alloc (Nat.le_refl _) _⟩

theorem valid_calls (p : Int) (l : List Con) (v : Value) (w : World) (hw : Offs w) (hl : Lst w v l) (hn : l.length ≤ 1000) :
    Calls Tryz.prog 18 #[.agg #[.int .i64 p, v]] w fun e w' => e = .returned (.bool (vS p l)) ∧ Below w.heap.size w w' := by
  rcases hl with ⟨rfl, a, c, rfl⟩ | ⟨hne, b, o, cap, rfl, hb, hcp, hc⟩
  · refine (valid_no p a 0 c w hw (by omega) (.inr (.inr (.inr rfl)))).mono ?_
    rintro e w' ⟨rfl, hb⟩
    exact ⟨ret_bool (by simp [vS]), hb⟩
  · have hpos : 0 < l.length := by cases l; exact absurd rfl hne; simp
    by_cases h : 2 < p ∧ p ≤ 9973 ∧ isP p = true
    · obtain ⟨h1, h2, h3⟩ := h
      refine (valid_cons p l l.length b o cap w hw rfl hpos hn hb hc h1 h2 h3 _ rfl).mono ?_
      rintro e w' ⟨rfl, hb⟩
      refine ⟨ret_bool ?_, hb⟩
      have : l.isEmpty = false := by cases l; exact absurd rfl hne; rfl
      simp [vS, h1, h2, h3, this]
    · have hno : p ≤ 2 ∨ 9973 < p ∨ isP p = false ∨ l.length = 0 := by
        cases hp : isP p
        · exact .inr (.inr (.inl rfl))
        · simp only [hp, and_true] at h
          omega
      refine (valid_no p (some ⟨b, o, none⟩) l.length cap w hw hn hno).mono ?_
      rintro e w' ⟨rfl, hb⟩
      refine ⟨ret_bool ?_, hb⟩
      rcases hno with h | h | h | h
      · have : ¬ 2 < p := by omega
        simp [vS, this]
      · have : ¬ p ≤ 9973 := by omega
        simp [vS, this]
      · simp [vS, h]
      · omega
end Go.Proofs.YtejmmglffmckeaaGreatDoor.Q
