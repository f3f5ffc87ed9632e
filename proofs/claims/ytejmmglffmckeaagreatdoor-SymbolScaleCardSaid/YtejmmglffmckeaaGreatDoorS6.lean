/- quadformref26.Dual. -/
import Derived.Test.YtejmmglffmckeaaGreatDoorS5
namespace Go.Proofs.YtejmmglffmckeaaGreatDoor.Q
open Go.RowKit

set_option maxRecDepth 100000 in
set_option maxHeartbeats 4000000 in
theorem rdual_in (p K : Int) (l : List Con) (n b o cap : Nat) (w : World) (hn : Hid (l.length = n)) (hn0 : 0 < n) (hn1 : n ≤ 1000) (hb : b < w.heap.size) (hc : Hid (∀ i c, l[i]? = some c → ConAt w b (o + i * 5) c))
    (hK0 : 0 ≤ K) (hK1 : K ≤ 120) (hg : Hid (∀ c ∈ l, c.good)) (r : Bool) (hr : Hid (vS p (l.reverse.map (turn K)) = r))
    (hv : Hid (∀ W, Below w.heap.size w W → Calls Tryz.prog 19 #[.agg #[.int .i64 p, .slice (some ⟨b, o, none⟩) n cap]] W fun e w' => e = .returned (.bool true) ∧ Below W.heap.size W w')) :
    Calls Tryz.prog 37 #[.agg #[.int .i64 p, .slice (some ⟨b, o, none⟩) n cap], .int .i64 K] w fun e w' => (r = true → LocPost w p (l.reverse.map (turn K)) 0 e w') ∧ (r = false → LocPost w 0 [] 1 e w') := by
  obtain ⟨i0, hi, hz0, hz1, hz2⟩ := info_parts74
  have hi' := Lib.hid hi
  have hz0' := Lib.hid hz0
  have hz1' := Lib.hid hz1
  have hz2' := Lib.hid hz2
  clear hi hz0 hz1 hz2
  go_enter Tryz.func37, Tryz.ntmps37
  go_wp2_with (go_at_call 19; refine (hv.out _ ?_).mono ?_; (exact ((Below.refl _ _).alloc (Nat.le_refl _) _).alloc (by simp) _); rintro e w1 ⟨rfl, hb1⟩; obtain ⟨hc1, hf1⟩ := bcell hb1; have hz1 := hb1.size; simp at hz1; have hb2 : Below w.heap.size w w1 := (((Below.refl _ _).alloc (Nat.le_refl _) _).alloc (by simp) _).trans (hb1.mono (by simp; omega)); have e0 : w1.cell? ⟨w.heap.size, 0, none⟩ = some (.int .i64 p) := (by rw [hc1 _ _ (by simp; omega)]; simp [go_sem]); have e1 : w1.cell? ⟨w.heap.size, 1, none⟩ = some (.slice (some ⟨b, o, none⟩) n cap) := (by rw [hc1 _ _ (by simp; omega)]; simp [go_sem]); have e2 : w1.cell? ⟨w.heap.size + 1, 0, none⟩ = some (.int .i64 0) := (by rw [hc1 _ _ (by simp)]; simp [go_sem]); have e3 : w1.cell? ⟨w.heap.size + 1, 1, none⟩ = some (.slice none 0 0) := (by rw [hc1 _ _ (by simp)]; simp [go_sem]); have f2 : w1.frozen? ⟨w.heap.size + 1, 0, none⟩ = false := (by rw [hf1 _ _ (by simp)]; simp [go_sem]); have f3 : w1.frozen? ⟨w.heap.size + 1, 1, none⟩ = false := (by rw [hf1 _ _ (by simp)]; simp [go_sem]); clear hc1 hf1; have hl0 : w.heap.size < w1.heap.size := (by omega); have hl1 : w.heap.size + 1 < w1.heap.size := (by omega))
  go_loopw [7] (fun i wr => ∃ (k : Nat) (v : Value), k ≤ n ∧ i = .int .i64 ((n : Int) - 1 - k) ∧ Below w1.heap.size w1 wr ∧ w1.heap.size < wr.heap.size ∧ wr.cell? ⟨w1.heap.size, 0, none⟩ = some (.int .i64 p) ∧ wr.cell? ⟨w1.heap.size, 1, none⟩ = some v ∧ wr.frozen? ⟨w1.heap.size, 1, none⟩ = false ∧ Hid (Own wr (w1.heap.size + 1) v ((l.reverse.take k).map (turn K)))) (fun i _ => (intOf i + 1).toNat)
  case atStart => exact ⟨0, .slice none 0 0, by omega, by simp, (Below.refl _ _).alloc (Nat.le_refl _) _, by simp, by simp [go_sem], by simp [go_sem], by simp [go_sem], World.ownsRow_nil _ _ _ _⟩
  case round =>
    obtain ⟨k, v, hk, rfl, hbe, hbs, j0, j1, j2, hO⟩ := hrel
    by_cases hlt : k < n
    · obtain ⟨c, hkd⟩ : ∃ c, l[n - 1 - k]? = some c := ⟨l[n - 1 - k]'(by rw [hn.out]; omega), List.getElem?_eq_getElem _⟩
      have hkc : l.reverse[k]? = some c := by rw [List.getElem?_reverse (by rw [hn.out]; exact hlt), hn.out]; exact hkd
      have hixk := fun W => run_ix (i := n - 1 - k) (n := n) (I := (n : Int) - 1 - k) (by omega) (by omega) b o cap W
      have c1 : (0 : Int) ≤ (n : Int) - 1 - k := by omega
      have jl : wr.cell? ⟨w.heap.size, 1, none⟩ = some (.slice (some ⟨b, o, none⟩) n cap) := by rw [hbe.cell (p := ⟨w.heap.size, 1, none⟩) (by simp; omega)]; exact e1
      obtain ⟨g0, g1, g2, g3, g4⟩ := (hc.out (n - 1 - k) c hkd).below (hb2.trans (hbe.mono (by omega))) hb
      obtain ⟨x0, x1, -⟩ := hg.out c (List.mem_of_getElem? hkd)
      have hsn := Lib.hid (map_snoc (f := turn K) hkc)
      have hlen := Lib.hid (show ((l.reverse.take k).map (turn K)).length ≤ n by simp; omega)
      have hsz := hbe.size
      clear hkc hkd
      generalize hLL : (l.reverse.take k).map (turn K) = LL at hO hsn hlen
      clear hLL
      have hOl : v.ownBlock ≠ some w1.heap.size := fun e => by have := (hO.out.lt _ e).1; omega
      go_wp2_with (first
        | (at_builtin; refine wpList_append_own _ rfl _ _ 22 rfl (w1.heap.size + 1) 74 i0 _ 5 40 Tryz.underlying22 hi'.out hz0'.out hz1'.out hz2'.out rfl (by decide) _ LL.length (flat LL) rfl ((hO.out.alloc _).alloc _) ⟨wr.heap.size + 1, 0, none⟩ 1 1 (turn K c).vals rfl rfl ?_ (conVals_one _) (by have := hlen.out; unfold maxLen; omega) (by have := hlen.out; omega) (by simp; omega) ?_
           · exact five_new (by simp) _ rfl _
           intro v' w3 hown' hgrow3 hnil3
           obtain ⟨hO3, hb3, hs3⟩ := app_step (by simp; omega) ((hO.out.alloc _).alloc _) hown' hgrow3
           obtain ⟨gg, cp, rfl, hg1, hg2⟩ := hO3.form (by simp)
           have y1 : w3.cell? ⟨w1.heap.size, 0, none⟩ = some (.int .i64 p) := by rw [hb3.cell (p := ⟨w1.heap.size, 0, none⟩) (by simp)]; simp [go_sem, j0, hbs]
           have y2 : w3.cell? ⟨w1.heap.size, 1, none⟩ = some v := by rw [hb3.cell (p := ⟨w1.heap.size, 1, none⟩) (by simp)]; simp [go_sem, j1, hbs]
           have y3 : w3.frozen? ⟨w1.heap.size, 1, none⟩ = false := by rw [hb3.frozen (p := ⟨w1.heap.size, 1, none⟩) (by simp)]; simp [go_sem, j2, hbs]
           simp at hs3
           have X := Lib.hid (And.intro hO3 hb3)
           clear hown' hgrow3 hnil3 hO3 hb3))
      go_roundw
      case rel =>
        refine ⟨k + 1, .slice (some ⟨gg, 0, none⟩) (LL ++ [turn K c]).length cp, by omega, by go_num, ?_, by simpa [World.setCell] using (by omega : w1.heap.size < w3.heap.size), by simp [go_sem, y1], by simp [go_sem, y2], by simp [go_sem, y3], ?_⟩
        · exact (((hbe.alloc (by omega) _).alloc (by simp; omega) _).trans (X.out.2.mono (by omega))).setCell (by simp) _
        · rw [← hsn.out]
          exact Lib.hid (by simpa using X.out.1.far (p := ⟨w1.heap.size, 1, none⟩) (fun j hj => by have := (X.out.1.lt j hj).1; simp; omega) (.slice (some ⟨gg, 0, none⟩) (LL ++ [turn K c]).length cp))
      case measure => simp [intOf]; omega
    · obtain rfl : k = n := by omega
      have c1 : ¬ (0 : Int) ≤ (k : Int) - 1 - k := by omega
      have hl := hO.out
      rw [List.take_of_length_le (by rw [List.length_reverse, hn.out]; omega)] at hl
      have hl' := Lib.hid hl
      clear hO hl
      obtain ⟨hcc, hff⟩ := bcell hbe
      have m2 : wr.cell? ⟨w.heap.size + 1, 0, none⟩ = some (.int .i64 0) := by rw [hcc _ _ (by omega)]; exact e2
      have m3 : wr.cell? ⟨w.heap.size + 1, 1, none⟩ = some (.slice none 0 0) := by rw [hcc _ _ (by omega)]; exact e3
      have k2 : wr.frozen? ⟨w.heap.size + 1, 0, none⟩ = false := by rw [hff _ _ (by omega)]; exact f2
      have k3 : wr.frozen? ⟨w.heap.size + 1, 1, none⟩ = false := by rw [hff _ _ (by omega)]; exact f3
      clear hcc hff e2 e3 f2 f3 e0 e1
      have hvr := Lib.hid ((rvalid_calls p (l.reverse.map (turn K)) v wr hl'.out.lst (by simp [hn.out]; omega)).mono (R' := fun e w' => e = .returned (.bool r) ∧ Below wr.heap.size wr w') (by rintro e w' ⟨rfl, hb⟩; exact ⟨ret_bool hr.out, hb⟩))
      obtain ⟨av, nv, cv, hav⟩ := hl'.out.lst.form
      subst hav
      cases r
      · go_wp2_with (go_at_call 19; refine hvr.out.mono ?_; rintro e w4 ⟨rfl, hb4⟩; obtain ⟨hc4, hf4⟩ := bcell hb4; have n2 : w4.cell? ⟨w.heap.size + 1, 0, none⟩ = some (.int .i64 0) := (by rw [hc4 _ _ (by omega)]; exact m2); have n3 : w4.cell? ⟨w.heap.size + 1, 1, none⟩ = some (.slice none 0 0) := (by rw [hc4 _ _ (by omega)]; exact m3); have o2 : w4.frozen? ⟨w.heap.size + 1, 0, none⟩ = false := (by rw [hf4 _ _ (by omega)]; exact k2); have o3 : w4.frozen? ⟨w.heap.size + 1, 1, none⟩ = false := (by rw [hf4 _ _ (by omega)]; exact k3); clear hc4 hf4)
        refine bodyPost_ret (v := .tuple #[.agg #[.int .i64 0, .slice none 0 0], .int .i64 1]) (by simp [results, Tryz.results37, go_sem, n2, n3]) rfl ⟨_, _, _, rfl, .inl ⟨rfl, _, _, rfl⟩, ?_⟩
        exact ((((hb2.trans (hbe.mono (by omega))).trans (hb4.mono (by omega))).setCell (by simp) _).setCell (by simp) _)
      · go_wp2_with (go_at_call 19; refine hvr.out.mono ?_; rintro e w4 ⟨rfl, hb4⟩; obtain ⟨hc4, hf4⟩ := bcell hb4; have n2 : w4.cell? ⟨w.heap.size + 1, 0, none⟩ = some (.int .i64 0) := (by rw [hc4 _ _ (by omega)]; exact m2); have n3 : w4.cell? ⟨w.heap.size + 1, 1, none⟩ = some (.slice none 0 0) := (by rw [hc4 _ _ (by omega)]; exact m3); have o2 : w4.frozen? ⟨w.heap.size + 1, 0, none⟩ = false := (by rw [hf4 _ _ (by omega)]; exact k2); have o3 : w4.frozen? ⟨w.heap.size + 1, 1, none⟩ = false := (by rw [hf4 _ _ (by omega)]; exact k3); have n0 : w4.cell? ⟨w1.heap.size, 0, none⟩ = some (.int .i64 p) := (by rw [hc4 _ _ (by omega)]; exact j0); have n1 : w4.cell? ⟨w1.heap.size, 1, none⟩ = some (.slice av nv cv) := (by rw [hc4 _ _ (by omega)]; exact j1); clear hc4 hf4)
        refine bodyPost_ret (v := .tuple #[.agg #[.int .i64 p, .slice av nv cv], .int .i64 0]) (by simp [results, Tryz.results37, go_sem, n2, n3]) rfl ⟨_, _, _, rfl, ?_, ?_⟩
        · have hq := hl'.out
          rw [List.map_reverse] at hq
          refine (((hq.below hb4).far (p := ⟨w.heap.size + 1, 0, none⟩) (fun j hj => ?_) _).far (p := ⟨w.heap.size + 1, 1, none⟩) (fun j hj => ?_) _).lst
          all_goals
            have := (hl'.out.lt j hj).1
            simp
            omega
        · exact ((((hb2.trans (hbe.mono (by omega))).trans (hb4.mono (by omega))).setCell (by simp) _).setCell (by simp) _)

set_option maxRecDepth 100000 in
theorem rdual_bad (p K : Int) (v : Value) (w : World)
    (hv : Hid (∀ W, Below w.heap.size w W → Calls Tryz.prog 19 #[.agg #[.int .i64 p, v]] W fun e w' => e = .returned (.bool false) ∧ Below W.heap.size W w')) :
    Calls Tryz.prog 37 #[.agg #[.int .i64 p, v], .int .i64 K] w (LocPost w 0 [] 22) := by
  go_enter Tryz.func37, Tryz.ntmps37
  go_wp2_with (go_at_call 19; refine (hv.out _ ?_).mono ?_; (exact ((Below.refl _ _).alloc (Nat.le_refl _) _).alloc (by simp) _); rintro e w1 ⟨rfl, hb1⟩; obtain ⟨hc1, hf1⟩ := bcell hb1; have hz1 := hb1.size; simp at hz1; have hb2 : Below w.heap.size w w1 := (((Below.refl _ _).alloc (Nat.le_refl _) _).alloc (by simp) _).trans (hb1.mono (by simp; omega)); have e2 : w1.cell? ⟨w.heap.size + 1, 0, none⟩ = some (.int .i64 0) := (by rw [hc1 _ _ (by simp)]; simp [go_sem]); have e3 : w1.cell? ⟨w.heap.size + 1, 1, none⟩ = some (.slice none 0 0) := (by rw [hc1 _ _ (by simp)]; simp [go_sem]); have f2 : w1.frozen? ⟨w.heap.size + 1, 0, none⟩ = false := (by rw [hf1 _ _ (by simp)]; simp [go_sem]); have f3 : w1.frozen? ⟨w.heap.size + 1, 1, none⟩ = false := (by rw [hf1 _ _ (by simp)]; simp [go_sem]); clear hc1 hf1)
  refine bodyPost_ret (v := .tuple #[.agg #[.int .i64 0, .slice none 0 0], .int .i64 22]) (by simp [results, Tryz.results37, go_sem, e2, e3]) rfl ⟨_, _, _, rfl, .inl ⟨rfl, _, _, rfl⟩, ?_⟩
  exact ((hb2.setCell (by simp) _).setCell (by simp) _)

set_option maxRecDepth 100000 in
theorem rdual_out (p K : Int) (v : Value) (w : World) (hK : K < 0 ∨ 120 < K)
    (hv : Hid (∀ W, Below w.heap.size w W → Calls Tryz.prog 19 #[.agg #[.int .i64 p, v]] W fun e w' => e = .returned (.bool true) ∧ Below W.heap.size W w')) :
    Calls Tryz.prog 37 #[.agg #[.int .i64 p, v], .int .i64 K] w (LocPost w 0 [] 1) := by
  by_cases hA : K < 0
  · clear hK
    go_enter Tryz.func37, Tryz.ntmps37
    go_wp2_with (go_at_call 19; refine (hv.out _ ?_).mono ?_; (exact ((Below.refl _ _).alloc (Nat.le_refl _) _).alloc (by simp) _); rintro e w1 ⟨rfl, hb1⟩; obtain ⟨hc1, hf1⟩ := bcell hb1; have hz1 := hb1.size; simp at hz1; have hb2 : Below w.heap.size w w1 := (((Below.refl _ _).alloc (Nat.le_refl _) _).alloc (by simp) _).trans (hb1.mono (by simp; omega)); have e2 : w1.cell? ⟨w.heap.size + 1, 0, none⟩ = some (.int .i64 0) := (by rw [hc1 _ _ (by simp)]; simp [go_sem]); have e3 : w1.cell? ⟨w.heap.size + 1, 1, none⟩ = some (.slice none 0 0) := (by rw [hc1 _ _ (by simp)]; simp [go_sem]); have f2 : w1.frozen? ⟨w.heap.size + 1, 0, none⟩ = false := (by rw [hf1 _ _ (by simp)]; simp [go_sem]); have f3 : w1.frozen? ⟨w.heap.size + 1, 1, none⟩ = false := (by rw [hf1 _ _ (by simp)]; simp [go_sem]); clear hc1 hf1)
    refine bodyPost_ret (v := .tuple #[.agg #[.int .i64 0, .slice none 0 0], .int .i64 1]) (by simp [results, Tryz.results37, go_sem, e2, e3]) rfl ⟨_, _, _, rfl, .inl ⟨rfl, _, _, rfl⟩, ?_⟩
    exact ((hb2.setCell (by simp) _).setCell (by simp) _)
  · have hB : 120 < K := by omega
    clear hK
    go_enter Tryz.func37, Tryz.ntmps37
    go_wp2_with (go_at_call 19; refine (hv.out _ ?_).mono ?_; (exact ((Below.refl _ _).alloc (Nat.le_refl _) _).alloc (by simp) _); rintro e w1 ⟨rfl, hb1⟩; obtain ⟨hc1, hf1⟩ := bcell hb1; have hz1 := hb1.size; simp at hz1; have hb2 : Below w.heap.size w w1 := (((Below.refl _ _).alloc (Nat.le_refl _) _).alloc (by simp) _).trans (hb1.mono (by simp; omega)); have e2 : w1.cell? ⟨w.heap.size + 1, 0, none⟩ = some (.int .i64 0) := (by rw [hc1 _ _ (by simp)]; simp [go_sem]); have e3 : w1.cell? ⟨w.heap.size + 1, 1, none⟩ = some (.slice none 0 0) := (by rw [hc1 _ _ (by simp)]; simp [go_sem]); have f2 : w1.frozen? ⟨w.heap.size + 1, 0, none⟩ = false := (by rw [hf1 _ _ (by simp)]; simp [go_sem]); have f3 : w1.frozen? ⟨w.heap.size + 1, 1, none⟩ = false := (by rw [hf1 _ _ (by simp)]; simp [go_sem]); clear hc1 hf1)
    refine bodyPost_ret (v := .tuple #[.agg #[.int .i64 0, .slice none 0 0], .int .i64 1]) (by simp [results, Tryz.results37, go_sem, e2, e3]) rfl ⟨_, _, _, rfl, .inl ⟨rfl, _, _, rfl⟩, ?_⟩
    exact ((hb2.setCell (by simp) _).setCell (by simp) _)


theorem rdual_calls (p K : Int) (l : List Con) (v : Value) (w : World) (hl : Lst w v l) (hn : l.length ≤ 1000) :
    Calls Tryz.prog 37 #[.agg #[.int .i64 p, v], .int .i64 K] w (LocPost w (duS p l K).1 (duS p l K).2.1 (duS p l K).2.2) := by
  have hval : ∀ W, Below w.heap.size w W → Calls Tryz.prog 19 #[.agg #[.int .i64 p, v]] W fun e w' => e = .returned (.bool (vS p l)) ∧ Below W.heap.size W w' :=
    fun W hW => rvalid_calls p l v W (hl.below hW (Nat.le_refl _)) hn
  unfold duS
  cases hv : vS p l
  · rw [hv] at hval
    exact rdual_bad p K v w hval
  · rw [hv] at hval
    obtain ⟨h1, h2, h3, h4, h5⟩ := vS_parts hv
    obtain ⟨x1, x2, x3⟩ := exps_in h5 h4
    by_cases hO : K < 0 ∨ 120 < K
    · have hK : ¬ (lastE l ≤ K ∧ K ≤ 60 + firstE l) := by omega
      simp only [if_true, if_neg hK]
      exact rdual_out p K v w hO hval
    · rcases hl with ⟨e, _⟩ | ⟨_, b, o, cap, rfl, hb, hc⟩
      · exact absurd e h4
      · have hpos : 0 < l.length := by cases l; exact absurd rfl h4; simp
        have hm : vS p (l.reverse.map (turn K)) = decide (lastE l ≤ K ∧ K ≤ 60 + firstE l) := by
          rw [vS_of hv (by simpa using h4), vL_turn h5 h4]
        refine (rdual_in p K l l.length b o cap w rfl hpos hn hb hc (by omega) (by omega) (vL_good (by omega) (by omega) h5) _ hm hval).mono ?_
        rintro e w' ⟨g1, g2⟩
        by_cases hK : lastE l ≤ K ∧ K ≤ 60 + firstE l
        · simp only [if_true, if_pos hK]
          exact g1 (decide_eq_true hK)
        · simp only [if_true, if_neg hK]
          exact g2 (decide_eq_false hK)
end Go.Proofs.YtejmmglffmckeaaGreatDoor.Q
