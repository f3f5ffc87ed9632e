/- symbol.Dual. -/
import Derived.Test.YtejmmglffmckeaaDoorS4
namespace Go.Proofs.YtejmmglffmckeaaDoor.Q
open Go.RowKit

set_option maxRecDepth 100000 in
set_option maxHeartbeats 4000000 in
theorem dual_yes (p K F T : Int) (l : List Con) (n b o cap : Nat) (c0 cn : Con) (w : World) (hn : Hid (l.length = n)) (hn0 : 0 < n) (hn1 : n ≤ 1000) (hb : b < w.heap.size) (hc : Hid (∀ i c, l[i]? = some c → ConAt w b (o + i * 5) c))
    (h0 : Hid (l[0]? = some c0 ∧ c0.exp = F)) (h9 : Hid (l[n - 1]? = some cn ∧ cn.exp = T)) (hF0 : 0 ≤ F) (hF1 : F ≤ 60) (hT0 : 0 ≤ T) (hT1 : T ≤ 60) (hK0 : T ≤ K) (hK1 : K ≤ 60 + F) (hg : Hid (∀ c ∈ l, c.good))
    (hv : Hid (∀ W, Below w.heap.size w W → Calls Tryd.prog 12 #[.agg #[.int .i64 p, .slice (some ⟨b, o, none⟩) n cap]] W fun e w' => e = .returned (.bool true) ∧ Below W.heap.size W w')) :
    Calls Tryd.prog 6 #[.agg #[.int .i64 p, .slice (some ⟨b, o, none⟩) n cap], .int .i64 K] w (LocPost w p (l.reverse.map (turn K)) 0) := by
  have hfree : ∀ (W : World), Below w.heap.size w W → W.cell? ⟨b, o, none⟩ = some (.int .i64 F) ∧ W.cell? ⟨b, o + (n - 1) * 5, none⟩ = some (.int .i64 T) := by
    intro W hW
    have h1 := ((hc.out 0 c0 h0.out.1).below hW hb).c0
    have h2 := ((hc.out (n - 1) cn h9.out.1).below hW hb).c0
    rw [h0.out.2] at h1
    rw [h9.out.2] at h2
    exact ⟨by simpa using h1, h2⟩
  have hfr := Lib.hid hfree
  clear hfree h0 h9
  have hixl := ix_last (b := b) (o := o) (cap := cap) hn0
  have hclone := Lib.hid (fun (W : World) (hW : Below w.heap.size w W) => clone_cons l n b o cap W hn hn0 hn1 (by have := hW.size; omega) (fun i c hi => (hc.out i c hi).below hW hb))
  have hw1 : IntKind.i64.wrap ((n : Int) - 1) = (n : Int) - 1 := IntWalk.i64_in _ (by omega)
  have hw2 : (0 : Int) ≤ (n : Int) - 1 := by omega
  have hw3 : (n : Int) - 1 < (n : Int) := by omega
  go_enter Tryd.func6, Tryd.ntmps6
  go_wp2_with (go_at_call 12; refine (hv.out _ ?_).mono ?_; (exact ((Below.refl _ _).alloc (Nat.le_refl _) _).alloc (by simp) _); rintro e w1 ⟨rfl, hb1⟩; obtain ⟨hc1, hf1⟩ := bcell hb1; have hz1 := hb1.size; simp at hz1; have hb2 : Below w.heap.size w w1 := (((Below.refl _ _).alloc (Nat.le_refl _) _).alloc (by simp) _).trans (hb1.mono (by simp; omega)); obtain ⟨q1, q2⟩ := hfr.out w1 hb2; have e0 : w1.cell? ⟨w.heap.size, 0, none⟩ = some (.int .i64 p) := (by rw [hc1 _ _ (by simp; omega)]; simp [go_sem]); have e1 : w1.cell? ⟨w.heap.size, 1, none⟩ = some (.slice (some ⟨b, o, none⟩) n cap) := (by rw [hc1 _ _ (by simp; omega)]; simp [go_sem]); have e2 : w1.cell? ⟨w.heap.size + 1, 0, none⟩ = some (.int .i64 0) := (by rw [hc1 _ _ (by simp)]; simp [go_sem]); have e3 : w1.cell? ⟨w.heap.size + 1, 1, none⟩ = some (.slice none 0 0) := (by rw [hc1 _ _ (by simp)]; simp [go_sem]); have f2 : w1.frozen? ⟨w.heap.size + 1, 0, none⟩ = false := (by rw [hf1 _ _ (by simp)]; simp [go_sem]); have f3 : w1.frozen? ⟨w.heap.size + 1, 1, none⟩ = false := (by rw [hf1 _ _ (by simp)]; simp [go_sem]); clear hc1 hf1)
  go_hide hQ
  go_quiet (fail)
  subst hQ
  clear hixl hw1 hw2 hw3 q1 q2 hfr
  have hrev := Lib.hid (fun (W : World) (g c' base : Nat) (h1 : g < W.heap.size) (h2 : Own W base (.slice (some ⟨g, 0, none⟩) n c') l) => reverse_own l n g c' base W hn hn0 hn1 h1 h2)
  go_wp2_with (first
    | (go_at_call 15; refine (hclone.out _ ?_).mono ?_; (exact below_drewN hb2 _); rintro e w2 ⟨g, c', rfl, hg1, hg2, hown, hb3⟩; simp at hg1)
    | (go_at_call 16; refine (hrev.out _ _ _ _ hg2 hown.out).mono ?_; rintro e w3 ⟨rfl, hown3, hb5⟩))
  have hb4 : Below (w.heap.size + 2) w1 w3 := ((below_drewN (Below.refl _ w1) _).trans (hb3.mono (by simp; omega))).trans (hb5.mono (by omega))
  have hg3 : g < w3.heap.size := by have := hb5.size; omega
  have hz2 := hb4.size
  have hnr := Lib.hid (show l.reverse.length = n by rw [List.length_reverse]; exact hn.out)
  have hgr := Lib.hid (show ∀ c ∈ l.reverse, c.good from fun c hc => hg.out c (List.mem_reverse.1 hc))
  clear hb3 hb5 hown hg2 hclone hrev hg hc hn hv
  obtain ⟨lr, hlr⟩ : ∃ lr, lr = l.reverse := ⟨_, rfl⟩
  rw [← hlr] at hown3 hnr hgr
  have hlr' := Lib.hid hlr
  clear hlr
  go_loopw [45] (fun i wr => ∃ (k : Nat), k ≤ n ∧ i = .int .i64 k ∧ Below (w.heap.size + 2) w1 wr ∧ g < wr.heap.size ∧ Hid (Own wr (w.heap.size + 2) (.slice (some ⟨g, 0, none⟩) n c') ((lr.take k).map (turn K) ++ lr.drop k))) (fun i _ => (n - (intOf i).toNat))
  case atStart => exact ⟨0, by omega, rfl, hb4, hg3, Lib.hid (by simpa using hown3.out.base_le (by simp; omega))⟩
  case round =>
    obtain ⟨k, hk, rfl, hbe, hgs, hO⟩ := hrel
    clear hb4 hz2 hown3 hg3
    by_cases hlt : k < n
    · obtain ⟨c, hkc⟩ : ∃ c, lr[k]? = some c := ⟨lr[k]'(by rw [hnr.out]; exact hlt), List.getElem?_eq_getElem _⟩
      obtain ⟨g0, g1, g2, g3, g4⟩ := hO.out.at_ (upd_get hkc)
      have hfz := hO.out.free (k * 5)
      obtain ⟨x0, x1, -⟩ := hgr.out c (List.mem_of_getElem? hkc)
      have hO' := Lib.hid (hO.out.set (j := 0) (c' := turn K c) (u := .int .i64 (K - c.exp)) (upd_get hkc) (by omega) rfl)
      have hup := Lib.hid (upd_set (f := turn K) hkc)
      have hkc' := Lib.hid hkc
      clear hkc hO
      go_wp2
      go_roundw
      case rel =>
        refine ⟨k + 1, by omega, by go_num, hbe.setCell (by simp; omega) _, by simpa [World.setCell] using hgs, ?_⟩
        have := hO'.out
        rw [hup.out] at this
        exact Lib.hid (by simpa using this)
      case measure => simp [intOf]; omega
    · obtain rfl : k = n := by omega
      have hl := hO.out
      rw [upd_end hnr.out] at hl
      have hl' := Lib.hid hl
      clear hO hl
      obtain ⟨hcc, hff⟩ : (∀ b o, b < w.heap.size + 2 → wr.cell? ⟨b, o, none⟩ = w1.cell? ⟨b, o, none⟩) ∧ (∀ b o, b < w.heap.size + 2 → wr.frozen? ⟨b, o, none⟩ = w1.frozen? ⟨b, o, none⟩) := ⟨fun b o h => hbe.cell (p := ⟨b, o, none⟩) h, fun b o h => hbe.frozen (p := ⟨b, o, none⟩) h⟩
      have j0 : wr.cell? ⟨w.heap.size, 0, none⟩ = some (.int .i64 p) := by rw [hcc _ _ (by omega)]; exact e0
      have j2 : wr.cell? ⟨w.heap.size + 1, 0, none⟩ = some (.int .i64 0) := by rw [hcc _ _ (by omega)]; exact e2
      have j3 : wr.cell? ⟨w.heap.size + 1, 1, none⟩ = some (.slice none 0 0) := by rw [hcc _ _ (by omega)]; exact e3
      have k2 : wr.frozen? ⟨w.heap.size + 1, 0, none⟩ = false := by rw [hff _ _ (by omega)]; exact f2
      have k3 : wr.frozen? ⟨w.heap.size + 1, 1, none⟩ = false := by rw [hff _ _ (by omega)]; exact f3
      clear hcc hff
      go_wp2
      refine bodyPost_ret (v := .tuple #[.agg #[.int .i64 p, .slice (some ⟨g, 0, none⟩) k c'], .int .i64 0]) (by simp [results, Tryd.results6, go_sem, j2, j3]) rfl ⟨_, _, _, rfl, ?_, ?_⟩
      · rw [← hlr'.out]
        refine ((hl'.out.far (p := ⟨w.heap.size + 1, 0, none⟩) (fun j hj => ?_) _).far (p := ⟨w.heap.size + 1, 1, none⟩) (fun j hj => ?_) _).lst
        all_goals
          simp [Value.ownBlock] at hj
          simp
          omega
      · exact (((hb2.trans (hbe.mono (by omega))).setCell (by simp) _).setCell (by simp) _)

set_option maxRecDepth 100000 in
set_option maxHeartbeats 4000000 in
theorem dual_no (p K F T : Int) (l : List Con) (n b o cap : Nat) (c0 cn : Con) (w : World) (hn0 : 0 < n) (hn1 : n ≤ 1000) (hb : b < w.heap.size) (hc : Hid (∀ i c, l[i]? = some c → ConAt w b (o + i * 5) c))
    (h0 : Hid (l[0]? = some c0 ∧ c0.exp = F)) (h9 : Hid (l[n - 1]? = some cn ∧ cn.exp = T)) (hF0 : 0 ≤ F) (hF1 : F ≤ 60) (_ : 0 ≤ T) (_ : T ≤ 60) (hK : K < T ∨ 60 + F < K)
    (hv : Hid (∀ W, Below w.heap.size w W → Calls Tryd.prog 12 #[.agg #[.int .i64 p, .slice (some ⟨b, o, none⟩) n cap]] W fun e w' => e = .returned (.bool true) ∧ Below W.heap.size W w')) :
    Calls Tryd.prog 6 #[.agg #[.int .i64 p, .slice (some ⟨b, o, none⟩) n cap], .int .i64 K] w (LocPost w 0 [] 1) := by
  have hfree : ∀ (W : World), Below w.heap.size w W → W.cell? ⟨b, o, none⟩ = some (.int .i64 F) ∧ W.cell? ⟨b, o + (n - 1) * 5, none⟩ = some (.int .i64 T) := by
    intro W hW
    have h1 := ((hc.out 0 c0 h0.out.1).below hW hb).c0
    have h2 := ((hc.out (n - 1) cn h9.out.1).below hW hb).c0
    rw [h0.out.2] at h1
    rw [h9.out.2] at h2
    exact ⟨by simpa using h1, h2⟩
  have hfr := Lib.hid hfree
  clear hfree h0 h9
  have hixl := ix_last (b := b) (o := o) (cap := cap) hn0
  have hw1 : IntKind.i64.wrap ((n : Int) - 1) = (n : Int) - 1 := IntWalk.i64_in _ (by omega)
  have hw2 : (0 : Int) ≤ (n : Int) - 1 := by omega
  have hw3 : (n : Int) - 1 < (n : Int) := by omega
  have hK' := Lib.hid hK
  clear hK
  go_enter Tryd.func6, Tryd.ntmps6
  go_wp2_with (go_at_call 12; refine (hv.out _ ?_).mono ?_; (exact ((Below.refl _ _).alloc (Nat.le_refl _) _).alloc (by simp) _); rintro e w1 ⟨rfl, hb1⟩; obtain ⟨hc1, hf1⟩ := bcell hb1; have hz1 := hb1.size; simp at hz1; have hb2 : Below w.heap.size w w1 := (((Below.refl _ _).alloc (Nat.le_refl _) _).alloc (by simp) _).trans (hb1.mono (by simp; omega)); obtain ⟨q1, q2⟩ := hfr.out w1 hb2; have e0 : w1.cell? ⟨w.heap.size, 0, none⟩ = some (.int .i64 p) := (by rw [hc1 _ _ (by simp; omega)]; simp [go_sem]); have e1 : w1.cell? ⟨w.heap.size, 1, none⟩ = some (.slice (some ⟨b, o, none⟩) n cap) := (by rw [hc1 _ _ (by simp; omega)]; simp [go_sem]); have e2 : w1.cell? ⟨w.heap.size + 1, 0, none⟩ = some (.int .i64 0) := (by rw [hc1 _ _ (by simp)]; simp [go_sem]); have e3 : w1.cell? ⟨w.heap.size + 1, 1, none⟩ = some (.slice none 0 0) := (by rw [hc1 _ _ (by simp)]; simp [go_sem]); have f2 : w1.frozen? ⟨w.heap.size + 1, 0, none⟩ = false := (by rw [hf1 _ _ (by simp)]; simp [go_sem]); have f3 : w1.frozen? ⟨w.heap.size + 1, 1, none⟩ = false := (by rw [hf1 _ _ (by simp)]; simp [go_sem]); clear hc1 hf1)
  go_hide hQ
  go_quiet (fail)
  subst hQ
  clear hixl hw1 hw2 hw3 q1 q2 hfr
  by_cases hA : K < T
  · clear hK'
    go_wp2
    refine bodyPost_ret (v := .tuple #[.agg #[.int .i64 0, .slice none 0 0], .int .i64 1]) (by simp [results, Tryd.results6, go_sem, e2, e3]) rfl ⟨_, _, _, rfl, .inl ⟨rfl, _, _, rfl⟩, ?_⟩
    exact (((below_drewN hb2 _).setCell (by simp) _).setCell (by simp) _)
  · have hB : 60 + F < K := by rcases hK'.out with h | h <;> omega
    clear hK'
    go_wp2
    refine bodyPost_ret (v := .tuple #[.agg #[.int .i64 0, .slice none 0 0], .int .i64 1]) (by simp [results, Tryd.results6, go_sem, e2, e3]) rfl ⟨_, _, _, rfl, .inl ⟨rfl, _, _, rfl⟩, ?_⟩
    exact (((below_drewN hb2 _).setCell (by simp) _).setCell (by simp) _)

set_option maxRecDepth 100000 in
theorem dual_bad (p K : Int) (v : Value) (w : World)
    (hv : Hid (∀ W, Below w.heap.size w W → Calls Tryd.prog 12 #[.agg #[.int .i64 p, v]] W fun e w' => e = .returned (.bool false) ∧ Below W.heap.size W w')) :
    Calls Tryd.prog 6 #[.agg #[.int .i64 p, v], .int .i64 K] w (LocPost w 0 [] 22) := by
  go_enter Tryd.func6, Tryd.ntmps6
  go_wp2_with (go_at_call 12; refine (hv.out _ ?_).mono ?_; (exact ((Below.refl _ _).alloc (Nat.le_refl _) _).alloc (by simp) _); rintro e w1 ⟨rfl, hb1⟩; obtain ⟨hc1, hf1⟩ := bcell hb1; have hz1 := hb1.size; simp at hz1; have hb2 : Below w.heap.size w w1 := (((Below.refl _ _).alloc (Nat.le_refl _) _).alloc (by simp) _).trans (hb1.mono (by simp; omega)); have e2 : w1.cell? ⟨w.heap.size + 1, 0, none⟩ = some (.int .i64 0) := (by rw [hc1 _ _ (by simp)]; simp [go_sem]); have e3 : w1.cell? ⟨w.heap.size + 1, 1, none⟩ = some (.slice none 0 0) := (by rw [hc1 _ _ (by simp)]; simp [go_sem]); have f2 : w1.frozen? ⟨w.heap.size + 1, 0, none⟩ = false := (by rw [hf1 _ _ (by simp)]; simp [go_sem]); have f3 : w1.frozen? ⟨w.heap.size + 1, 1, none⟩ = false := (by rw [hf1 _ _ (by simp)]; simp [go_sem]); clear hc1 hf1)
  refine bodyPost_ret (v := .tuple #[.agg #[.int .i64 0, .slice none 0 0], .int .i64 22]) (by simp [results, Tryd.results6, go_sem, e2, e3]) rfl ⟨_, _, _, rfl, .inl ⟨rfl, _, _, rfl⟩, ?_⟩
  exact ((hb2.setCell (by simp) _).setCell (by simp) _)

/-- What dualising makes of a symbol. -/
noncomputable def duS (p : Int) (l : List Con) (K : Int) : Int × List Con × Int :=
  if vS p l = true then (if lastE l ≤ K ∧ K ≤ 60 + firstE l then (p, l.reverse.map (turn K), 0) else (0, [], 1)) else (0, [], 22)

theorem dual_calls (p K : Int) (l : List Con) (v : Value) (w : World) (hw : Offs w) (hl : Lst w v l) (hn : l.length ≤ 1000) :
    Calls Tryd.prog 6 #[.agg #[.int .i64 p, v], .int .i64 K] w (LocPost w (duS p l K).1 (duS p l K).2.1 (duS p l K).2.2) := by
  have hval : ∀ W, Below w.heap.size w W → Calls Tryd.prog 12 #[.agg #[.int .i64 p, v]] W fun e w' => e = .returned (.bool (vS p l)) ∧ Below W.heap.size W w' :=
    fun W hW => valid_calls p l v W (hw.below hW hw.pos) (hl.below hW (Nat.le_refl _)) hn
  unfold duS
  cases hv : vS p l
  · rw [hv] at hval
    exact dual_bad p K v w hval
  · rw [hv] at hval
    obtain ⟨h1, h2, h3, h4, h5⟩ := vS_parts hv
    obtain ⟨x1, x2, x3⟩ := exps_in h5 h4
    obtain ⟨c0, q0, q1⟩ := first_at h4
    obtain ⟨cn, r0, r1⟩ := last_at h4
    rcases hl with ⟨e, _⟩ | ⟨_, b, o, cap, rfl, hb, hcp, hc⟩
    · exact absurd e h4
    · have hpos : 0 < l.length := by cases l; exact absurd rfl h4; simp
      by_cases hK : lastE l ≤ K ∧ K ≤ 60 + firstE l
      · simp only [if_true, if_pos hK]
        exact dual_yes p K (firstE l) (lastE l) l l.length b o cap c0 cn w rfl hpos hn hb hc ⟨q0, q1⟩ ⟨r0, r1⟩ x1 (by omega) (by omega) x3 hK.1 hK.2 (vL_good (by omega) (by omega) h5) hval
      · simp only [if_true, if_neg hK]
        exact dual_no p K (firstE l) (lastE l) l l.length b o cap c0 cn w hpos hn hb hc ⟨q0, q1⟩ ⟨r0, r1⟩ x1 (by omega) (by omega) x3 (by omega) hval
end Go.Proofs.YtejmmglffmckeaaDoor.Q
