/- symbol.Scale. -/
import Derived.Test.YtejmmglffmckeaaDoorS1
namespace Go.Proofs.YtejmmglffmckeaaDoor.Q
open Go.RowKit

/-- A symbol and an error code come back. -/
def LocPost (w : World) (P : Int) (L : List Con) (err : Int) (e : Ending) (w' : World) : Prop :=
  ∃ av nv cv, e = .returned (.tuple #[.agg #[.int .i64 P, .slice av nv cv], .int .i64 err]) ∧ Lst w' (.slice av nv cv) L ∧ Below w.heap.size w w'

theorem upd_get {f : Con → Con} {l : List Con} {k : Nat} {c : Con} (h : l[k]? = some c) : ((l.take k).map f ++ l.drop k)[k]? = some c := by
  have hk := (List.getElem?_eq_some_iff.1 h).1
  rw [List.getElem?_append_right (by simp; omega)]
  simp only [List.length_map, List.length_take, Nat.min_eq_left (Nat.le_of_lt hk), Nat.sub_self, List.getElem?_drop, Nat.add_zero]
  exact h
theorem upd_set {f : Con → Con} {l : List Con} {k : Nat} {c : Con} (h : l[k]? = some c) : ((l.take k).map f ++ l.drop k).set k (f c) = (l.take (k + 1)).map f ++ l.drop (k + 1) := by
  have hk := (List.getElem?_eq_some_iff.1 h).1
  rw [take_snoc h, List.map_append, List.set_append_right _ _ (by simp; omega), List.append_assoc]
  congr 1
  simp only [List.length_map, List.length_take, Nat.min_eq_left (Nat.le_of_lt hk), Nat.sub_self]
  rw [List.getElem?_eq_some_iff] at h
  obtain ⟨hk', rfl⟩ := h
  rw [List.drop_eq_getElem_cons hk']
  rfl
theorem upd_end {f : Con → Con} {l : List Con} {n : Nat} (h : l.length = n) : (l.take n).map f ++ l.drop n = l.map f := by
  rw [List.take_of_length_le (by omega), List.drop_eq_nil_of_le (by omega), List.append_nil]

theorem ix_last {n b o cap : Nat} (h : 0 < n) (W : World) : (Instr.indexAt 26 (.slice (some ⟨b, o, none⟩) n cap) (.int .i64 ((n : Int) - 1))).run Tryd.prog W = .ok (.pointer (some ⟨b, o + (n - 1) * 5, none⟩)) W :=
  run_ix (i := n - 1) (by omega) (by omega) b o cap W

set_option maxRecDepth 100000 in
set_option maxHeartbeats 4000000 in
theorem scale_yes (p K F T : Int) (l : List Con) (n b o cap : Nat) (c0 cn : Con) (w : World) (hn : Hid (l.length = n)) (hn0 : 0 < n) (hn1 : n ≤ 1000) (hb : b < w.heap.size) (hc : Hid (∀ i c, l[i]? = some c → ConAt w b (o + i * 5) c))
    (h0 : Hid (l[0]? = some c0 ∧ c0.exp = F)) (h9 : Hid (l[n - 1]? = some cn ∧ cn.exp = T)) (hF0 : 0 ≤ F) (hF1 : F ≤ 60) (hT0 : 0 ≤ T) (hT1 : T ≤ 60) (hK0 : -F ≤ K) (hK1 : K ≤ 60 - T) (hg : Hid (∀ c ∈ l, c.good))
    (hv : Hid (∀ W, Below w.heap.size w W → Calls Tryd.prog 12 #[.agg #[.int .i64 p, .slice (some ⟨b, o, none⟩) n cap]] W fun e w' => e = .returned (.bool true) ∧ Below W.heap.size W w')) :
    Calls Tryd.prog 7 #[.agg #[.int .i64 p, .slice (some ⟨b, o, none⟩) n cap], .int .i64 K] w (LocPost w p (l.map (shift K)) 0) := by
  have hfree : ∀ (W : World), Below w.heap.size w W → W.cell? ⟨b, o, none⟩ = some (.int .i64 F) ∧ W.cell? ⟨b, o + (n - 1) * 5, none⟩ = some (.int .i64 T) := by
    intro W hW
    have h1 := ((hc.out 0 c0 h0.out.1).below hW hb).c0
    have h2 := ((hc.out (n - 1) cn h9.out.1).below hW hb).c0
    rw [h0.out.2] at h1
    rw [h9.out.2] at h2
    exact ⟨by simpa using h1, h2⟩
  have hfr := Lib.hid hfree
  clear hfree h0 h9
  have hixl := ix_last (b := b) (o := o) (cap := cap) hn0
  have hclone := Lib.hid (fun (W : World) (hW : Below w.heap.size w W) => clone_cons l n b o cap W hn hn0 hn1 (by have := hW.size; omega) (fun i c hi => (hc.out i c hi).below hW hb))
  have hw1 : IntKind.i64.wrap ((n : Int) - 1) = (n : Int) - 1 := IntWalk.i64_in _ (by omega)
  have hw2 : (0 : Int) ≤ (n : Int) - 1 := by omega
  have hw3 : (n : Int) - 1 < (n : Int) := by omega
  go_enter Tryd.func7, Tryd.ntmps7
  go_wp2_with (go_at_call 12; refine (hv.out _ ?_).mono ?_; (exact ((Below.refl _ _).alloc (Nat.le_refl _) _).alloc (by simp) _); rintro e w1 ⟨rfl, hb1⟩; obtain ⟨hc1, hf1⟩ := bcell hb1; have hz1 := hb1.size; simp at hz1; have hb2 : Below w.heap.size w w1 := (((Below.refl _ _).alloc (Nat.le_refl _) _).alloc (by simp) _).trans (hb1.mono (by simp; omega)); obtain ⟨q1, q2⟩ := hfr.out w1 hb2; have e0 : w1.cell? ⟨w.heap.size, 0, none⟩ = some (.int .i64 p) := (by rw [hc1 _ _ (by simp; omega)]; simp [go_sem]); have e1 : w1.cell? ⟨w.heap.size, 1, none⟩ = some (.slice (some ⟨b, o, none⟩) n cap) := (by rw [hc1 _ _ (by simp; omega)]; simp [go_sem]); have e2 : w1.cell? ⟨w.heap.size + 1, 0, none⟩ = some (.int .i64 0) := (by rw [hc1 _ _ (by simp)]; simp [go_sem]); have e3 : w1.cell? ⟨w.heap.size + 1, 1, none⟩ = some (.slice none 0 0) := (by rw [hc1 _ _ (by simp)]; simp [go_sem]); have f2 : w1.frozen? ⟨w.heap.size + 1, 0, none⟩ = false := (by rw [hf1 _ _ (by simp)]; simp [go_sem]); have f3 : w1.frozen? ⟨w.heap.size + 1, 1, none⟩ = false := (by rw [hf1 _ _ (by simp)]; simp [go_sem]); clear hc1 hf1)
  go_hide hQ
  go_quiet (fail)
  subst hQ
  clear hixl hw1 hw2 hw3 q1 q2 hfr
  go_wp2_with (go_at_call 15; refine (hclone.out _ ?_).mono ?_; (exact below_drewN hb2 _); rintro e w2 ⟨g, c', rfl, hg1, hg2, hown, hb3⟩; simp at hg1)
  have hb4 : Below (w.heap.size + 2) w1 w2 := (below_drewN (Below.refl _ w1) _).trans (hb3.mono (by simp; omega))
  have hz2 := hb4.size
  go_loopw [44] (fun i wr => ∃ (k : Nat), k ≤ n ∧ i = .int .i64 k ∧ Below (w.heap.size + 2) w1 wr ∧ g < wr.heap.size ∧ Hid (Own wr (w.heap.size + 2) (.slice (some ⟨g, 0, none⟩) n c') ((l.take k).map (shift K) ++ l.drop k))) (fun i _ => (n - (intOf i).toNat))
  case atStart => exact ⟨0, by omega, rfl, hb4, hg2, Lib.hid (by simpa using hown.out.base_le (by simp; omega))⟩
  case round =>
    obtain ⟨k, hk, rfl, hbe, hgs, hO⟩ := hrel
    clear hb3 hb4 hz2 hown hg2 w2
    by_cases hlt : k < n
    · obtain ⟨c, hkc⟩ : ∃ c, l[k]? = some c := ⟨l[k]'(by rw [hn.out]; exact hlt), List.getElem?_eq_getElem _⟩
      obtain ⟨g0, g1, g2, g3, g4⟩ := hO.out.at_ (upd_get hkc)
      have hfz := hO.out.free (k * 5)
      obtain ⟨x0, x1, -⟩ := hg.out c (List.mem_of_getElem? hkc)
      have hO' := Lib.hid (hO.out.set (j := 0) (c' := shift K c) (u := .int .i64 (c.exp + K)) (upd_get hkc) (by omega) rfl)
      have hup := Lib.hid (upd_set (f := shift K) hkc)
      have hkc' := Lib.hid hkc
      clear hkc hO
      go_wp2
      go_roundw
      case rel =>
        refine ⟨k + 1, by omega, by go_num, hbe.setCell (by simp; omega) _, by simpa [World.setCell] using hgs, ?_⟩
        have := hO'.out
        rw [hup.out] at this
        exact Lib.hid (by simpa using this)
      case measure => simp [intOf]; omega
    · obtain rfl : k = n := by omega
      have hl := hO.out
      rw [upd_end hn.out] at hl
      have hl' := Lib.hid hl
      clear hO hl
      obtain ⟨hcc, hff⟩ : (∀ b o, b < w.heap.size + 2 → wr.cell? ⟨b, o, none⟩ = w1.cell? ⟨b, o, none⟩) ∧ (∀ b o, b < w.heap.size + 2 → wr.frozen? ⟨b, o, none⟩ = w1.frozen? ⟨b, o, none⟩) := ⟨fun b o h => hbe.cell (p := ⟨b, o, none⟩) h, fun b o h => hbe.frozen (p := ⟨b, o, none⟩) h⟩
      have j0 : wr.cell? ⟨w.heap.size, 0, none⟩ = some (.int .i64 p) := by rw [hcc _ _ (by omega)]; exact e0
      have j2 : wr.cell? ⟨w.heap.size + 1, 0, none⟩ = some (.int .i64 0) := by rw [hcc _ _ (by omega)]; exact e2
      have j3 : wr.cell? ⟨w.heap.size + 1, 1, none⟩ = some (.slice none 0 0) := by rw [hcc _ _ (by omega)]; exact e3
      have k2 : wr.frozen? ⟨w.heap.size + 1, 0, none⟩ = false := by rw [hff _ _ (by omega)]; exact f2
      have k3 : wr.frozen? ⟨w.heap.size + 1, 1, none⟩ = false := by rw [hff _ _ (by omega)]; exact f3
      clear hcc hff
      go_wp2
      refine bodyPost_ret (v := .tuple #[.agg #[.int .i64 p, .slice (some ⟨g, 0, none⟩) k c'], .int .i64 0]) (by simp [results, Tryd.results7, go_sem, j2, j3]) rfl ⟨_, _, _, rfl, ?_, ?_⟩
      · refine ((hl'.out.far (p := ⟨w.heap.size + 1, 0, none⟩) (fun j hj => ?_) _).far (p := ⟨w.heap.size + 1, 1, none⟩) (fun j hj => ?_) _).lst
        all_goals
          simp [Value.ownBlock] at hj
          simp
          omega
      · exact (((hb2.trans (hbe.mono (by omega))).setCell (by simp) _).setCell (by simp) _)

set_option maxRecDepth 100000 in
set_option maxHeartbeats 4000000 in
theorem scale_no (p K F T : Int) (l : List Con) (n b o cap : Nat) (c0 cn : Con) (w : World) (hn0 : 0 < n) (hn1 : n ≤ 1000) (hb : b < w.heap.size) (hc : Hid (∀ i c, l[i]? = some c → ConAt w b (o + i * 5) c))
    (h0 : Hid (l[0]? = some c0 ∧ c0.exp = F)) (h9 : Hid (l[n - 1]? = some cn ∧ cn.exp = T)) (hF0 : 0 ≤ F) (hF1 : F ≤ 60) (hT0 : 0 ≤ T) (hT1 : T ≤ 60) (hK : K < -F ∨ 60 - T < K)
    (hv : Hid (∀ W, Below w.heap.size w W → Calls Tryd.prog 12 #[.agg #[.int .i64 p, .slice (some ⟨b, o, none⟩) n cap]] W fun e w' => e = .returned (.bool true) ∧ Below W.heap.size W w')) :
    Calls Tryd.prog 7 #[.agg #[.int .i64 p, .slice (some ⟨b, o, none⟩) n cap], .int .i64 K] w (LocPost w 0 [] 1) := by
  have hfree : ∀ (W : World), Below w.heap.size w W → W.cell? ⟨b, o, none⟩ = some (.int .i64 F) ∧ W.cell? ⟨b, o + (n - 1) * 5, none⟩ = some (.int .i64 T) := by
    intro W hW
    have h1 := ((hc.out 0 c0 h0.out.1).below hW hb).c0
    have h2 := ((hc.out (n - 1) cn h9.out.1).below hW hb).c0
    rw [h0.out.2] at h1
    rw [h9.out.2] at h2
    exact ⟨by simpa using h1, h2⟩
  have hfr := Lib.hid hfree
  clear hfree h0 h9
  have hixl := ix_last (b := b) (o := o) (cap := cap) hn0
  have hw1 : IntKind.i64.wrap ((n : Int) - 1) = (n : Int) - 1 := IntWalk.i64_in _ (by omega)
  have hw2 : (0 : Int) ≤ (n : Int) - 1 := by omega
  have hw3 : (n : Int) - 1 < (n : Int) := by omega
  have hK' := Lib.hid hK
  clear hK
  go_enter Tryd.func7, Tryd.ntmps7
  go_wp2_with (go_at_call 12; refine (hv.out _ ?_).mono ?_; (exact ((Below.refl _ _).alloc (Nat.le_refl _) _).alloc (by simp) _); rintro e w1 ⟨rfl, hb1⟩; obtain ⟨hc1, hf1⟩ := bcell hb1; have hz1 := hb1.size; simp at hz1; have hb2 : Below w.heap.size w w1 := (((Below.refl _ _).alloc (Nat.le_refl _) _).alloc (by simp) _).trans (hb1.mono (by simp; omega)); obtain ⟨q1, q2⟩ := hfr.out w1 hb2; have e0 : w1.cell? ⟨w.heap.size, 0, none⟩ = some (.int .i64 p) := (by rw [hc1 _ _ (by simp; omega)]; simp [go_sem]); have e1 : w1.cell? ⟨w.heap.size, 1, none⟩ = some (.slice (some ⟨b, o, none⟩) n cap) := (by rw [hc1 _ _ (by simp; omega)]; simp [go_sem]); have e2 : w1.cell? ⟨w.heap.size + 1, 0, none⟩ = some (.int .i64 0) := (by rw [hc1 _ _ (by simp)]; simp [go_sem]); have e3 : w1.cell? ⟨w.heap.size + 1, 1, none⟩ = some (.slice none 0 0) := (by rw [hc1 _ _ (by simp)]; simp [go_sem]); have f2 : w1.frozen? ⟨w.heap.size + 1, 0, none⟩ = false := (by rw [hf1 _ _ (by simp)]; simp [go_sem]); have f3 : w1.frozen? ⟨w.heap.size + 1, 1, none⟩ = false := (by rw [hf1 _ _ (by simp)]; simp [go_sem]); clear hc1 hf1)
  go_hide hQ
  go_quiet (fail)
  subst hQ
  clear hixl hw1 hw2 hw3 q1 q2 hfr
  by_cases hA : K < -F
  · clear hK'
    go_wp2
    refine bodyPost_ret (v := .tuple #[.agg #[.int .i64 0, .slice none 0 0], .int .i64 1]) (by simp [results, Tryd.results7, go_sem, e2, e3]) rfl ⟨_, _, _, rfl, .inl ⟨rfl, _, _, rfl⟩, ?_⟩
    exact (((below_drewN hb2 _).setCell (by simp) _).setCell (by simp) _)
  · have hB : 60 - T < K := by rcases hK'.out with h | h <;> omega
    clear hK'
    go_wp2
    refine bodyPost_ret (v := .tuple #[.agg #[.int .i64 0, .slice none 0 0], .int .i64 1]) (by simp [results, Tryd.results7, go_sem, e2, e3]) rfl ⟨_, _, _, rfl, .inl ⟨rfl, _, _, rfl⟩, ?_⟩
    exact (((below_drewN hb2 _).setCell (by simp) _).setCell (by simp) _)

set_option maxRecDepth 100000 in
theorem scale_bad (p K : Int) (v : Value) (w : World)
    (hv : Hid (∀ W, Below w.heap.size w W → Calls Tryd.prog 12 #[.agg #[.int .i64 p, v]] W fun e w' => e = .returned (.bool false) ∧ Below W.heap.size W w')) :
    Calls Tryd.prog 7 #[.agg #[.int .i64 p, v], .int .i64 K] w (LocPost w 0 [] 22) := by
  go_enter Tryd.func7, Tryd.ntmps7
  go_wp2_with (go_at_call 12; refine (hv.out _ ?_).mono ?_; (exact ((Below.refl _ _).alloc (Nat.le_refl _) _).alloc (by simp) _); rintro e w1 ⟨rfl, hb1⟩; obtain ⟨hc1, hf1⟩ := bcell hb1; have hz1 := hb1.size; simp at hz1; have hb2 : Below w.heap.size w w1 := (((Below.refl _ _).alloc (Nat.le_refl _) _).alloc (by simp) _).trans (hb1.mono (by simp; omega)); have e2 : w1.cell? ⟨w.heap.size + 1, 0, none⟩ = some (.int .i64 0) := (by rw [hc1 _ _ (by simp)]; simp [go_sem]); have e3 : w1.cell? ⟨w.heap.size + 1, 1, none⟩ = some (.slice none 0 0) := (by rw [hc1 _ _ (by simp)]; simp [go_sem]); have f2 : w1.frozen? ⟨w.heap.size + 1, 0, none⟩ = false := (by rw [hf1 _ _ (by simp)]; simp [go_sem]); have f3 : w1.frozen? ⟨w.heap.size + 1, 1, none⟩ = false := (by rw [hf1 _ _ (by simp)]; simp [go_sem]); clear hc1 hf1)
  refine bodyPost_ret (v := .tuple #[.agg #[.int .i64 0, .slice none 0 0], .int .i64 22]) (by simp [results, Tryd.results7, go_sem, e2, e3]) rfl ⟨_, _, _, rfl, .inl ⟨rfl, _, _, rfl⟩, ?_⟩
  exact ((hb2.setCell (by simp) _).setCell (by simp) _)

/-- What scaling makes of a symbol. -/
noncomputable def scS (p : Int) (l : List Con) (K : Int) : Int × List Con × Int :=
  if vS p l = true then (if -firstE l ≤ K ∧ K ≤ 60 - lastE l then (p, l.map (shift K), 0) else (0, [], 1)) else (0, [], 22)

theorem first_at {l : List Con} (h : l ≠ []) : ∃ c, l[0]? = some c ∧ c.exp = firstE l := by
  cases l with
  | nil => exact absurd rfl h
  | cons x l => exact ⟨x, by simp, by simp [firstE]⟩
theorem last_at {l : List Con} (h : l ≠ []) : ∃ c, l[l.length - 1]? = some c ∧ c.exp = lastE l := by
  refine ⟨l.getLast h, ?_, ?_⟩
  · rw [← List.getLast?_eq_getElem?, List.getLast?_eq_some_getLast h]
  · simp [lastE, List.getLast?_eq_some_getLast h]

theorem scale_calls (p K : Int) (l : List Con) (v : Value) (w : World) (hw : Offs w) (hl : Lst w v l) (hn : l.length ≤ 1000) :
    Calls Tryd.prog 7 #[.agg #[.int .i64 p, v], .int .i64 K] w (LocPost w (scS p l K).1 (scS p l K).2.1 (scS p l K).2.2) := by
  have hval : ∀ W, Below w.heap.size w W → Calls Tryd.prog 12 #[.agg #[.int .i64 p, v]] W fun e w' => e = .returned (.bool (vS p l)) ∧ Below W.heap.size W w' :=
    fun W hW => valid_calls p l v W (hw.below hW hw.pos) (hl.below hW (Nat.le_refl _)) hn
  unfold scS
  cases hv : vS p l
  · rw [hv] at hval
    exact scale_bad p K v w hval
  · rw [hv] at hval
    obtain ⟨h1, h2, h3, h4, h5⟩ := vS_parts hv
    obtain ⟨x1, x2, x3⟩ := exps_in h5 h4
    obtain ⟨c0, q0, q1⟩ := first_at h4
    obtain ⟨cn, r0, r1⟩ := last_at h4
    rcases hl with ⟨e, _⟩ | ⟨_, b, o, cap, rfl, hb, hcp, hc⟩
    · exact absurd e h4
    · have hpos : 0 < l.length := by cases l; exact absurd rfl h4; simp
      by_cases hK : -firstE l ≤ K ∧ K ≤ 60 - lastE l
      · simp only [if_true, if_pos hK]
        exact scale_yes p K (firstE l) (lastE l) l l.length b o cap c0 cn w rfl hpos hn hb hc ⟨q0, q1⟩ ⟨r0, r1⟩ x1 (by omega) (by omega) x3 hK.1 hK.2 (vL_good (by omega) (by omega) h5) hval
      · simp only [if_true, if_neg hK]
        exact scale_no p K (firstE l) (lastE l) l l.length b o cap c0 cn w hpos hn hb hc ⟨q0, q1⟩ ⟨r0, r1⟩ x1 (by omega) (by omega) x3 (by omega) hval
end Go.Proofs.YtejmmglffmckeaaDoor.Q
