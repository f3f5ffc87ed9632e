/- A part of the proof of TiedTrainWalks: TC, YU, TD, VD, VF1, TF, TG, TJ, VH, TH, TI, LV, CardTrainWalks, TiedTrainWalks. -/
import Derived.Test.YtcfdaddablojlaaGreatDoorPkB1
import Derived.Test.YtcfdaddablojlaaGreatDoorPkB2
import Derived.Test.YtcfdaddablojlaaGreatDoorPkB3
set_option linter.unusedSimpArgs false
set_option linter.unusedVariables false
/- Plain: fusing and walking, as package train does it: row by row over the list as it is. -/
set_option linter.unusedSimpArgs false
set_option linter.unusedVariables false
namespace Go.Proofs.YtcfdaddablojlaaGreatDoor.S
open Go.QfSy Go.RowKit

theorem at_setO {L : List Con} {i t : Int} {k : Nat} (h : k ≠ i.toNat) : at_ (setO L i t) k = at_ L k := by
  unfold setO
  rw [at_set, if_neg]
  intro e; exact h e.1.symm
theorem at_zeroP {k : Nat} : ∀ {l : List Int} {L : List Con}, (∀ x ∈ l, k ≠ x.toNat) → at_ (zeroP L l) k = at_ L k
  | [], _, _ => rfl
  | i :: l, L, h => by
    simp only [zeroP]
    rw [at_zeroP (fun x hx => h x (by simp [hx])), at_setO (h i (by simp))]
theorem at_fuseP {L0 L : List Con} {l : List Int} {k : Nat} (hne : l ≠ []) (h : ∀ x ∈ l, k ≠ x.toNat) : at_ (fuseP L0 L l) k = at_ L k := by
  unfold fuseP
  rw [at_setO, at_zeroP h]
  refine h _ ?_
  cases l with
  | nil => exact absurd rfl hne
  | cons a l => simp

/- the sum that is read while the row is emptied -/
def sumT (L : List Con) : List Int → Int
  | [] => 0
  | i :: l => (at_ L i.toNat).oddity + sumT (setO L i 0) l
theorem sumO_set {t : Int} {i : Int} (hi : 0 ≤ i) : ∀ {l : List Int} {L : List Con}, (∀ x ∈ l, 0 ≤ x ∧ x ≠ i) → sumO (setO L i t) l = sumO L l
  | [], _, _ => rfl
  | x :: l, L, h => by
    have h1 := h x (by simp)
    simp only [sumO]
    rw [sumO_set hi (fun y hy => h y (by simp [hy])), at_setO (by omega)]
theorem sumT_eq : ∀ {l : List Int} {L : List Con}, l.Nodup → (∀ x ∈ l, 0 ≤ x) → sumT L l = sumO L l
  | [], _, _, _ => rfl
  | i :: l, L, hn, h => by
    have hn' := List.nodup_cons.1 hn
    simp only [sumT, sumO]
    rw [sumT_eq hn'.2 (fun x hx => h x (by simp [hx])), sumO_set (h i (by simp)) (fun x hx => ⟨h x (by simp [hx]), fun e => hn'.1 (e ▸ hx)⟩)]
def fuseT (L : List Con) : List (List Int) → List Con
  | [] => L
  | l :: P => fuseT (setO (zeroP L l) (l.getD 0 0) (sumT L l % 8)) P
theorem sumO_agree {L M : List Con} : ∀ {l : List Int}, (∀ x ∈ l, at_ M x.toNat = at_ L x.toNat) → sumO M l = sumO L l
  | [], _ => rfl
  | x :: l, h => by simp only [sumO]; rw [h x (by simp), sumO_agree (fun y hy => h y (by simp [hy]))]
theorem fuseT_eq {L0 : List Con} : ∀ {P : List (List Int)} {L : List Con}, P.flatten.Nodup → (∀ l ∈ P, l ≠ []) → (∀ x ∈ P.flatten, 0 ≤ x ∧ at_ L x.toNat = at_ L0 x.toNat) → fuseT L P = fuseG L0 L P
  | [], _, _, _, _ => rfl
  | l :: P, L, hn, hne, h => by
    simp only [List.flatten_cons] at hn h
    have hd := List.nodup_append.1 hn
    have e : setO (zeroP L l) (l.getD 0 0) (sumT L l % 8) = fuseP L0 L l := by
      unfold fuseP totM
      rw [sumT_eq hd.1 (fun x hx => (h x (by simp [hx])).1), sumO_agree (fun x hx => (h x (by simp [hx])).2)]
    simp only [fuseT, fuseG]
    rw [e]
    refine fuseT_eq hd.2.1 (fun m hm => hne m (by simp [hm])) (fun x hx => ?_)
    have h1 := h x (by simp [hx])
    refine ⟨h1.1, ?_⟩
    rw [at_fuseP (hne l (by simp)) (fun y hy e2 => ?_), h1.2]
    have h2 := h y (by simp [hy])
    have : x = y := by omega
    exact hd.2.2 y hy x hx this.symm
theorem fuseT_parts {L : List Con} : fuseT L (partsM L) = fuseM L := by
  refine fuseT_eq (parts_nodup L) (fun l hl => (parts_rows l hl).1) (fun x hx => ⟨?_, rfl⟩)
  obtain ⟨l, h1, h2⟩ := List.mem_flatten.1 hx
  exact ((parts_rows l h1).2.1 x h2).1

/- walking -/
theorem set_comm {L : List Con} {i k : Nat} {a b : Con} (h : i ≠ k) : (L.set i a).set k b = (L.set k b).set i a := List.set_comm a b h
theorem flip_comm {L : List Con} {i k : Nat} (h : i ≠ k) : flipS (flipS L i) k = flipS (flipS L k) i := by
  unfold flipS
  rw [at_set, if_neg (by intro e; exact h e.1), at_set, if_neg (by intro e; exact h e.1.symm), set_comm h]
theorem add4_comm {L : List Con} {i k : Int} (h : i.toNat ≠ k.toNat) : add4 (add4 L i) k = add4 (add4 L k) i := by
  have e1 : at_ (add4 L i) k.toNat = at_ L k.toNat := by unfold add4; exact at_setO (fun e => h e.symm)
  have e2 : at_ (add4 L k) i.toNat = at_ L i.toNat := by unfold add4; exact at_setO h
  have f1 : add4 (add4 L i) k = (add4 L i).set k.toNat { at_ L k.toNat with oddity := ((at_ L k.toNat).oddity + 4) % 8 } := by
    show (add4 L i).set k.toNat { at_ (add4 L i) k.toNat with oddity := ((at_ (add4 L i) k.toNat).oddity + 4) % 8 } = _
    rw [e1]
  have f2 : add4 (add4 L k) i = (add4 L k).set i.toNat { at_ L i.toNat with oddity := ((at_ L i.toNat).oddity + 4) % 8 } := by
    show (add4 L k).set i.toNat { at_ (add4 L k) i.toNat with oddity := ((at_ (add4 L k) i.toNat).oddity + 4) % 8 } = _
    rw [e2]
  rw [f1, f2]
  exact set_comm h
def walkG (x y : Int) : List Con → List (List Int) → List Con
  | L, [] => L
  | L, l :: P => walkG x y (bif hasI x l || hasI y l then add4 L (l.getD 0 0) else L) P
theorem walkG_none {x y : Int} : ∀ {P : List (List Int)} {L : List Con}, x ∉ P.flatten → y ∉ P.flatten → walkG x y L P = L
  | [], _, _, _ => rfl
  | l :: P, L, hx, hy => by
    simp only [List.flatten_cons, List.mem_append, not_or] at hx hy
    have h1 : hasI x l = false := by cases h : hasI x l with | false => rfl | true => exact absurd (hasI_iff.1 h) hx.1
    have h2 : hasI y l = false := by cases h : hasI y l with | false => rfl | true => exact absurd (hasI_iff.1 h) hy.1
    simp only [walkG, h1, h2, Bool.or_false, cond_false]
    exact walkG_none hx.2 hy.2
end Go.Proofs.YtcfdaddablojlaaGreatDoor.S

/- quadformref26.step and Canonical. -/
set_option linter.unusedSimpArgs false
set_option linter.unusedVariables false
namespace Go.Proofs.YtcfdaddablojlaaGreatDoor.S
open Go.QfSy Go.RowKit

theorem flip_raw {L : List Con} (hL : okL L) {k : Nat} (hk : k < L.length) : updS L k (IntKind.i64.wrap (0 - (L.getD k Con.zero).sign)) = flipS L k := by
  have h := (hL.at hk).2.2.1
  have e : IntKind.i64.wrap (0 - (L.getD k Con.zero).sign) = -(L.getD k Con.zero).sign := by
    simp only [at_] at h
    rw [w64 (by omega) (by omega)]; omega
  rw [e]; rfl
theorem add4_raw {L : List Con} (hL : okL L) {i : Int} (hi : 0 ≤ i ∧ i < (L.length : Int)) : updT L i.toNat ((IntKind.i64.wrap ((L.getD i.toNat Con.zero).oddity + 4)).tmod 8) = add4 L i := by
  have h := (hL.at (k := i.toNat) (by omega)).2.2.2
  have e : (IntKind.i64.wrap ((L.getD i.toNat Con.zero).oddity + 4)).tmod 8 = ((L.getD i.toNat Con.zero).oddity + 4) % 8 := by
    simp only [at_] at h
    rw [w64 (by omega) (by omega)]; exact Int.tmod_eq_emod_of_nonneg (by omega)
  rw [e]; rfl
theorem part0 {L : List Con} (h : 0 < L.length) (a : Int) : 0 ≤ (partM L a).getD 0 0 ∧ (partM L a).getD 0 0 < (L.length : Int) := by
  rcases Nat.eq_zero_or_pos (partM L a).length with h0 | h0
  · rw [List.length_eq_zero_iff.1 h0]; simp; omega
  · exact (partM_ok (L := L) (i := a)).1.at h0
theorem st1 {L : List Con} {k : Nat} (h1 : 0 < (partM L ((k : Int) - 1)).length) (h2 : 0 < (partM L k).length) (h3 : ¬ (partM L ((k : Int) - 1)).getD 0 0 = (partM L k).getD 0 0) : stepM L k = add4 (add4 (flipS (flipS L k) (k - 1)) ((partM L ((k : Int) - 1)).getD 0 0)) ((partM L k).getD 0 0) := by
  unfold stepM
  have h4 : ((partM L ((k : Int) - 1)).getD 0 0 == (partM L k).getD 0 0) = false := by rw [beq_eq_false_iff_ne]; exact h3
  simp only [h1, h2, h4, decide_true, Bool.not_false, Bool.or_true, Bool.and_true, cond_true]
theorem st2 {L : List Con} {k : Nat} (h1 : 0 < (partM L ((k : Int) - 1)).length) (h3 : (partM L ((k : Int) - 1)).getD 0 0 = (partM L k).getD 0 0) : stepM L k = add4 (flipS (flipS L k) (k - 1)) ((partM L ((k : Int) - 1)).getD 0 0) := by
  unfold stepM
  have h4 : ((partM L ((k : Int) - 1)).getD 0 0 == (partM L k).getD 0 0) = true := by rw [beq_iff_eq]; exact h3
  have h5 : ((partM L ((k : Int) - 1)).length == 0) = false := by rw [beq_eq_false_iff_ne]; omega
  simp only [h1, h4, h5, decide_true, Bool.not_true, Bool.or_false, Bool.and_false, cond_true, cond_false]
theorem st3 {L : List Con} {k : Nat} (h1 : 0 < (partM L ((k : Int) - 1)).length) (h2 : ¬ 0 < (partM L k).length) : stepM L k = add4 (flipS (flipS L k) (k - 1)) ((partM L ((k : Int) - 1)).getD 0 0) := by
  unfold stepM
  simp only [h1, h2, decide_true, decide_false, Bool.false_and, cond_true, cond_false]
theorem st4 {L : List Con} {k : Nat} (h1 : ¬ 0 < (partM L ((k : Int) - 1)).length) (h2 : 0 < (partM L k).length) : stepM L k = add4 (flipS (flipS L k) (k - 1)) ((partM L k).getD 0 0) := by
  unfold stepM
  have h5 : ((partM L ((k : Int) - 1)).length == 0) = true := by rw [beq_iff_eq]; omega
  simp only [h1, h2, h5, decide_true, decide_false, Bool.true_or, Bool.and_true, cond_true, cond_false]
theorem st5 {L : List Con} {k : Nat} (h1 : ¬ 0 < (partM L ((k : Int) - 1)).length) (h2 : ¬ 0 < (partM L k).length) : stepM L k = flipS (flipS L k) (k - 1) := by
  unfold stepM
  simp only [h1, h2, decide_false, Bool.false_and, cond_false]

set_option maxHeartbeats 2000000 in
set_option maxRecDepth 100000 in
theorem step_pure (L : List Con) (k : Nat) (hL : okL L) (h1 : 1 ≤ k) (h2 : k < L.length) : PureC Tryz.prog [] 56 [.agg [.int .i64 2, roC L], .int .i64 (k : Int)] (.agg [.int .i64 2, roC (stepM L k)]) := by
  have hl := hL.1; have em : IntKind.i64.wrap ((k : Int) - 1) = (k : Int) - 1 := w64 (by omega) (by omega); have et : ((k : Int) - 1).toNat = k - 1 := (by omega); have g1 := flipS_ok hL h2; have l1 : (flipS L k).length = L.length := flipS_len; have g2 := flipS_ok g1 (i := k - 1) (by rw [l1]; omega); have l2 : (flipS (flipS L k) (k - 1)).length = L.length := (by simp only [flipS_len]); have hp := part0 (L := L) (by omega) ((k : Int) - 1); have hq := part0 (L := L) (by omega) (k : Int); have g3 := add4_ok g2 (i := (partM L ((k : Int) - 1)).getD 0 0) (by rw [l2]; exact hp); have e1 := flip_raw hL h2; have e2 := flip_raw g1 (k := k - 1) (by rw [l1]; omega); have e3 := add4_raw g2 (i := (partM L ((k : Int) - 1)).getD 0 0) (by rw [l2]; exact hp); have e4 := add4_raw g2 (i := (partM L (k : Int)).getD 0 0) (by rw [l2]; exact hq); have e5 := add4_raw g3 (i := (partM L (k : Int)).getD 0 0) (by rw [add4_len, l2]; exact hq); have l3 : (add4 (flipS (flipS L k) (k - 1)) ((partM L ((k : Int) - 1)).getD 0 0)).length = L.length := (by rw [add4_len, l2]); have l4 : (add4 (flipS (flipS L k) (k - 1)) ((partM L (k : Int)).getD 0 0)).length = L.length := (by rw [add4_len, l2]); have l5 : (add4 (add4 (flipS (flipS L k) (k - 1)) ((partM L ((k : Int) - 1)).getD 0 0)) ((partM L (k : Int)).getD 0 0)).length = L.length := (by rw [add4_len, l3])
  have rr := fun (tp : List Bool) (ms : List Prop) h hm => pure_run evOk (callF_ok evOk (orcOf_ok entsQ_ok) 8) Tryz.func56 (A := [.agg [.int .i64 2, roC L], .int .i64 (k : Int)]) rfl none_ann rfl rfl evNg (tabs := []) (R := .agg [.int .i64 2, roC (stepM L k)]) (tp := tp) (ms := ms) h hm
  refine Or.elim (Bool.eq_false_or_eq_true (L.length.beq (0 : Nat))) (fun d1 => GnG.no ?_)
           (fun d1 => Or.elim (Bool.eq_false_or_eq_true (decide ((↑(partM (consR L.length fun i => (L.getD i Con.zero).rvs) (IntKind.i64.wrap ((↑k : Int) - (1 : Int)))).length : Int) > (0 : Int)))) (fun d2 => Or.elim (Bool.eq_false_or_eq_true (decide ((↑(partM (consR L.length fun i => (L.getD i Con.zero).rvs) (↑k : Int)).length : Int) > (0 : Int)))) (fun d3 => Or.elim (Bool.eq_false_or_eq_true ((↑(partM (consR L.length fun i => (L.getD i Con.zero).rvs) (IntKind.i64.wrap ((↑k : Int) - (1 : Int)))).length : Int) == (0 : Int))) (fun d4 => rr [false, true, true, true] [(2 : Int) = (2 : Int), L.length = (stepM L k).length ∧ L.length = (updT (updT (updS (updS (consR L.length fun i => (L.getD i Con.zero).rvs) k (IntKind.i64.wrap ((0 : Int) - ((consR L.length fun i => (L.getD i Con.zero).rvs).getD k Con.zero).sign))) (IntKind.i64.wrap ((↑k : Int) - (1 : Int))).toNat (IntKind.i64.wrap ((0 : Int) - ((updS (consR L.length fun i => (L.getD i Con.zero).rvs) k (IntKind.i64.wrap ((0 : Int) - ((consR L.length fun i => (L.getD i Con.zero).rvs).getD k Con.zero).sign))).getD (IntKind.i64.wrap ((↑k : Int) - (1 : Int))).toNat Con.zero).sign))) ((partM (consR L.length fun i => (L.getD i Con.zero).rvs) (IntKind.i64.wrap ((↑k : Int) - (1 : Int)))).getD (Int.toNat (0 : Int)) (0 : Int)).toNat ((IntKind.i64.wrap (((updS (updS (consR L.length fun i => (L.getD i Con.zero).rvs) k (IntKind.i64.wrap ((0 : Int) - ((consR L.length fun i => (L.getD i Con.zero).rvs).getD k Con.zero).sign))) (IntKind.i64.wrap ((↑k : Int) - (1 : Int))).toNat (IntKind.i64.wrap ((0 : Int) - ((updS (consR L.length fun i => (L.getD i Con.zero).rvs) k (IntKind.i64.wrap ((0 : Int) - ((consR L.length fun i => (L.getD i Con.zero).rvs).getD k Con.zero).sign))).getD (IntKind.i64.wrap ((↑k : Int) - (1 : Int))).toNat Con.zero).sign))).getD ((partM (consR L.length fun i => (L.getD i Con.zero).rvs) (IntKind.i64.wrap ((↑k : Int) - (1 : Int)))).getD (Int.toNat (0 : Int)) (0 : Int)).toNat Con.zero).oddity + (4 : Int))).tmod (8 : Int))) ((partM (consR L.length fun i => (L.getD i Con.zero).rvs) (↑k : Int)).getD (Int.toNat (0 : Int)) (0 : Int)).toNat ((IntKind.i64.wrap (((updT (updS (updS (consR L.length fun i => (L.getD i Con.zero).rvs) k (IntKind.i64.wrap ((0 : Int) - ((consR L.length fun i => (L.getD i Con.zero).rvs).getD k Con.zero).sign))) (IntKind.i64.wrap ((↑k : Int) - (1 : Int))).toNat (IntKind.i64.wrap ((0 : Int) - ((updS (consR L.length fun i => (L.getD i Con.zero).rvs) k (IntKind.i64.wrap ((0 : Int) - ((consR L.length fun i => (L.getD i Con.zero).rvs).getD k Con.zero).sign))).getD (IntKind.i64.wrap ((↑k : Int) - (1 : Int))).toNat Con.zero).sign))) ((partM (consR L.length fun i => (L.getD i Con.zero).rvs) (IntKind.i64.wrap ((↑k : Int) - (1 : Int)))).getD (Int.toNat (0 : Int)) (0 : Int)).toNat ((IntKind.i64.wrap (((updS (updS (consR L.length fun i => (L.getD i Con.zero).rvs) k (IntKind.i64.wrap ((0 : Int) - ((consR L.length fun i => (L.getD i Con.zero).rvs).getD k Con.zero).sign))) (IntKind.i64.wrap ((↑k : Int) - (1 : Int))).toNat (IntKind.i64.wrap ((0 : Int) - ((updS (consR L.length fun i => (L.getD i Con.zero).rvs) k (IntKind.i64.wrap ((0 : Int) - ((consR L.length fun i => (L.getD i Con.zero).rvs).getD k Con.zero).sign))).getD (IntKind.i64.wrap ((↑k : Int) - (1 : Int))).toNat Con.zero).sign))).getD ((partM (consR L.length fun i => (L.getD i Con.zero).rvs) (IntKind.i64.wrap ((↑k : Int) - (1 : Int)))).getD (Int.toNat (0 : Int)) (0 : Int)).toNat Con.zero).oddity + (4 : Int))).tmod (8 : Int))).getD ((partM (consR L.length fun i => (L.getD i Con.zero).rvs) (↑k : Int)).getD (Int.toNat (0 : Int)) (0 : Int)).toNat Con.zero).oddity + (4 : Int))).tmod (8 : Int))).length ∧ ∀ (i : Nat), i < L.length → (fun i => ((stepM L k).getD i Con.zero).rvs) i = ((updT (updT (updS (updS (consR L.length fun i => (L.getD i Con.zero).rvs) k (IntKind.i64.wrap ((0 : Int) - ((consR L.length fun i => (L.getD i Con.zero).rvs).getD k Con.zero).sign))) (IntKind.i64.wrap ((↑k : Int) - (1 : Int))).toNat (IntKind.i64.wrap ((0 : Int) - ((updS (consR L.length fun i => (L.getD i Con.zero).rvs) k (IntKind.i64.wrap ((0 : Int) - ((consR L.length fun i => (L.getD i Con.zero).rvs).getD k Con.zero).sign))).getD (IntKind.i64.wrap ((↑k : Int) - (1 : Int))).toNat Con.zero).sign))) ((partM (consR L.length fun i => (L.getD i Con.zero).rvs) (IntKind.i64.wrap ((↑k : Int) - (1 : Int)))).getD (Int.toNat (0 : Int)) (0 : Int)).toNat ((IntKind.i64.wrap (((updS (updS (consR L.length fun i => (L.getD i Con.zero).rvs) k (IntKind.i64.wrap ((0 : Int) - ((consR L.length fun i => (L.getD i Con.zero).rvs).getD k Con.zero).sign))) (IntKind.i64.wrap ((↑k : Int) - (1 : Int))).toNat (IntKind.i64.wrap ((0 : Int) - ((updS (consR L.length fun i => (L.getD i Con.zero).rvs) k (IntKind.i64.wrap ((0 : Int) - ((consR L.length fun i => (L.getD i Con.zero).rvs).getD k Con.zero).sign))).getD (IntKind.i64.wrap ((↑k : Int) - (1 : Int))).toNat Con.zero).sign))).getD ((partM (consR L.length fun i => (L.getD i Con.zero).rvs) (IntKind.i64.wrap ((↑k : Int) - (1 : Int)))).getD (Int.toNat (0 : Int)) (0 : Int)).toNat Con.zero).oddity + (4 : Int))).tmod (8 : Int))) ((partM (consR L.length fun i => (L.getD i Con.zero).rvs) (↑k : Int)).getD (Int.toNat (0 : Int)) (0 : Int)).toNat ((IntKind.i64.wrap (((updT (updS (updS (consR L.length fun i => (L.getD i Con.zero).rvs) k (IntKind.i64.wrap ((0 : Int) - ((consR L.length fun i => (L.getD i Con.zero).rvs).getD k Con.zero).sign))) (IntKind.i64.wrap ((↑k : Int) - (1 : Int))).toNat (IntKind.i64.wrap ((0 : Int) - ((updS (consR L.length fun i => (L.getD i Con.zero).rvs) k (IntKind.i64.wrap ((0 : Int) - ((consR L.length fun i => (L.getD i Con.zero).rvs).getD k Con.zero).sign))).getD (IntKind.i64.wrap ((↑k : Int) - (1 : Int))).toNat Con.zero).sign))) ((partM (consR L.length fun i => (L.getD i Con.zero).rvs) (IntKind.i64.wrap ((↑k : Int) - (1 : Int)))).getD (Int.toNat (0 : Int)) (0 : Int)).toNat ((IntKind.i64.wrap (((updS (updS (consR L.length fun i => (L.getD i Con.zero).rvs) k (IntKind.i64.wrap ((0 : Int) - ((consR L.length fun i => (L.getD i Con.zero).rvs).getD k Con.zero).sign))) (IntKind.i64.wrap ((↑k : Int) - (1 : Int))).toNat (IntKind.i64.wrap ((0 : Int) - ((updS (consR L.length fun i => (L.getD i Con.zero).rvs) k (IntKind.i64.wrap ((0 : Int) - ((consR L.length fun i => (L.getD i Con.zero).rvs).getD k Con.zero).sign))).getD (IntKind.i64.wrap ((↑k : Int) - (1 : Int))).toNat Con.zero).sign))).getD ((partM (consR L.length fun i => (L.getD i Con.zero).rvs) (IntKind.i64.wrap ((↑k : Int) - (1 : Int)))).getD (Int.toNat (0 : Int)) (0 : Int)).toNat Con.zero).oddity + (4 : Int))).tmod (8 : Int))).getD ((partM (consR L.length fun i => (L.getD i Con.zero).rvs) (↑k : Int)).getD (Int.toNat (0 : Int)) (0 : Int)).toNat Con.zero).oddity + (4 : Int))).tmod (8 : Int))).getD i Con.zero).rvs, ((partM (consR L.length fun i => (L.getD i Con.zero).rvs) (↑k : Int)).getD (Int.toNat (0 : Int)) (0 : Int)).toNat < (updT (updS (updS (consR L.length fun i => (L.getD i Con.zero).rvs) k (IntKind.i64.wrap ((0 : Int) - ((consR L.length fun i => (L.getD i Con.zero).rvs).getD k Con.zero).sign))) (IntKind.i64.wrap ((↑k : Int) - (1 : Int))).toNat (IntKind.i64.wrap ((0 : Int) - ((updS (consR L.length fun i => (L.getD i Con.zero).rvs) k (IntKind.i64.wrap ((0 : Int) - ((consR L.length fun i => (L.getD i Con.zero).rvs).getD k Con.zero).sign))).getD (IntKind.i64.wrap ((↑k : Int) - (1 : Int))).toNat Con.zero).sign))) ((partM (consR L.length fun i => (L.getD i Con.zero).rvs) (IntKind.i64.wrap ((↑k : Int) - (1 : Int)))).getD (Int.toNat (0 : Int)) (0 : Int)).toNat ((IntKind.i64.wrap (((updS (updS (consR L.length fun i => (L.getD i Con.zero).rvs) k (IntKind.i64.wrap ((0 : Int) - ((consR L.length fun i => (L.getD i Con.zero).rvs).getD k Con.zero).sign))) (IntKind.i64.wrap ((↑k : Int) - (1 : Int))).toNat (IntKind.i64.wrap ((0 : Int) - ((updS (consR L.length fun i => (L.getD i Con.zero).rvs) k (IntKind.i64.wrap ((0 : Int) - ((consR L.length fun i => (L.getD i Con.zero).rvs).getD k Con.zero).sign))).getD (IntKind.i64.wrap ((↑k : Int) - (1 : Int))).toNat Con.zero).sign))).getD ((partM (consR L.length fun i => (L.getD i Con.zero).rvs) (IntKind.i64.wrap ((↑k : Int) - (1 : Int)))).getD (Int.toNat (0 : Int)) (0 : Int)).toNat Con.zero).oddity + (4 : Int))).tmod (8 : Int))).length, (0 : Int) ≤ (partM (consR L.length fun i => (L.getD i Con.zero).rvs) (↑k : Int)).getD (Int.toNat (0 : Int)) (0 : Int) ∧ (partM (consR L.length fun i => (L.getD i Con.zero).rvs) (↑k : Int)).getD (Int.toNat (0 : Int)) (0 : Int) < (↑L.length : Int), (8 : Int) ≠ (0 : Int), ((partM (consR L.length fun i => (L.getD i Con.zero).rvs) (↑k : Int)).getD (Int.toNat (0 : Int)) (0 : Int)).toNat < (updT (updS (updS (consR L.length fun i => (L.getD i Con.zero).rvs) k (IntKind.i64.wrap ((0 : Int) - ((consR L.length fun i => (L.getD i Con.zero).rvs).getD k Con.zero).sign))) (IntKind.i64.wrap ((↑k : Int) - (1 : Int))).toNat (IntKind.i64.wrap ((0 : Int) - ((updS (consR L.length fun i => (L.getD i Con.zero).rvs) k (IntKind.i64.wrap ((0 : Int) - ((consR L.length fun i => (L.getD i Con.zero).rvs).getD k Con.zero).sign))).getD (IntKind.i64.wrap ((↑k : Int) - (1 : Int))).toNat Con.zero).sign))) ((partM (consR L.length fun i => (L.getD i Con.zero).rvs) (IntKind.i64.wrap ((↑k : Int) - (1 : Int)))).getD (Int.toNat (0 : Int)) (0 : Int)).toNat ((IntKind.i64.wrap (((updS (updS (consR L.length fun i => (L.getD i Con.zero).rvs) k (IntKind.i64.wrap ((0 : Int) - ((consR L.length fun i => (L.getD i Con.zero).rvs).getD k Con.zero).sign))) (IntKind.i64.wrap ((↑k : Int) - (1 : Int))).toNat (IntKind.i64.wrap ((0 : Int) - ((updS (consR L.length fun i => (L.getD i Con.zero).rvs) k (IntKind.i64.wrap ((0 : Int) - ((consR L.length fun i => (L.getD i Con.zero).rvs).getD k Con.zero).sign))).getD (IntKind.i64.wrap ((↑k : Int) - (1 : Int))).toNat Con.zero).sign))).getD ((partM (consR L.length fun i => (L.getD i Con.zero).rvs) (IntKind.i64.wrap ((↑k : Int) - (1 : Int)))).getD (Int.toNat (0 : Int)) (0 : Int)).toNat Con.zero).oddity + (4 : Int))).tmod (8 : Int))).length, (0 : Int) ≤ (partM (consR L.length fun i => (L.getD i Con.zero).rvs) (↑k : Int)).getD (Int.toNat (0 : Int)) (0 : Int) ∧ (partM (consR L.length fun i => (L.getD i Con.zero).rvs) (↑k : Int)).getD (Int.toNat (0 : Int)) (0 : Int) < (↑L.length : Int), (0 : Int) ≤ (0 : Int) ∧ (0 : Int) < (↑(partM (consR L.length fun i => (L.getD i Con.zero).rvs) (↑k : Int)).length : Int), (0 : Int) ≤ (0 : Int) ∧ (0 : Int) < (↑(partM (consR L.length fun i => (L.getD i Con.zero).rvs) (↑k : Int)).length : Int), Dec ((↑(partM (consR L.length fun i => (L.getD i Con.zero).rvs) (IntKind.i64.wrap ((↑k : Int) - (1 : Int)))).length : Int) == (0 : Int)) true, Dec (decide ((↑(partM (consR L.length fun i => (L.getD i Con.zero).rvs) (↑k : Int)).length : Int) > (0 : Int))) true, ((partM (consR L.length fun i => (L.getD i Con.zero).rvs) (IntKind.i64.wrap ((↑k : Int) - (1 : Int)))).getD (Int.toNat (0 : Int)) (0 : Int)).toNat < (updS (updS (consR L.length fun i => (L.getD i Con.zero).rvs) k (IntKind.i64.wrap ((0 : Int) - ((consR L.length fun i => (L.getD i Con.zero).rvs).getD k Con.zero).sign))) (IntKind.i64.wrap ((↑k : Int) - (1 : Int))).toNat (IntKind.i64.wrap ((0 : Int) - ((updS (consR L.length fun i => (L.getD i Con.zero).rvs) k (IntKind.i64.wrap ((0 : Int) - ((consR L.length fun i => (L.getD i Con.zero).rvs).getD k Con.zero).sign))).getD (IntKind.i64.wrap ((↑k : Int) - (1 : Int))).toNat Con.zero).sign))).length, (0 : Int) ≤ (partM (consR L.length fun i => (L.getD i Con.zero).rvs) (IntKind.i64.wrap ((↑k : Int) - (1 : Int)))).getD (Int.toNat (0 : Int)) (0 : Int) ∧ (partM (consR L.length fun i => (L.getD i Con.zero).rvs) (IntKind.i64.wrap ((↑k : Int) - (1 : Int)))).getD (Int.toNat (0 : Int)) (0 : Int) < (↑L.length : Int), (8 : Int) ≠ (0 : Int), ((partM (consR L.length fun i => (L.getD i Con.zero).rvs) (IntKind.i64.wrap ((↑k : Int) - (1 : Int)))).getD (Int.toNat (0 : Int)) (0 : Int)).toNat < (updS (updS (consR L.length fun i => (L.getD i Con.zero).rvs) k (IntKind.i64.wrap ((0 : Int) - ((consR L.length fun i => (L.getD i Con.zero).rvs).getD k Con.zero).sign))) (IntKind.i64.wrap ((↑k : Int) - (1 : Int))).toNat (IntKind.i64.wrap ((0 : Int) - ((updS (consR L.length fun i => (L.getD i Con.zero).rvs) k (IntKind.i64.wrap ((0 : Int) - ((consR L.length fun i => (L.getD i Con.zero).rvs).getD k Con.zero).sign))).getD (IntKind.i64.wrap ((↑k : Int) - (1 : Int))).toNat Con.zero).sign))).length, (0 : Int) ≤ (partM (consR L.length fun i => (L.getD i Con.zero).rvs) (IntKind.i64.wrap ((↑k : Int) - (1 : Int)))).getD (Int.toNat (0 : Int)) (0 : Int) ∧ (partM (consR L.length fun i => (L.getD i Con.zero).rvs) (IntKind.i64.wrap ((↑k : Int) - (1 : Int)))).getD (Int.toNat (0 : Int)) (0 : Int) < (↑L.length : Int), (0 : Int) ≤ (0 : Int) ∧ (0 : Int) < (↑(partM (consR L.length fun i => (L.getD i Con.zero).rvs) (IntKind.i64.wrap ((↑k : Int) - (1 : Int)))).length : Int), (0 : Int) ≤ (0 : Int) ∧ (0 : Int) < (↑(partM (consR L.length fun i => (L.getD i Con.zero).rvs) (IntKind.i64.wrap ((↑k : Int) - (1 : Int)))).length : Int), Dec (decide ((↑(partM (consR L.length fun i => (L.getD i Con.zero).rvs) (IntKind.i64.wrap ((↑k : Int) - (1 : Int)))).length : Int) > (0 : Int))) true, (∀ (i : Nat), i < L.length → (fun i => (L.getD i Con.zero).rvs) i = (Con.ofR ((fun i => (L.getD i Con.zero).rvs) i)).rvs) ∧ okE (consR L.length fun i => (L.getD i Con.zero).rvs), L.length = L.length ∧ (fun i => (L.getD i Con.zero).rvs) = fun i => (L.getD i Con.zero).rvs, (∀ (i : Nat), i < L.length → (fun i => (L.getD i Con.zero).rvs) i = (Con.ofR ((fun i => (L.getD i Con.zero).rvs) i)).rvs) ∧ okE (consR L.length fun i => (L.getD i Con.zero).rvs), (IntKind.i64.wrap ((↑k : Int) - (1 : Int))).toNat < (updS (consR L.length fun i => (L.getD i Con.zero).rvs) k (IntKind.i64.wrap ((0 : Int) - ((consR L.length fun i => (L.getD i Con.zero).rvs).getD k Con.zero).sign))).length, (0 : Int) ≤ IntKind.i64.wrap ((↑k : Int) - (1 : Int)) ∧ IntKind.i64.wrap ((↑k : Int) - (1 : Int)) < (↑L.length : Int), (IntKind.i64.wrap ((↑k : Int) - (1 : Int))).toNat < (updS (consR L.length fun i => (L.getD i Con.zero).rvs) k (IntKind.i64.wrap ((0 : Int) - ((consR L.length fun i => (L.getD i Con.zero).rvs).getD k Con.zero).sign))).length, (0 : Int) ≤ IntKind.i64.wrap ((↑k : Int) - (1 : Int)) ∧ IntKind.i64.wrap ((↑k : Int) - (1 : Int)) < (↑L.length : Int), k < (consR L.length fun i => (L.getD i Con.zero).rvs).length, (0 : Int) ≤ (↑k : Int) ∧ (↑k : Int) < (↑L.length : Int), k < (consR L.length fun i => (L.getD i Con.zero).rvs).length, (0 : Int) ≤ (↑k : Int) ∧ (↑k : Int) < (↑L.length : Int), (2 : Int) = (2 : Int), (0 : Nat) < L.length ∧ L.length ≤ (1000000 : Nat), ∀ (i : Nat), i < L.length → (fun i => (L.getD i Con.zero).rvs) i = (Con.ofR ((fun i => (L.getD i Con.zero).rvs) i)).rvs, Dec (L.length.beq (0 : Nat)) false] (by kernel_rfl) ⟨?_, ?_, ?_, ?_, ?_, ?_, ?_, ?_, ?_, d4, d3, ?_, ?_, ?_, ?_, ?_, ?_, ?_, d2, ?_, ?_, ?_, ?_, ?_, ?_, ?_, ?_, ?_, ?_, ?_, ?_, ?_, ?_, d1⟩)
           (fun d4 => Or.elim (Bool.eq_false_or_eq_true ((partM (consR L.length fun i => (L.getD i Con.zero).rvs) (IntKind.i64.wrap ((↑k : Int) - (1 : Int)))).getD (Int.toNat (0 : Int)) (0 : Int) == (partM (consR L.length fun i => (L.getD i Con.zero).rvs) (↑k : Int)).getD (Int.toNat (0 : Int)) (0 : Int))) (fun d5 => rr [false, true, true, false, false] [(2 : Int) = (2 : Int), L.length = (stepM L k).length ∧ L.length = (updT (updS (updS (consR L.length fun i => (L.getD i Con.zero).rvs) k (IntKind.i64.wrap ((0 : Int) - ((consR L.length fun i => (L.getD i Con.zero).rvs).getD k Con.zero).sign))) (IntKind.i64.wrap ((↑k : Int) - (1 : Int))).toNat (IntKind.i64.wrap ((0 : Int) - ((updS (consR L.length fun i => (L.getD i Con.zero).rvs) k (IntKind.i64.wrap ((0 : Int) - ((consR L.length fun i => (L.getD i Con.zero).rvs).getD k Con.zero).sign))).getD (IntKind.i64.wrap ((↑k : Int) - (1 : Int))).toNat Con.zero).sign))) ((partM (consR L.length fun i => (L.getD i Con.zero).rvs) (IntKind.i64.wrap ((↑k : Int) - (1 : Int)))).getD (Int.toNat (0 : Int)) (0 : Int)).toNat ((IntKind.i64.wrap (((updS (updS (consR L.length fun i => (L.getD i Con.zero).rvs) k (IntKind.i64.wrap ((0 : Int) - ((consR L.length fun i => (L.getD i Con.zero).rvs).getD k Con.zero).sign))) (IntKind.i64.wrap ((↑k : Int) - (1 : Int))).toNat (IntKind.i64.wrap ((0 : Int) - ((updS (consR L.length fun i => (L.getD i Con.zero).rvs) k (IntKind.i64.wrap ((0 : Int) - ((consR L.length fun i => (L.getD i Con.zero).rvs).getD k Con.zero).sign))).getD (IntKind.i64.wrap ((↑k : Int) - (1 : Int))).toNat Con.zero).sign))).getD ((partM (consR L.length fun i => (L.getD i Con.zero).rvs) (IntKind.i64.wrap ((↑k : Int) - (1 : Int)))).getD (Int.toNat (0 : Int)) (0 : Int)).toNat Con.zero).oddity + (4 : Int))).tmod (8 : Int))).length ∧ ∀ (i : Nat), i < L.length → (fun i => ((stepM L k).getD i Con.zero).rvs) i = ((updT (updS (updS (consR L.length fun i => (L.getD i Con.zero).rvs) k (IntKind.i64.wrap ((0 : Int) - ((consR L.length fun i => (L.getD i Con.zero).rvs).getD k Con.zero).sign))) (IntKind.i64.wrap ((↑k : Int) - (1 : Int))).toNat (IntKind.i64.wrap ((0 : Int) - ((updS (consR L.length fun i => (L.getD i Con.zero).rvs) k (IntKind.i64.wrap ((0 : Int) - ((consR L.length fun i => (L.getD i Con.zero).rvs).getD k Con.zero).sign))).getD (IntKind.i64.wrap ((↑k : Int) - (1 : Int))).toNat Con.zero).sign))) ((partM (consR L.length fun i => (L.getD i Con.zero).rvs) (IntKind.i64.wrap ((↑k : Int) - (1 : Int)))).getD (Int.toNat (0 : Int)) (0 : Int)).toNat ((IntKind.i64.wrap (((updS (updS (consR L.length fun i => (L.getD i Con.zero).rvs) k (IntKind.i64.wrap ((0 : Int) - ((consR L.length fun i => (L.getD i Con.zero).rvs).getD k Con.zero).sign))) (IntKind.i64.wrap ((↑k : Int) - (1 : Int))).toNat (IntKind.i64.wrap ((0 : Int) - ((updS (consR L.length fun i => (L.getD i Con.zero).rvs) k (IntKind.i64.wrap ((0 : Int) - ((consR L.length fun i => (L.getD i Con.zero).rvs).getD k Con.zero).sign))).getD (IntKind.i64.wrap ((↑k : Int) - (1 : Int))).toNat Con.zero).sign))).getD ((partM (consR L.length fun i => (L.getD i Con.zero).rvs) (IntKind.i64.wrap ((↑k : Int) - (1 : Int)))).getD (Int.toNat (0 : Int)) (0 : Int)).toNat Con.zero).oddity + (4 : Int))).tmod (8 : Int))).getD i Con.zero).rvs, Dec ((partM (consR L.length fun i => (L.getD i Con.zero).rvs) (IntKind.i64.wrap ((↑k : Int) - (1 : Int)))).getD (Int.toNat (0 : Int)) (0 : Int) != (partM (consR L.length fun i => (L.getD i Con.zero).rvs) (↑k : Int)).getD (Int.toNat (0 : Int)) (0 : Int)) false, (0 : Int) ≤ (0 : Int) ∧ (0 : Int) < (↑(partM (consR L.length fun i => (L.getD i Con.zero).rvs) (↑k : Int)).length : Int), (0 : Int) ≤ (0 : Int) ∧ (0 : Int) < (↑(partM (consR L.length fun i => (L.getD i Con.zero).rvs) (IntKind.i64.wrap ((↑k : Int) - (1 : Int)))).length : Int), Dec ((↑(partM (consR L.length fun i => (L.getD i Con.zero).rvs) (IntKind.i64.wrap ((↑k : Int) - (1 : Int)))).length : Int) == (0 : Int)) false, Dec (decide ((↑(partM (consR L.length fun i => (L.getD i Con.zero).rvs) (↑k : Int)).length : Int) > (0 : Int))) true, ((partM (consR L.length fun i => (L.getD i Con.zero).rvs) (IntKind.i64.wrap ((↑k : Int) - (1 : Int)))).getD (Int.toNat (0 : Int)) (0 : Int)).toNat < (updS (updS (consR L.length fun i => (L.getD i Con.zero).rvs) k (IntKind.i64.wrap ((0 : Int) - ((consR L.length fun i => (L.getD i Con.zero).rvs).getD k Con.zero).sign))) (IntKind.i64.wrap ((↑k : Int) - (1 : Int))).toNat (IntKind.i64.wrap ((0 : Int) - ((updS (consR L.length fun i => (L.getD i Con.zero).rvs) k (IntKind.i64.wrap ((0 : Int) - ((consR L.length fun i => (L.getD i Con.zero).rvs).getD k Con.zero).sign))).getD (IntKind.i64.wrap ((↑k : Int) - (1 : Int))).toNat Con.zero).sign))).length, (0 : Int) ≤ (partM (consR L.length fun i => (L.getD i Con.zero).rvs) (IntKind.i64.wrap ((↑k : Int) - (1 : Int)))).getD (Int.toNat (0 : Int)) (0 : Int) ∧ (partM (consR L.length fun i => (L.getD i Con.zero).rvs) (IntKind.i64.wrap ((↑k : Int) - (1 : Int)))).getD (Int.toNat (0 : Int)) (0 : Int) < (↑L.length : Int), (8 : Int) ≠ (0 : Int), ((partM (consR L.length fun i => (L.getD i Con.zero).rvs) (IntKind.i64.wrap ((↑k : Int) - (1 : Int)))).getD (Int.toNat (0 : Int)) (0 : Int)).toNat < (updS (updS (consR L.length fun i => (L.getD i Con.zero).rvs) k (IntKind.i64.wrap ((0 : Int) - ((consR L.length fun i => (L.getD i Con.zero).rvs).getD k Con.zero).sign))) (IntKind.i64.wrap ((↑k : Int) - (1 : Int))).toNat (IntKind.i64.wrap ((0 : Int) - ((updS (consR L.length fun i => (L.getD i Con.zero).rvs) k (IntKind.i64.wrap ((0 : Int) - ((consR L.length fun i => (L.getD i Con.zero).rvs).getD k Con.zero).sign))).getD (IntKind.i64.wrap ((↑k : Int) - (1 : Int))).toNat Con.zero).sign))).length, (0 : Int) ≤ (partM (consR L.length fun i => (L.getD i Con.zero).rvs) (IntKind.i64.wrap ((↑k : Int) - (1 : Int)))).getD (Int.toNat (0 : Int)) (0 : Int) ∧ (partM (consR L.length fun i => (L.getD i Con.zero).rvs) (IntKind.i64.wrap ((↑k : Int) - (1 : Int)))).getD (Int.toNat (0 : Int)) (0 : Int) < (↑L.length : Int), (0 : Int) ≤ (0 : Int) ∧ (0 : Int) < (↑(partM (consR L.length fun i => (L.getD i Con.zero).rvs) (IntKind.i64.wrap ((↑k : Int) - (1 : Int)))).length : Int), (0 : Int) ≤ (0 : Int) ∧ (0 : Int) < (↑(partM (consR L.length fun i => (L.getD i Con.zero).rvs) (IntKind.i64.wrap ((↑k : Int) - (1 : Int)))).length : Int), Dec (decide ((↑(partM (consR L.length fun i => (L.getD i Con.zero).rvs) (IntKind.i64.wrap ((↑k : Int) - (1 : Int)))).length : Int) > (0 : Int))) true, (∀ (i : Nat), i < L.length → (fun i => (L.getD i Con.zero).rvs) i = (Con.ofR ((fun i => (L.getD i Con.zero).rvs) i)).rvs) ∧ okE (consR L.length fun i => (L.getD i Con.zero).rvs), L.length = L.length ∧ (fun i => (L.getD i Con.zero).rvs) = fun i => (L.getD i Con.zero).rvs, (∀ (i : Nat), i < L.length → (fun i => (L.getD i Con.zero).rvs) i = (Con.ofR ((fun i => (L.getD i Con.zero).rvs) i)).rvs) ∧ okE (consR L.length fun i => (L.getD i Con.zero).rvs), (IntKind.i64.wrap ((↑k : Int) - (1 : Int))).toNat < (updS (consR L.length fun i => (L.getD i Con.zero).rvs) k (IntKind.i64.wrap ((0 : Int) - ((consR L.length fun i => (L.getD i Con.zero).rvs).getD k Con.zero).sign))).length, (0 : Int) ≤ IntKind.i64.wrap ((↑k : Int) - (1 : Int)) ∧ IntKind.i64.wrap ((↑k : Int) - (1 : Int)) < (↑L.length : Int), (IntKind.i64.wrap ((↑k : Int) - (1 : Int))).toNat < (updS (consR L.length fun i => (L.getD i Con.zero).rvs) k (IntKind.i64.wrap ((0 : Int) - ((consR L.length fun i => (L.getD i Con.zero).rvs).getD k Con.zero).sign))).length, (0 : Int) ≤ IntKind.i64.wrap ((↑k : Int) - (1 : Int)) ∧ IntKind.i64.wrap ((↑k : Int) - (1 : Int)) < (↑L.length : Int), k < (consR L.length fun i => (L.getD i Con.zero).rvs).length, (0 : Int) ≤ (↑k : Int) ∧ (↑k : Int) < (↑L.length : Int), k < (consR L.length fun i => (L.getD i Con.zero).rvs).length, (0 : Int) ≤ (↑k : Int) ∧ (↑k : Int) < (↑L.length : Int), (2 : Int) = (2 : Int), (0 : Nat) < L.length ∧ L.length ≤ (1000000 : Nat), ∀ (i : Nat), i < L.length → (fun i => (L.getD i Con.zero).rvs) i = (Con.ofR ((fun i => (L.getD i Con.zero).rvs) i)).rvs, Dec (L.length.beq (0 : Nat)) false] (by kernel_rfl) ⟨?_, ?_, (dN d5), ?_, ?_, d4, d3, ?_, ?_, ?_, ?_, ?_, ?_, ?_, d2, ?_, ?_, ?_, ?_, ?_, ?_, ?_, ?_, ?_, ?_, ?_, ?_, ?_, ?_, d1⟩)
           (fun d5 => rr [false, true, true, false, true] [(2 : Int) = (2 : Int), L.length = (stepM L k).length ∧ L.length = (updT (updT (updS (updS (consR L.length fun i => (L.getD i Con.zero).rvs) k (IntKind.i64.wrap ((0 : Int) - ((consR L.length fun i => (L.getD i Con.zero).rvs).getD k Con.zero).sign))) (IntKind.i64.wrap ((↑k : Int) - (1 : Int))).toNat (IntKind.i64.wrap ((0 : Int) - ((updS (consR L.length fun i => (L.getD i Con.zero).rvs) k (IntKind.i64.wrap ((0 : Int) - ((consR L.length fun i => (L.getD i Con.zero).rvs).getD k Con.zero).sign))).getD (IntKind.i64.wrap ((↑k : Int) - (1 : Int))).toNat Con.zero).sign))) ((partM (consR L.length fun i => (L.getD i Con.zero).rvs) (IntKind.i64.wrap ((↑k : Int) - (1 : Int)))).getD (Int.toNat (0 : Int)) (0 : Int)).toNat ((IntKind.i64.wrap (((updS (updS (consR L.length fun i => (L.getD i Con.zero).rvs) k (IntKind.i64.wrap ((0 : Int) - ((consR L.length fun i => (L.getD i Con.zero).rvs).getD k Con.zero).sign))) (IntKind.i64.wrap ((↑k : Int) - (1 : Int))).toNat (IntKind.i64.wrap ((0 : Int) - ((updS (consR L.length fun i => (L.getD i Con.zero).rvs) k (IntKind.i64.wrap ((0 : Int) - ((consR L.length fun i => (L.getD i Con.zero).rvs).getD k Con.zero).sign))).getD (IntKind.i64.wrap ((↑k : Int) - (1 : Int))).toNat Con.zero).sign))).getD ((partM (consR L.length fun i => (L.getD i Con.zero).rvs) (IntKind.i64.wrap ((↑k : Int) - (1 : Int)))).getD (Int.toNat (0 : Int)) (0 : Int)).toNat Con.zero).oddity + (4 : Int))).tmod (8 : Int))) ((partM (consR L.length fun i => (L.getD i Con.zero).rvs) (↑k : Int)).getD (Int.toNat (0 : Int)) (0 : Int)).toNat ((IntKind.i64.wrap (((updT (updS (updS (consR L.length fun i => (L.getD i Con.zero).rvs) k (IntKind.i64.wrap ((0 : Int) - ((consR L.length fun i => (L.getD i Con.zero).rvs).getD k Con.zero).sign))) (IntKind.i64.wrap ((↑k : Int) - (1 : Int))).toNat (IntKind.i64.wrap ((0 : Int) - ((updS (consR L.length fun i => (L.getD i Con.zero).rvs) k (IntKind.i64.wrap ((0 : Int) - ((consR L.length fun i => (L.getD i Con.zero).rvs).getD k Con.zero).sign))).getD (IntKind.i64.wrap ((↑k : Int) - (1 : Int))).toNat Con.zero).sign))) ((partM (consR L.length fun i => (L.getD i Con.zero).rvs) (IntKind.i64.wrap ((↑k : Int) - (1 : Int)))).getD (Int.toNat (0 : Int)) (0 : Int)).toNat ((IntKind.i64.wrap (((updS (updS (consR L.length fun i => (L.getD i Con.zero).rvs) k (IntKind.i64.wrap ((0 : Int) - ((consR L.length fun i => (L.getD i Con.zero).rvs).getD k Con.zero).sign))) (IntKind.i64.wrap ((↑k : Int) - (1 : Int))).toNat (IntKind.i64.wrap ((0 : Int) - ((updS (consR L.length fun i => (L.getD i Con.zero).rvs) k (IntKind.i64.wrap ((0 : Int) - ((consR L.length fun i => (L.getD i Con.zero).rvs).getD k Con.zero).sign))).getD (IntKind.i64.wrap ((↑k : Int) - (1 : Int))).toNat Con.zero).sign))).getD ((partM (consR L.length fun i => (L.getD i Con.zero).rvs) (IntKind.i64.wrap ((↑k : Int) - (1 : Int)))).getD (Int.toNat (0 : Int)) (0 : Int)).toNat Con.zero).oddity + (4 : Int))).tmod (8 : Int))).getD ((partM (consR L.length fun i => (L.getD i Con.zero).rvs) (↑k : Int)).getD (Int.toNat (0 : Int)) (0 : Int)).toNat Con.zero).oddity + (4 : Int))).tmod (8 : Int))).length ∧ ∀ (i : Nat), i < L.length → (fun i => ((stepM L k).getD i Con.zero).rvs) i = ((updT (updT (updS (updS (consR L.length fun i => (L.getD i Con.zero).rvs) k (IntKind.i64.wrap ((0 : Int) - ((consR L.length fun i => (L.getD i Con.zero).rvs).getD k Con.zero).sign))) (IntKind.i64.wrap ((↑k : Int) - (1 : Int))).toNat (IntKind.i64.wrap ((0 : Int) - ((updS (consR L.length fun i => (L.getD i Con.zero).rvs) k (IntKind.i64.wrap ((0 : Int) - ((consR L.length fun i => (L.getD i Con.zero).rvs).getD k Con.zero).sign))).getD (IntKind.i64.wrap ((↑k : Int) - (1 : Int))).toNat Con.zero).sign))) ((partM (consR L.length fun i => (L.getD i Con.zero).rvs) (IntKind.i64.wrap ((↑k : Int) - (1 : Int)))).getD (Int.toNat (0 : Int)) (0 : Int)).toNat ((IntKind.i64.wrap (((updS (updS (consR L.length fun i => (L.getD i Con.zero).rvs) k (IntKind.i64.wrap ((0 : Int) - ((consR L.length fun i => (L.getD i Con.zero).rvs).getD k Con.zero).sign))) (IntKind.i64.wrap ((↑k : Int) - (1 : Int))).toNat (IntKind.i64.wrap ((0 : Int) - ((updS (consR L.length fun i => (L.getD i Con.zero).rvs) k (IntKind.i64.wrap ((0 : Int) - ((consR L.length fun i => (L.getD i Con.zero).rvs).getD k Con.zero).sign))).getD (IntKind.i64.wrap ((↑k : Int) - (1 : Int))).toNat Con.zero).sign))).getD ((partM (consR L.length fun i => (L.getD i Con.zero).rvs) (IntKind.i64.wrap ((↑k : Int) - (1 : Int)))).getD (Int.toNat (0 : Int)) (0 : Int)).toNat Con.zero).oddity + (4 : Int))).tmod (8 : Int))) ((partM (consR L.length fun i => (L.getD i Con.zero).rvs) (↑k : Int)).getD (Int.toNat (0 : Int)) (0 : Int)).toNat ((IntKind.i64.wrap (((updT (updS (updS (consR L.length fun i => (L.getD i Con.zero).rvs) k (IntKind.i64.wrap ((0 : Int) - ((consR L.length fun i => (L.getD i Con.zero).rvs).getD k Con.zero).sign))) (IntKind.i64.wrap ((↑k : Int) - (1 : Int))).toNat (IntKind.i64.wrap ((0 : Int) - ((updS (consR L.length fun i => (L.getD i Con.zero).rvs) k (IntKind.i64.wrap ((0 : Int) - ((consR L.length fun i => (L.getD i Con.zero).rvs).getD k Con.zero).sign))).getD (IntKind.i64.wrap ((↑k : Int) - (1 : Int))).toNat Con.zero).sign))) ((partM (consR L.length fun i => (L.getD i Con.zero).rvs) (IntKind.i64.wrap ((↑k : Int) - (1 : Int)))).getD (Int.toNat (0 : Int)) (0 : Int)).toNat ((IntKind.i64.wrap (((updS (updS (consR L.length fun i => (L.getD i Con.zero).rvs) k (IntKind.i64.wrap ((0 : Int) - ((consR L.length fun i => (L.getD i Con.zero).rvs).getD k Con.zero).sign))) (IntKind.i64.wrap ((↑k : Int) - (1 : Int))).toNat (IntKind.i64.wrap ((0 : Int) - ((updS (consR L.length fun i => (L.getD i Con.zero).rvs) k (IntKind.i64.wrap ((0 : Int) - ((consR L.length fun i => (L.getD i Con.zero).rvs).getD k Con.zero).sign))).getD (IntKind.i64.wrap ((↑k : Int) - (1 : Int))).toNat Con.zero).sign))).getD ((partM (consR L.length fun i => (L.getD i Con.zero).rvs) (IntKind.i64.wrap ((↑k : Int) - (1 : Int)))).getD (Int.toNat (0 : Int)) (0 : Int)).toNat Con.zero).oddity + (4 : Int))).tmod (8 : Int))).getD ((partM (consR L.length fun i => (L.getD i Con.zero).rvs) (↑k : Int)).getD (Int.toNat (0 : Int)) (0 : Int)).toNat Con.zero).oddity + (4 : Int))).tmod (8 : Int))).getD i Con.zero).rvs, ((partM (consR L.length fun i => (L.getD i Con.zero).rvs) (↑k : Int)).getD (Int.toNat (0 : Int)) (0 : Int)).toNat < (updT (updS (updS (consR L.length fun i => (L.getD i Con.zero).rvs) k (IntKind.i64.wrap ((0 : Int) - ((consR L.length fun i => (L.getD i Con.zero).rvs).getD k Con.zero).sign))) (IntKind.i64.wrap ((↑k : Int) - (1 : Int))).toNat (IntKind.i64.wrap ((0 : Int) - ((updS (consR L.length fun i => (L.getD i Con.zero).rvs) k (IntKind.i64.wrap ((0 : Int) - ((consR L.length fun i => (L.getD i Con.zero).rvs).getD k Con.zero).sign))).getD (IntKind.i64.wrap ((↑k : Int) - (1 : Int))).toNat Con.zero).sign))) ((partM (consR L.length fun i => (L.getD i Con.zero).rvs) (IntKind.i64.wrap ((↑k : Int) - (1 : Int)))).getD (Int.toNat (0 : Int)) (0 : Int)).toNat ((IntKind.i64.wrap (((updS (updS (consR L.length fun i => (L.getD i Con.zero).rvs) k (IntKind.i64.wrap ((0 : Int) - ((consR L.length fun i => (L.getD i Con.zero).rvs).getD k Con.zero).sign))) (IntKind.i64.wrap ((↑k : Int) - (1 : Int))).toNat (IntKind.i64.wrap ((0 : Int) - ((updS (consR L.length fun i => (L.getD i Con.zero).rvs) k (IntKind.i64.wrap ((0 : Int) - ((consR L.length fun i => (L.getD i Con.zero).rvs).getD k Con.zero).sign))).getD (IntKind.i64.wrap ((↑k : Int) - (1 : Int))).toNat Con.zero).sign))).getD ((partM (consR L.length fun i => (L.getD i Con.zero).rvs) (IntKind.i64.wrap ((↑k : Int) - (1 : Int)))).getD (Int.toNat (0 : Int)) (0 : Int)).toNat Con.zero).oddity + (4 : Int))).tmod (8 : Int))).length, (0 : Int) ≤ (partM (consR L.length fun i => (L.getD i Con.zero).rvs) (↑k : Int)).getD (Int.toNat (0 : Int)) (0 : Int) ∧ (partM (consR L.length fun i => (L.getD i Con.zero).rvs) (↑k : Int)).getD (Int.toNat (0 : Int)) (0 : Int) < (↑L.length : Int), (8 : Int) ≠ (0 : Int), ((partM (consR L.length fun i => (L.getD i Con.zero).rvs) (↑k : Int)).getD (Int.toNat (0 : Int)) (0 : Int)).toNat < (updT (updS (updS (consR L.length fun i => (L.getD i Con.zero).rvs) k (IntKind.i64.wrap ((0 : Int) - ((consR L.length fun i => (L.getD i Con.zero).rvs).getD k Con.zero).sign))) (IntKind.i64.wrap ((↑k : Int) - (1 : Int))).toNat (IntKind.i64.wrap ((0 : Int) - ((updS (consR L.length fun i => (L.getD i Con.zero).rvs) k (IntKind.i64.wrap ((0 : Int) - ((consR L.length fun i => (L.getD i Con.zero).rvs).getD k Con.zero).sign))).getD (IntKind.i64.wrap ((↑k : Int) - (1 : Int))).toNat Con.zero).sign))) ((partM (consR L.length fun i => (L.getD i Con.zero).rvs) (IntKind.i64.wrap ((↑k : Int) - (1 : Int)))).getD (Int.toNat (0 : Int)) (0 : Int)).toNat ((IntKind.i64.wrap (((updS (updS (consR L.length fun i => (L.getD i Con.zero).rvs) k (IntKind.i64.wrap ((0 : Int) - ((consR L.length fun i => (L.getD i Con.zero).rvs).getD k Con.zero).sign))) (IntKind.i64.wrap ((↑k : Int) - (1 : Int))).toNat (IntKind.i64.wrap ((0 : Int) - ((updS (consR L.length fun i => (L.getD i Con.zero).rvs) k (IntKind.i64.wrap ((0 : Int) - ((consR L.length fun i => (L.getD i Con.zero).rvs).getD k Con.zero).sign))).getD (IntKind.i64.wrap ((↑k : Int) - (1 : Int))).toNat Con.zero).sign))).getD ((partM (consR L.length fun i => (L.getD i Con.zero).rvs) (IntKind.i64.wrap ((↑k : Int) - (1 : Int)))).getD (Int.toNat (0 : Int)) (0 : Int)).toNat Con.zero).oddity + (4 : Int))).tmod (8 : Int))).length, (0 : Int) ≤ (partM (consR L.length fun i => (L.getD i Con.zero).rvs) (↑k : Int)).getD (Int.toNat (0 : Int)) (0 : Int) ∧ (partM (consR L.length fun i => (L.getD i Con.zero).rvs) (↑k : Int)).getD (Int.toNat (0 : Int)) (0 : Int) < (↑L.length : Int), (0 : Int) ≤ (0 : Int) ∧ (0 : Int) < (↑(partM (consR L.length fun i => (L.getD i Con.zero).rvs) (↑k : Int)).length : Int), (0 : Int) ≤ (0 : Int) ∧ (0 : Int) < (↑(partM (consR L.length fun i => (L.getD i Con.zero).rvs) (↑k : Int)).length : Int), Dec ((partM (consR L.length fun i => (L.getD i Con.zero).rvs) (IntKind.i64.wrap ((↑k : Int) - (1 : Int)))).getD (Int.toNat (0 : Int)) (0 : Int) != (partM (consR L.length fun i => (L.getD i Con.zero).rvs) (↑k : Int)).getD (Int.toNat (0 : Int)) (0 : Int)) true, (0 : Int) ≤ (0 : Int) ∧ (0 : Int) < (↑(partM (consR L.length fun i => (L.getD i Con.zero).rvs) (↑k : Int)).length : Int), (0 : Int) ≤ (0 : Int) ∧ (0 : Int) < (↑(partM (consR L.length fun i => (L.getD i Con.zero).rvs) (IntKind.i64.wrap ((↑k : Int) - (1 : Int)))).length : Int), Dec ((↑(partM (consR L.length fun i => (L.getD i Con.zero).rvs) (IntKind.i64.wrap ((↑k : Int) - (1 : Int)))).length : Int) == (0 : Int)) false, Dec (decide ((↑(partM (consR L.length fun i => (L.getD i Con.zero).rvs) (↑k : Int)).length : Int) > (0 : Int))) true, ((partM (consR L.length fun i => (L.getD i Con.zero).rvs) (IntKind.i64.wrap ((↑k : Int) - (1 : Int)))).getD (Int.toNat (0 : Int)) (0 : Int)).toNat < (updS (updS (consR L.length fun i => (L.getD i Con.zero).rvs) k (IntKind.i64.wrap ((0 : Int) - ((consR L.length fun i => (L.getD i Con.zero).rvs).getD k Con.zero).sign))) (IntKind.i64.wrap ((↑k : Int) - (1 : Int))).toNat (IntKind.i64.wrap ((0 : Int) - ((updS (consR L.length fun i => (L.getD i Con.zero).rvs) k (IntKind.i64.wrap ((0 : Int) - ((consR L.length fun i => (L.getD i Con.zero).rvs).getD k Con.zero).sign))).getD (IntKind.i64.wrap ((↑k : Int) - (1 : Int))).toNat Con.zero).sign))).length, (0 : Int) ≤ (partM (consR L.length fun i => (L.getD i Con.zero).rvs) (IntKind.i64.wrap ((↑k : Int) - (1 : Int)))).getD (Int.toNat (0 : Int)) (0 : Int) ∧ (partM (consR L.length fun i => (L.getD i Con.zero).rvs) (IntKind.i64.wrap ((↑k : Int) - (1 : Int)))).getD (Int.toNat (0 : Int)) (0 : Int) < (↑L.length : Int), (8 : Int) ≠ (0 : Int), ((partM (consR L.length fun i => (L.getD i Con.zero).rvs) (IntKind.i64.wrap ((↑k : Int) - (1 : Int)))).getD (Int.toNat (0 : Int)) (0 : Int)).toNat < (updS (updS (consR L.length fun i => (L.getD i Con.zero).rvs) k (IntKind.i64.wrap ((0 : Int) - ((consR L.length fun i => (L.getD i Con.zero).rvs).getD k Con.zero).sign))) (IntKind.i64.wrap ((↑k : Int) - (1 : Int))).toNat (IntKind.i64.wrap ((0 : Int) - ((updS (consR L.length fun i => (L.getD i Con.zero).rvs) k (IntKind.i64.wrap ((0 : Int) - ((consR L.length fun i => (L.getD i Con.zero).rvs).getD k Con.zero).sign))).getD (IntKind.i64.wrap ((↑k : Int) - (1 : Int))).toNat Con.zero).sign))).length, (0 : Int) ≤ (partM (consR L.length fun i => (L.getD i Con.zero).rvs) (IntKind.i64.wrap ((↑k : Int) - (1 : Int)))).getD (Int.toNat (0 : Int)) (0 : Int) ∧ (partM (consR L.length fun i => (L.getD i Con.zero).rvs) (IntKind.i64.wrap ((↑k : Int) - (1 : Int)))).getD (Int.toNat (0 : Int)) (0 : Int) < (↑L.length : Int), (0 : Int) ≤ (0 : Int) ∧ (0 : Int) < (↑(partM (consR L.length fun i => (L.getD i Con.zero).rvs) (IntKind.i64.wrap ((↑k : Int) - (1 : Int)))).length : Int), (0 : Int) ≤ (0 : Int) ∧ (0 : Int) < (↑(partM (consR L.length fun i => (L.getD i Con.zero).rvs) (IntKind.i64.wrap ((↑k : Int) - (1 : Int)))).length : Int), Dec (decide ((↑(partM (consR L.length fun i => (L.getD i Con.zero).rvs) (IntKind.i64.wrap ((↑k : Int) - (1 : Int)))).length : Int) > (0 : Int))) true, (∀ (i : Nat), i < L.length → (fun i => (L.getD i Con.zero).rvs) i = (Con.ofR ((fun i => (L.getD i Con.zero).rvs) i)).rvs) ∧ okE (consR L.length fun i => (L.getD i Con.zero).rvs), L.length = L.length ∧ (fun i => (L.getD i Con.zero).rvs) = fun i => (L.getD i Con.zero).rvs, (∀ (i : Nat), i < L.length → (fun i => (L.getD i Con.zero).rvs) i = (Con.ofR ((fun i => (L.getD i Con.zero).rvs) i)).rvs) ∧ okE (consR L.length fun i => (L.getD i Con.zero).rvs), (IntKind.i64.wrap ((↑k : Int) - (1 : Int))).toNat < (updS (consR L.length fun i => (L.getD i Con.zero).rvs) k (IntKind.i64.wrap ((0 : Int) - ((consR L.length fun i => (L.getD i Con.zero).rvs).getD k Con.zero).sign))).length, (0 : Int) ≤ IntKind.i64.wrap ((↑k : Int) - (1 : Int)) ∧ IntKind.i64.wrap ((↑k : Int) - (1 : Int)) < (↑L.length : Int), (IntKind.i64.wrap ((↑k : Int) - (1 : Int))).toNat < (updS (consR L.length fun i => (L.getD i Con.zero).rvs) k (IntKind.i64.wrap ((0 : Int) - ((consR L.length fun i => (L.getD i Con.zero).rvs).getD k Con.zero).sign))).length, (0 : Int) ≤ IntKind.i64.wrap ((↑k : Int) - (1 : Int)) ∧ IntKind.i64.wrap ((↑k : Int) - (1 : Int)) < (↑L.length : Int), k < (consR L.length fun i => (L.getD i Con.zero).rvs).length, (0 : Int) ≤ (↑k : Int) ∧ (↑k : Int) < (↑L.length : Int), k < (consR L.length fun i => (L.getD i Con.zero).rvs).length, (0 : Int) ≤ (↑k : Int) ∧ (↑k : Int) < (↑L.length : Int), (2 : Int) = (2 : Int), (0 : Nat) < L.length ∧ L.length ≤ (1000000 : Nat), ∀ (i : Nat), i < L.length → (fun i => (L.getD i Con.zero).rvs) i = (Con.ofR ((fun i => (L.getD i Con.zero).rvs) i)).rvs, Dec (L.length.beq (0 : Nat)) false] (by kernel_rfl) ⟨?_, ?_, ?_, ?_, ?_, ?_, ?_, ?_, ?_, (dN d5), ?_, ?_, d4, d3, ?_, ?_, ?_, ?_, ?_, ?_, ?_, d2, ?_, ?_, ?_, ?_, ?_, ?_, ?_, ?_, ?_, ?_, ?_, ?_, ?_, ?_, d1⟩)))
           (fun d3 => rr [false, true, false] [(2 : Int) = (2 : Int), L.length = (stepM L k).length ∧ L.length = (updT (updS (updS (consR L.length fun i => (L.getD i Con.zero).rvs) k (IntKind.i64.wrap ((0 : Int) - ((consR L.length fun i => (L.getD i Con.zero).rvs).getD k Con.zero).sign))) (IntKind.i64.wrap ((↑k : Int) - (1 : Int))).toNat (IntKind.i64.wrap ((0 : Int) - ((updS (consR L.length fun i => (L.getD i Con.zero).rvs) k (IntKind.i64.wrap ((0 : Int) - ((consR L.length fun i => (L.getD i Con.zero).rvs).getD k Con.zero).sign))).getD (IntKind.i64.wrap ((↑k : Int) - (1 : Int))).toNat Con.zero).sign))) ((partM (consR L.length fun i => (L.getD i Con.zero).rvs) (IntKind.i64.wrap ((↑k : Int) - (1 : Int)))).getD (Int.toNat (0 : Int)) (0 : Int)).toNat ((IntKind.i64.wrap (((updS (updS (consR L.length fun i => (L.getD i Con.zero).rvs) k (IntKind.i64.wrap ((0 : Int) - ((consR L.length fun i => (L.getD i Con.zero).rvs).getD k Con.zero).sign))) (IntKind.i64.wrap ((↑k : Int) - (1 : Int))).toNat (IntKind.i64.wrap ((0 : Int) - ((updS (consR L.length fun i => (L.getD i Con.zero).rvs) k (IntKind.i64.wrap ((0 : Int) - ((consR L.length fun i => (L.getD i Con.zero).rvs).getD k Con.zero).sign))).getD (IntKind.i64.wrap ((↑k : Int) - (1 : Int))).toNat Con.zero).sign))).getD ((partM (consR L.length fun i => (L.getD i Con.zero).rvs) (IntKind.i64.wrap ((↑k : Int) - (1 : Int)))).getD (Int.toNat (0 : Int)) (0 : Int)).toNat Con.zero).oddity + (4 : Int))).tmod (8 : Int))).length ∧ ∀ (i : Nat), i < L.length → (fun i => ((stepM L k).getD i Con.zero).rvs) i = ((updT (updS (updS (consR L.length fun i => (L.getD i Con.zero).rvs) k (IntKind.i64.wrap ((0 : Int) - ((consR L.length fun i => (L.getD i Con.zero).rvs).getD k Con.zero).sign))) (IntKind.i64.wrap ((↑k : Int) - (1 : Int))).toNat (IntKind.i64.wrap ((0 : Int) - ((updS (consR L.length fun i => (L.getD i Con.zero).rvs) k (IntKind.i64.wrap ((0 : Int) - ((consR L.length fun i => (L.getD i Con.zero).rvs).getD k Con.zero).sign))).getD (IntKind.i64.wrap ((↑k : Int) - (1 : Int))).toNat Con.zero).sign))) ((partM (consR L.length fun i => (L.getD i Con.zero).rvs) (IntKind.i64.wrap ((↑k : Int) - (1 : Int)))).getD (Int.toNat (0 : Int)) (0 : Int)).toNat ((IntKind.i64.wrap (((updS (updS (consR L.length fun i => (L.getD i Con.zero).rvs) k (IntKind.i64.wrap ((0 : Int) - ((consR L.length fun i => (L.getD i Con.zero).rvs).getD k Con.zero).sign))) (IntKind.i64.wrap ((↑k : Int) - (1 : Int))).toNat (IntKind.i64.wrap ((0 : Int) - ((updS (consR L.length fun i => (L.getD i Con.zero).rvs) k (IntKind.i64.wrap ((0 : Int) - ((consR L.length fun i => (L.getD i Con.zero).rvs).getD k Con.zero).sign))).getD (IntKind.i64.wrap ((↑k : Int) - (1 : Int))).toNat Con.zero).sign))).getD ((partM (consR L.length fun i => (L.getD i Con.zero).rvs) (IntKind.i64.wrap ((↑k : Int) - (1 : Int)))).getD (Int.toNat (0 : Int)) (0 : Int)).toNat Con.zero).oddity + (4 : Int))).tmod (8 : Int))).getD i Con.zero).rvs, Dec (decide ((↑(partM (consR L.length fun i => (L.getD i Con.zero).rvs) (↑k : Int)).length : Int) > (0 : Int))) false, ((partM (consR L.length fun i => (L.getD i Con.zero).rvs) (IntKind.i64.wrap ((↑k : Int) - (1 : Int)))).getD (Int.toNat (0 : Int)) (0 : Int)).toNat < (updS (updS (consR L.length fun i => (L.getD i Con.zero).rvs) k (IntKind.i64.wrap ((0 : Int) - ((consR L.length fun i => (L.getD i Con.zero).rvs).getD k Con.zero).sign))) (IntKind.i64.wrap ((↑k : Int) - (1 : Int))).toNat (IntKind.i64.wrap ((0 : Int) - ((updS (consR L.length fun i => (L.getD i Con.zero).rvs) k (IntKind.i64.wrap ((0 : Int) - ((consR L.length fun i => (L.getD i Con.zero).rvs).getD k Con.zero).sign))).getD (IntKind.i64.wrap ((↑k : Int) - (1 : Int))).toNat Con.zero).sign))).length, (0 : Int) ≤ (partM (consR L.length fun i => (L.getD i Con.zero).rvs) (IntKind.i64.wrap ((↑k : Int) - (1 : Int)))).getD (Int.toNat (0 : Int)) (0 : Int) ∧ (partM (consR L.length fun i => (L.getD i Con.zero).rvs) (IntKind.i64.wrap ((↑k : Int) - (1 : Int)))).getD (Int.toNat (0 : Int)) (0 : Int) < (↑L.length : Int), (8 : Int) ≠ (0 : Int), ((partM (consR L.length fun i => (L.getD i Con.zero).rvs) (IntKind.i64.wrap ((↑k : Int) - (1 : Int)))).getD (Int.toNat (0 : Int)) (0 : Int)).toNat < (updS (updS (consR L.length fun i => (L.getD i Con.zero).rvs) k (IntKind.i64.wrap ((0 : Int) - ((consR L.length fun i => (L.getD i Con.zero).rvs).getD k Con.zero).sign))) (IntKind.i64.wrap ((↑k : Int) - (1 : Int))).toNat (IntKind.i64.wrap ((0 : Int) - ((updS (consR L.length fun i => (L.getD i Con.zero).rvs) k (IntKind.i64.wrap ((0 : Int) - ((consR L.length fun i => (L.getD i Con.zero).rvs).getD k Con.zero).sign))).getD (IntKind.i64.wrap ((↑k : Int) - (1 : Int))).toNat Con.zero).sign))).length, (0 : Int) ≤ (partM (consR L.length fun i => (L.getD i Con.zero).rvs) (IntKind.i64.wrap ((↑k : Int) - (1 : Int)))).getD (Int.toNat (0 : Int)) (0 : Int) ∧ (partM (consR L.length fun i => (L.getD i Con.zero).rvs) (IntKind.i64.wrap ((↑k : Int) - (1 : Int)))).getD (Int.toNat (0 : Int)) (0 : Int) < (↑L.length : Int), (0 : Int) ≤ (0 : Int) ∧ (0 : Int) < (↑(partM (consR L.length fun i => (L.getD i Con.zero).rvs) (IntKind.i64.wrap ((↑k : Int) - (1 : Int)))).length : Int), (0 : Int) ≤ (0 : Int) ∧ (0 : Int) < (↑(partM (consR L.length fun i => (L.getD i Con.zero).rvs) (IntKind.i64.wrap ((↑k : Int) - (1 : Int)))).length : Int), Dec (decide ((↑(partM (consR L.length fun i => (L.getD i Con.zero).rvs) (IntKind.i64.wrap ((↑k : Int) - (1 : Int)))).length : Int) > (0 : Int))) true, (∀ (i : Nat), i < L.length → (fun i => (L.getD i Con.zero).rvs) i = (Con.ofR ((fun i => (L.getD i Con.zero).rvs) i)).rvs) ∧ okE (consR L.length fun i => (L.getD i Con.zero).rvs), L.length = L.length ∧ (fun i => (L.getD i Con.zero).rvs) = fun i => (L.getD i Con.zero).rvs, (∀ (i : Nat), i < L.length → (fun i => (L.getD i Con.zero).rvs) i = (Con.ofR ((fun i => (L.getD i Con.zero).rvs) i)).rvs) ∧ okE (consR L.length fun i => (L.getD i Con.zero).rvs), (IntKind.i64.wrap ((↑k : Int) - (1 : Int))).toNat < (updS (consR L.length fun i => (L.getD i Con.zero).rvs) k (IntKind.i64.wrap ((0 : Int) - ((consR L.length fun i => (L.getD i Con.zero).rvs).getD k Con.zero).sign))).length, (0 : Int) ≤ IntKind.i64.wrap ((↑k : Int) - (1 : Int)) ∧ IntKind.i64.wrap ((↑k : Int) - (1 : Int)) < (↑L.length : Int), (IntKind.i64.wrap ((↑k : Int) - (1 : Int))).toNat < (updS (consR L.length fun i => (L.getD i Con.zero).rvs) k (IntKind.i64.wrap ((0 : Int) - ((consR L.length fun i => (L.getD i Con.zero).rvs).getD k Con.zero).sign))).length, (0 : Int) ≤ IntKind.i64.wrap ((↑k : Int) - (1 : Int)) ∧ IntKind.i64.wrap ((↑k : Int) - (1 : Int)) < (↑L.length : Int), k < (consR L.length fun i => (L.getD i Con.zero).rvs).length, (0 : Int) ≤ (↑k : Int) ∧ (↑k : Int) < (↑L.length : Int), k < (consR L.length fun i => (L.getD i Con.zero).rvs).length, (0 : Int) ≤ (↑k : Int) ∧ (↑k : Int) < (↑L.length : Int), (2 : Int) = (2 : Int), (0 : Nat) < L.length ∧ L.length ≤ (1000000 : Nat), ∀ (i : Nat), i < L.length → (fun i => (L.getD i Con.zero).rvs) i = (Con.ofR ((fun i => (L.getD i Con.zero).rvs) i)).rvs, Dec (L.length.beq (0 : Nat)) false] (by kernel_rfl) ⟨?_, ?_, d3, ?_, ?_, ?_, ?_, ?_, ?_, ?_, d2, ?_, ?_, ?_, ?_, ?_, ?_, ?_, ?_, ?_, ?_, ?_, ?_, ?_, ?_, d1⟩))
           (fun d2 => Or.elim (Bool.eq_false_or_eq_true (decide ((↑(partM (consR L.length fun i => (L.getD i Con.zero).rvs) (↑k : Int)).length : Int) > (0 : Int)))) (fun d3 => Or.elim (Bool.eq_false_or_eq_true ((↑(partM (consR L.length fun i => (L.getD i Con.zero).rvs) (IntKind.i64.wrap ((↑k : Int) - (1 : Int)))).length : Int) == (0 : Int))) (fun d4 => rr [false, false, true, true] [(2 : Int) = (2 : Int), L.length = (stepM L k).length ∧ L.length = (updT (updS (updS (consR L.length fun i => (L.getD i Con.zero).rvs) k (IntKind.i64.wrap ((0 : Int) - ((consR L.length fun i => (L.getD i Con.zero).rvs).getD k Con.zero).sign))) (IntKind.i64.wrap ((↑k : Int) - (1 : Int))).toNat (IntKind.i64.wrap ((0 : Int) - ((updS (consR L.length fun i => (L.getD i Con.zero).rvs) k (IntKind.i64.wrap ((0 : Int) - ((consR L.length fun i => (L.getD i Con.zero).rvs).getD k Con.zero).sign))).getD (IntKind.i64.wrap ((↑k : Int) - (1 : Int))).toNat Con.zero).sign))) ((partM (consR L.length fun i => (L.getD i Con.zero).rvs) (↑k : Int)).getD (Int.toNat (0 : Int)) (0 : Int)).toNat ((IntKind.i64.wrap (((updS (updS (consR L.length fun i => (L.getD i Con.zero).rvs) k (IntKind.i64.wrap ((0 : Int) - ((consR L.length fun i => (L.getD i Con.zero).rvs).getD k Con.zero).sign))) (IntKind.i64.wrap ((↑k : Int) - (1 : Int))).toNat (IntKind.i64.wrap ((0 : Int) - ((updS (consR L.length fun i => (L.getD i Con.zero).rvs) k (IntKind.i64.wrap ((0 : Int) - ((consR L.length fun i => (L.getD i Con.zero).rvs).getD k Con.zero).sign))).getD (IntKind.i64.wrap ((↑k : Int) - (1 : Int))).toNat Con.zero).sign))).getD ((partM (consR L.length fun i => (L.getD i Con.zero).rvs) (↑k : Int)).getD (Int.toNat (0 : Int)) (0 : Int)).toNat Con.zero).oddity + (4 : Int))).tmod (8 : Int))).length ∧ ∀ (i : Nat), i < L.length → (fun i => ((stepM L k).getD i Con.zero).rvs) i = ((updT (updS (updS (consR L.length fun i => (L.getD i Con.zero).rvs) k (IntKind.i64.wrap ((0 : Int) - ((consR L.length fun i => (L.getD i Con.zero).rvs).getD k Con.zero).sign))) (IntKind.i64.wrap ((↑k : Int) - (1 : Int))).toNat (IntKind.i64.wrap ((0 : Int) - ((updS (consR L.length fun i => (L.getD i Con.zero).rvs) k (IntKind.i64.wrap ((0 : Int) - ((consR L.length fun i => (L.getD i Con.zero).rvs).getD k Con.zero).sign))).getD (IntKind.i64.wrap ((↑k : Int) - (1 : Int))).toNat Con.zero).sign))) ((partM (consR L.length fun i => (L.getD i Con.zero).rvs) (↑k : Int)).getD (Int.toNat (0 : Int)) (0 : Int)).toNat ((IntKind.i64.wrap (((updS (updS (consR L.length fun i => (L.getD i Con.zero).rvs) k (IntKind.i64.wrap ((0 : Int) - ((consR L.length fun i => (L.getD i Con.zero).rvs).getD k Con.zero).sign))) (IntKind.i64.wrap ((↑k : Int) - (1 : Int))).toNat (IntKind.i64.wrap ((0 : Int) - ((updS (consR L.length fun i => (L.getD i Con.zero).rvs) k (IntKind.i64.wrap ((0 : Int) - ((consR L.length fun i => (L.getD i Con.zero).rvs).getD k Con.zero).sign))).getD (IntKind.i64.wrap ((↑k : Int) - (1 : Int))).toNat Con.zero).sign))).getD ((partM (consR L.length fun i => (L.getD i Con.zero).rvs) (↑k : Int)).getD (Int.toNat (0 : Int)) (0 : Int)).toNat Con.zero).oddity + (4 : Int))).tmod (8 : Int))).getD i Con.zero).rvs, ((partM (consR L.length fun i => (L.getD i Con.zero).rvs) (↑k : Int)).getD (Int.toNat (0 : Int)) (0 : Int)).toNat < (updS (updS (consR L.length fun i => (L.getD i Con.zero).rvs) k (IntKind.i64.wrap ((0 : Int) - ((consR L.length fun i => (L.getD i Con.zero).rvs).getD k Con.zero).sign))) (IntKind.i64.wrap ((↑k : Int) - (1 : Int))).toNat (IntKind.i64.wrap ((0 : Int) - ((updS (consR L.length fun i => (L.getD i Con.zero).rvs) k (IntKind.i64.wrap ((0 : Int) - ((consR L.length fun i => (L.getD i Con.zero).rvs).getD k Con.zero).sign))).getD (IntKind.i64.wrap ((↑k : Int) - (1 : Int))).toNat Con.zero).sign))).length, (0 : Int) ≤ (partM (consR L.length fun i => (L.getD i Con.zero).rvs) (↑k : Int)).getD (Int.toNat (0 : Int)) (0 : Int) ∧ (partM (consR L.length fun i => (L.getD i Con.zero).rvs) (↑k : Int)).getD (Int.toNat (0 : Int)) (0 : Int) < (↑L.length : Int), (8 : Int) ≠ (0 : Int), ((partM (consR L.length fun i => (L.getD i Con.zero).rvs) (↑k : Int)).getD (Int.toNat (0 : Int)) (0 : Int)).toNat < (updS (updS (consR L.length fun i => (L.getD i Con.zero).rvs) k (IntKind.i64.wrap ((0 : Int) - ((consR L.length fun i => (L.getD i Con.zero).rvs).getD k Con.zero).sign))) (IntKind.i64.wrap ((↑k : Int) - (1 : Int))).toNat (IntKind.i64.wrap ((0 : Int) - ((updS (consR L.length fun i => (L.getD i Con.zero).rvs) k (IntKind.i64.wrap ((0 : Int) - ((consR L.length fun i => (L.getD i Con.zero).rvs).getD k Con.zero).sign))).getD (IntKind.i64.wrap ((↑k : Int) - (1 : Int))).toNat Con.zero).sign))).length, (0 : Int) ≤ (partM (consR L.length fun i => (L.getD i Con.zero).rvs) (↑k : Int)).getD (Int.toNat (0 : Int)) (0 : Int) ∧ (partM (consR L.length fun i => (L.getD i Con.zero).rvs) (↑k : Int)).getD (Int.toNat (0 : Int)) (0 : Int) < (↑L.length : Int), (0 : Int) ≤ (0 : Int) ∧ (0 : Int) < (↑(partM (consR L.length fun i => (L.getD i Con.zero).rvs) (↑k : Int)).length : Int), (0 : Int) ≤ (0 : Int) ∧ (0 : Int) < (↑(partM (consR L.length fun i => (L.getD i Con.zero).rvs) (↑k : Int)).length : Int), Dec ((↑(partM (consR L.length fun i => (L.getD i Con.zero).rvs) (IntKind.i64.wrap ((↑k : Int) - (1 : Int)))).length : Int) == (0 : Int)) true, Dec (decide ((↑(partM (consR L.length fun i => (L.getD i Con.zero).rvs) (↑k : Int)).length : Int) > (0 : Int))) true, Dec (decide ((↑(partM (consR L.length fun i => (L.getD i Con.zero).rvs) (IntKind.i64.wrap ((↑k : Int) - (1 : Int)))).length : Int) > (0 : Int))) false, (∀ (i : Nat), i < L.length → (fun i => (L.getD i Con.zero).rvs) i = (Con.ofR ((fun i => (L.getD i Con.zero).rvs) i)).rvs) ∧ okE (consR L.length fun i => (L.getD i Con.zero).rvs), L.length = L.length ∧ (fun i => (L.getD i Con.zero).rvs) = fun i => (L.getD i Con.zero).rvs, (∀ (i : Nat), i < L.length → (fun i => (L.getD i Con.zero).rvs) i = (Con.ofR ((fun i => (L.getD i Con.zero).rvs) i)).rvs) ∧ okE (consR L.length fun i => (L.getD i Con.zero).rvs), (IntKind.i64.wrap ((↑k : Int) - (1 : Int))).toNat < (updS (consR L.length fun i => (L.getD i Con.zero).rvs) k (IntKind.i64.wrap ((0 : Int) - ((consR L.length fun i => (L.getD i Con.zero).rvs).getD k Con.zero).sign))).length, (0 : Int) ≤ IntKind.i64.wrap ((↑k : Int) - (1 : Int)) ∧ IntKind.i64.wrap ((↑k : Int) - (1 : Int)) < (↑L.length : Int), (IntKind.i64.wrap ((↑k : Int) - (1 : Int))).toNat < (updS (consR L.length fun i => (L.getD i Con.zero).rvs) k (IntKind.i64.wrap ((0 : Int) - ((consR L.length fun i => (L.getD i Con.zero).rvs).getD k Con.zero).sign))).length, (0 : Int) ≤ IntKind.i64.wrap ((↑k : Int) - (1 : Int)) ∧ IntKind.i64.wrap ((↑k : Int) - (1 : Int)) < (↑L.length : Int), k < (consR L.length fun i => (L.getD i Con.zero).rvs).length, (0 : Int) ≤ (↑k : Int) ∧ (↑k : Int) < (↑L.length : Int), k < (consR L.length fun i => (L.getD i Con.zero).rvs).length, (0 : Int) ≤ (↑k : Int) ∧ (↑k : Int) < (↑L.length : Int), (2 : Int) = (2 : Int), (0 : Nat) < L.length ∧ L.length ≤ (1000000 : Nat), ∀ (i : Nat), i < L.length → (fun i => (L.getD i Con.zero).rvs) i = (Con.ofR ((fun i => (L.getD i Con.zero).rvs) i)).rvs, Dec (L.length.beq (0 : Nat)) false] (by kernel_rfl) ⟨?_, ?_, ?_, ?_, ?_, ?_, ?_, ?_, ?_, d4, d3, d2, ?_, ?_, ?_, ?_, ?_, ?_, ?_, ?_, ?_, ?_, ?_, ?_, ?_, ?_, d1⟩)
           (fun d4 => Or.elim (Bool.eq_false_or_eq_true ((partM (consR L.length fun i => (L.getD i Con.zero).rvs) (IntKind.i64.wrap ((↑k : Int) - (1 : Int)))).getD (Int.toNat (0 : Int)) (0 : Int) == (partM (consR L.length fun i => (L.getD i Con.zero).rvs) (↑k : Int)).getD (Int.toNat (0 : Int)) (0 : Int))) (fun d5 => rr [false, false, true, false, false] [(2 : Int) = (2 : Int), L.length = (stepM L k).length ∧ L.length = (updS (updS (consR L.length fun i => (L.getD i Con.zero).rvs) k (IntKind.i64.wrap ((0 : Int) - ((consR L.length fun i => (L.getD i Con.zero).rvs).getD k Con.zero).sign))) (IntKind.i64.wrap ((↑k : Int) - (1 : Int))).toNat (IntKind.i64.wrap ((0 : Int) - ((updS (consR L.length fun i => (L.getD i Con.zero).rvs) k (IntKind.i64.wrap ((0 : Int) - ((consR L.length fun i => (L.getD i Con.zero).rvs).getD k Con.zero).sign))).getD (IntKind.i64.wrap ((↑k : Int) - (1 : Int))).toNat Con.zero).sign))).length ∧ ∀ (i : Nat), i < L.length → (fun i => ((stepM L k).getD i Con.zero).rvs) i = ((updS (updS (consR L.length fun i => (L.getD i Con.zero).rvs) k (IntKind.i64.wrap ((0 : Int) - ((consR L.length fun i => (L.getD i Con.zero).rvs).getD k Con.zero).sign))) (IntKind.i64.wrap ((↑k : Int) - (1 : Int))).toNat (IntKind.i64.wrap ((0 : Int) - ((updS (consR L.length fun i => (L.getD i Con.zero).rvs) k (IntKind.i64.wrap ((0 : Int) - ((consR L.length fun i => (L.getD i Con.zero).rvs).getD k Con.zero).sign))).getD (IntKind.i64.wrap ((↑k : Int) - (1 : Int))).toNat Con.zero).sign))).getD i Con.zero).rvs, Dec ((partM (consR L.length fun i => (L.getD i Con.zero).rvs) (IntKind.i64.wrap ((↑k : Int) - (1 : Int)))).getD (Int.toNat (0 : Int)) (0 : Int) != (partM (consR L.length fun i => (L.getD i Con.zero).rvs) (↑k : Int)).getD (Int.toNat (0 : Int)) (0 : Int)) false, (0 : Int) ≤ (0 : Int) ∧ (0 : Int) < (↑(partM (consR L.length fun i => (L.getD i Con.zero).rvs) (↑k : Int)).length : Int), (0 : Int) ≤ (0 : Int) ∧ (0 : Int) < (↑(partM (consR L.length fun i => (L.getD i Con.zero).rvs) (IntKind.i64.wrap ((↑k : Int) - (1 : Int)))).length : Int), Dec ((↑(partM (consR L.length fun i => (L.getD i Con.zero).rvs) (IntKind.i64.wrap ((↑k : Int) - (1 : Int)))).length : Int) == (0 : Int)) false, Dec (decide ((↑(partM (consR L.length fun i => (L.getD i Con.zero).rvs) (↑k : Int)).length : Int) > (0 : Int))) true, Dec (decide ((↑(partM (consR L.length fun i => (L.getD i Con.zero).rvs) (IntKind.i64.wrap ((↑k : Int) - (1 : Int)))).length : Int) > (0 : Int))) false, (∀ (i : Nat), i < L.length → (fun i => (L.getD i Con.zero).rvs) i = (Con.ofR ((fun i => (L.getD i Con.zero).rvs) i)).rvs) ∧ okE (consR L.length fun i => (L.getD i Con.zero).rvs), L.length = L.length ∧ (fun i => (L.getD i Con.zero).rvs) = fun i => (L.getD i Con.zero).rvs, (∀ (i : Nat), i < L.length → (fun i => (L.getD i Con.zero).rvs) i = (Con.ofR ((fun i => (L.getD i Con.zero).rvs) i)).rvs) ∧ okE (consR L.length fun i => (L.getD i Con.zero).rvs), (IntKind.i64.wrap ((↑k : Int) - (1 : Int))).toNat < (updS (consR L.length fun i => (L.getD i Con.zero).rvs) k (IntKind.i64.wrap ((0 : Int) - ((consR L.length fun i => (L.getD i Con.zero).rvs).getD k Con.zero).sign))).length, (0 : Int) ≤ IntKind.i64.wrap ((↑k : Int) - (1 : Int)) ∧ IntKind.i64.wrap ((↑k : Int) - (1 : Int)) < (↑L.length : Int), (IntKind.i64.wrap ((↑k : Int) - (1 : Int))).toNat < (updS (consR L.length fun i => (L.getD i Con.zero).rvs) k (IntKind.i64.wrap ((0 : Int) - ((consR L.length fun i => (L.getD i Con.zero).rvs).getD k Con.zero).sign))).length, (0 : Int) ≤ IntKind.i64.wrap ((↑k : Int) - (1 : Int)) ∧ IntKind.i64.wrap ((↑k : Int) - (1 : Int)) < (↑L.length : Int), k < (consR L.length fun i => (L.getD i Con.zero).rvs).length, (0 : Int) ≤ (↑k : Int) ∧ (↑k : Int) < (↑L.length : Int), k < (consR L.length fun i => (L.getD i Con.zero).rvs).length, (0 : Int) ≤ (↑k : Int) ∧ (↑k : Int) < (↑L.length : Int), (2 : Int) = (2 : Int), (0 : Nat) < L.length ∧ L.length ≤ (1000000 : Nat), ∀ (i : Nat), i < L.length → (fun i => (L.getD i Con.zero).rvs) i = (Con.ofR ((fun i => (L.getD i Con.zero).rvs) i)).rvs, Dec (L.length.beq (0 : Nat)) false] (by kernel_rfl) ⟨?_, ?_, (dN d5), ?_, ?_, d4, d3, d2, ?_, ?_, ?_, ?_, ?_, ?_, ?_, ?_, ?_, ?_, ?_, ?_, ?_, ?_, d1⟩)
           (fun d5 => rr [false, false, true, false, true] [(2 : Int) = (2 : Int), L.length = (stepM L k).length ∧ L.length = (updT (updS (updS (consR L.length fun i => (L.getD i Con.zero).rvs) k (IntKind.i64.wrap ((0 : Int) - ((consR L.length fun i => (L.getD i Con.zero).rvs).getD k Con.zero).sign))) (IntKind.i64.wrap ((↑k : Int) - (1 : Int))).toNat (IntKind.i64.wrap ((0 : Int) - ((updS (consR L.length fun i => (L.getD i Con.zero).rvs) k (IntKind.i64.wrap ((0 : Int) - ((consR L.length fun i => (L.getD i Con.zero).rvs).getD k Con.zero).sign))).getD (IntKind.i64.wrap ((↑k : Int) - (1 : Int))).toNat Con.zero).sign))) ((partM (consR L.length fun i => (L.getD i Con.zero).rvs) (↑k : Int)).getD (Int.toNat (0 : Int)) (0 : Int)).toNat ((IntKind.i64.wrap (((updS (updS (consR L.length fun i => (L.getD i Con.zero).rvs) k (IntKind.i64.wrap ((0 : Int) - ((consR L.length fun i => (L.getD i Con.zero).rvs).getD k Con.zero).sign))) (IntKind.i64.wrap ((↑k : Int) - (1 : Int))).toNat (IntKind.i64.wrap ((0 : Int) - ((updS (consR L.length fun i => (L.getD i Con.zero).rvs) k (IntKind.i64.wrap ((0 : Int) - ((consR L.length fun i => (L.getD i Con.zero).rvs).getD k Con.zero).sign))).getD (IntKind.i64.wrap ((↑k : Int) - (1 : Int))).toNat Con.zero).sign))).getD ((partM (consR L.length fun i => (L.getD i Con.zero).rvs) (↑k : Int)).getD (Int.toNat (0 : Int)) (0 : Int)).toNat Con.zero).oddity + (4 : Int))).tmod (8 : Int))).length ∧ ∀ (i : Nat), i < L.length → (fun i => ((stepM L k).getD i Con.zero).rvs) i = ((updT (updS (updS (consR L.length fun i => (L.getD i Con.zero).rvs) k (IntKind.i64.wrap ((0 : Int) - ((consR L.length fun i => (L.getD i Con.zero).rvs).getD k Con.zero).sign))) (IntKind.i64.wrap ((↑k : Int) - (1 : Int))).toNat (IntKind.i64.wrap ((0 : Int) - ((updS (consR L.length fun i => (L.getD i Con.zero).rvs) k (IntKind.i64.wrap ((0 : Int) - ((consR L.length fun i => (L.getD i Con.zero).rvs).getD k Con.zero).sign))).getD (IntKind.i64.wrap ((↑k : Int) - (1 : Int))).toNat Con.zero).sign))) ((partM (consR L.length fun i => (L.getD i Con.zero).rvs) (↑k : Int)).getD (Int.toNat (0 : Int)) (0 : Int)).toNat ((IntKind.i64.wrap (((updS (updS (consR L.length fun i => (L.getD i Con.zero).rvs) k (IntKind.i64.wrap ((0 : Int) - ((consR L.length fun i => (L.getD i Con.zero).rvs).getD k Con.zero).sign))) (IntKind.i64.wrap ((↑k : Int) - (1 : Int))).toNat (IntKind.i64.wrap ((0 : Int) - ((updS (consR L.length fun i => (L.getD i Con.zero).rvs) k (IntKind.i64.wrap ((0 : Int) - ((consR L.length fun i => (L.getD i Con.zero).rvs).getD k Con.zero).sign))).getD (IntKind.i64.wrap ((↑k : Int) - (1 : Int))).toNat Con.zero).sign))).getD ((partM (consR L.length fun i => (L.getD i Con.zero).rvs) (↑k : Int)).getD (Int.toNat (0 : Int)) (0 : Int)).toNat Con.zero).oddity + (4 : Int))).tmod (8 : Int))).getD i Con.zero).rvs, ((partM (consR L.length fun i => (L.getD i Con.zero).rvs) (↑k : Int)).getD (Int.toNat (0 : Int)) (0 : Int)).toNat < (updS (updS (consR L.length fun i => (L.getD i Con.zero).rvs) k (IntKind.i64.wrap ((0 : Int) - ((consR L.length fun i => (L.getD i Con.zero).rvs).getD k Con.zero).sign))) (IntKind.i64.wrap ((↑k : Int) - (1 : Int))).toNat (IntKind.i64.wrap ((0 : Int) - ((updS (consR L.length fun i => (L.getD i Con.zero).rvs) k (IntKind.i64.wrap ((0 : Int) - ((consR L.length fun i => (L.getD i Con.zero).rvs).getD k Con.zero).sign))).getD (IntKind.i64.wrap ((↑k : Int) - (1 : Int))).toNat Con.zero).sign))).length, (0 : Int) ≤ (partM (consR L.length fun i => (L.getD i Con.zero).rvs) (↑k : Int)).getD (Int.toNat (0 : Int)) (0 : Int) ∧ (partM (consR L.length fun i => (L.getD i Con.zero).rvs) (↑k : Int)).getD (Int.toNat (0 : Int)) (0 : Int) < (↑L.length : Int), (8 : Int) ≠ (0 : Int), ((partM (consR L.length fun i => (L.getD i Con.zero).rvs) (↑k : Int)).getD (Int.toNat (0 : Int)) (0 : Int)).toNat < (updS (updS (consR L.length fun i => (L.getD i Con.zero).rvs) k (IntKind.i64.wrap ((0 : Int) - ((consR L.length fun i => (L.getD i Con.zero).rvs).getD k Con.zero).sign))) (IntKind.i64.wrap ((↑k : Int) - (1 : Int))).toNat (IntKind.i64.wrap ((0 : Int) - ((updS (consR L.length fun i => (L.getD i Con.zero).rvs) k (IntKind.i64.wrap ((0 : Int) - ((consR L.length fun i => (L.getD i Con.zero).rvs).getD k Con.zero).sign))).getD (IntKind.i64.wrap ((↑k : Int) - (1 : Int))).toNat Con.zero).sign))).length, (0 : Int) ≤ (partM (consR L.length fun i => (L.getD i Con.zero).rvs) (↑k : Int)).getD (Int.toNat (0 : Int)) (0 : Int) ∧ (partM (consR L.length fun i => (L.getD i Con.zero).rvs) (↑k : Int)).getD (Int.toNat (0 : Int)) (0 : Int) < (↑L.length : Int), (0 : Int) ≤ (0 : Int) ∧ (0 : Int) < (↑(partM (consR L.length fun i => (L.getD i Con.zero).rvs) (↑k : Int)).length : Int), (0 : Int) ≤ (0 : Int) ∧ (0 : Int) < (↑(partM (consR L.length fun i => (L.getD i Con.zero).rvs) (↑k : Int)).length : Int), Dec ((partM (consR L.length fun i => (L.getD i Con.zero).rvs) (IntKind.i64.wrap ((↑k : Int) - (1 : Int)))).getD (Int.toNat (0 : Int)) (0 : Int) != (partM (consR L.length fun i => (L.getD i Con.zero).rvs) (↑k : Int)).getD (Int.toNat (0 : Int)) (0 : Int)) true, (0 : Int) ≤ (0 : Int) ∧ (0 : Int) < (↑(partM (consR L.length fun i => (L.getD i Con.zero).rvs) (↑k : Int)).length : Int), (0 : Int) ≤ (0 : Int) ∧ (0 : Int) < (↑(partM (consR L.length fun i => (L.getD i Con.zero).rvs) (IntKind.i64.wrap ((↑k : Int) - (1 : Int)))).length : Int), Dec ((↑(partM (consR L.length fun i => (L.getD i Con.zero).rvs) (IntKind.i64.wrap ((↑k : Int) - (1 : Int)))).length : Int) == (0 : Int)) false, Dec (decide ((↑(partM (consR L.length fun i => (L.getD i Con.zero).rvs) (↑k : Int)).length : Int) > (0 : Int))) true, Dec (decide ((↑(partM (consR L.length fun i => (L.getD i Con.zero).rvs) (IntKind.i64.wrap ((↑k : Int) - (1 : Int)))).length : Int) > (0 : Int))) false, (∀ (i : Nat), i < L.length → (fun i => (L.getD i Con.zero).rvs) i = (Con.ofR ((fun i => (L.getD i Con.zero).rvs) i)).rvs) ∧ okE (consR L.length fun i => (L.getD i Con.zero).rvs), L.length = L.length ∧ (fun i => (L.getD i Con.zero).rvs) = fun i => (L.getD i Con.zero).rvs, (∀ (i : Nat), i < L.length → (fun i => (L.getD i Con.zero).rvs) i = (Con.ofR ((fun i => (L.getD i Con.zero).rvs) i)).rvs) ∧ okE (consR L.length fun i => (L.getD i Con.zero).rvs), (IntKind.i64.wrap ((↑k : Int) - (1 : Int))).toNat < (updS (consR L.length fun i => (L.getD i Con.zero).rvs) k (IntKind.i64.wrap ((0 : Int) - ((consR L.length fun i => (L.getD i Con.zero).rvs).getD k Con.zero).sign))).length, (0 : Int) ≤ IntKind.i64.wrap ((↑k : Int) - (1 : Int)) ∧ IntKind.i64.wrap ((↑k : Int) - (1 : Int)) < (↑L.length : Int), (IntKind.i64.wrap ((↑k : Int) - (1 : Int))).toNat < (updS (consR L.length fun i => (L.getD i Con.zero).rvs) k (IntKind.i64.wrap ((0 : Int) - ((consR L.length fun i => (L.getD i Con.zero).rvs).getD k Con.zero).sign))).length, (0 : Int) ≤ IntKind.i64.wrap ((↑k : Int) - (1 : Int)) ∧ IntKind.i64.wrap ((↑k : Int) - (1 : Int)) < (↑L.length : Int), k < (consR L.length fun i => (L.getD i Con.zero).rvs).length, (0 : Int) ≤ (↑k : Int) ∧ (↑k : Int) < (↑L.length : Int), k < (consR L.length fun i => (L.getD i Con.zero).rvs).length, (0 : Int) ≤ (↑k : Int) ∧ (↑k : Int) < (↑L.length : Int), (2 : Int) = (2 : Int), (0 : Nat) < L.length ∧ L.length ≤ (1000000 : Nat), ∀ (i : Nat), i < L.length → (fun i => (L.getD i Con.zero).rvs) i = (Con.ofR ((fun i => (L.getD i Con.zero).rvs) i)).rvs, Dec (L.length.beq (0 : Nat)) false] (by kernel_rfl) ⟨?_, ?_, ?_, ?_, ?_, ?_, ?_, ?_, ?_, (dN d5), ?_, ?_, d4, d3, d2, ?_, ?_, ?_, ?_, ?_, ?_, ?_, ?_, ?_, ?_, ?_, ?_, ?_, ?_, d1⟩)))
           (fun d3 => rr [false, false, false] [(2 : Int) = (2 : Int), L.length = (stepM L k).length ∧ L.length = (updS (updS (consR L.length fun i => (L.getD i Con.zero).rvs) k (IntKind.i64.wrap ((0 : Int) - ((consR L.length fun i => (L.getD i Con.zero).rvs).getD k Con.zero).sign))) (IntKind.i64.wrap ((↑k : Int) - (1 : Int))).toNat (IntKind.i64.wrap ((0 : Int) - ((updS (consR L.length fun i => (L.getD i Con.zero).rvs) k (IntKind.i64.wrap ((0 : Int) - ((consR L.length fun i => (L.getD i Con.zero).rvs).getD k Con.zero).sign))).getD (IntKind.i64.wrap ((↑k : Int) - (1 : Int))).toNat Con.zero).sign))).length ∧ ∀ (i : Nat), i < L.length → (fun i => ((stepM L k).getD i Con.zero).rvs) i = ((updS (updS (consR L.length fun i => (L.getD i Con.zero).rvs) k (IntKind.i64.wrap ((0 : Int) - ((consR L.length fun i => (L.getD i Con.zero).rvs).getD k Con.zero).sign))) (IntKind.i64.wrap ((↑k : Int) - (1 : Int))).toNat (IntKind.i64.wrap ((0 : Int) - ((updS (consR L.length fun i => (L.getD i Con.zero).rvs) k (IntKind.i64.wrap ((0 : Int) - ((consR L.length fun i => (L.getD i Con.zero).rvs).getD k Con.zero).sign))).getD (IntKind.i64.wrap ((↑k : Int) - (1 : Int))).toNat Con.zero).sign))).getD i Con.zero).rvs, Dec (decide ((↑(partM (consR L.length fun i => (L.getD i Con.zero).rvs) (↑k : Int)).length : Int) > (0 : Int))) false, Dec (decide ((↑(partM (consR L.length fun i => (L.getD i Con.zero).rvs) (IntKind.i64.wrap ((↑k : Int) - (1 : Int)))).length : Int) > (0 : Int))) false, (∀ (i : Nat), i < L.length → (fun i => (L.getD i Con.zero).rvs) i = (Con.ofR ((fun i => (L.getD i Con.zero).rvs) i)).rvs) ∧ okE (consR L.length fun i => (L.getD i Con.zero).rvs), L.length = L.length ∧ (fun i => (L.getD i Con.zero).rvs) = fun i => (L.getD i Con.zero).rvs, (∀ (i : Nat), i < L.length → (fun i => (L.getD i Con.zero).rvs) i = (Con.ofR ((fun i => (L.getD i Con.zero).rvs) i)).rvs) ∧ okE (consR L.length fun i => (L.getD i Con.zero).rvs), (IntKind.i64.wrap ((↑k : Int) - (1 : Int))).toNat < (updS (consR L.length fun i => (L.getD i Con.zero).rvs) k (IntKind.i64.wrap ((0 : Int) - ((consR L.length fun i => (L.getD i Con.zero).rvs).getD k Con.zero).sign))).length, (0 : Int) ≤ IntKind.i64.wrap ((↑k : Int) - (1 : Int)) ∧ IntKind.i64.wrap ((↑k : Int) - (1 : Int)) < (↑L.length : Int), (IntKind.i64.wrap ((↑k : Int) - (1 : Int))).toNat < (updS (consR L.length fun i => (L.getD i Con.zero).rvs) k (IntKind.i64.wrap ((0 : Int) - ((consR L.length fun i => (L.getD i Con.zero).rvs).getD k Con.zero).sign))).length, (0 : Int) ≤ IntKind.i64.wrap ((↑k : Int) - (1 : Int)) ∧ IntKind.i64.wrap ((↑k : Int) - (1 : Int)) < (↑L.length : Int), k < (consR L.length fun i => (L.getD i Con.zero).rvs).length, (0 : Int) ≤ (↑k : Int) ∧ (↑k : Int) < (↑L.length : Int), k < (consR L.length fun i => (L.getD i Con.zero).rvs).length, (0 : Int) ≤ (↑k : Int) ∧ (↑k : Int) < (↑L.length : Int), (2 : Int) = (2 : Int), (0 : Nat) < L.length ∧ L.length ≤ (1000000 : Nat), ∀ (i : Nat), i < L.length → (fun i => (L.getD i Con.zero).rvs) i = (Con.ofR ((fun i => (L.getD i Con.zero).rvs) i)).rvs, Dec (L.length.beq (0 : Nat)) false] (by kernel_rfl) ⟨?_, ?_, d3, d2, ?_, ?_, ?_, ?_, ?_, ?_, ?_, ?_, ?_, ?_, ?_, ?_, ?_, ?_, d1⟩)))
  all_goals first | (refine GnG.mk ?_; (have := Nat.eq_of_beq_eq_true d1; omega)) | (first | (with_reducible rfl) | exact ⟨rfl, rfl⟩ | exact fun _ _ => rfl | exact ⟨fun _ _ => rfl, by rw [consR_ro]; exact hL.e⟩ | exact ⟨by omega, by omega⟩ | (exact (by decide : (8 : Int) ≠ 0)) | exact ⟨by decide, of_decide_eq_true d2⟩ | exact ⟨by decide, of_decide_eq_true d3⟩ | (simp only [consR_ro, em, et, Int.toNat_natCast, Int.toNat_zero, e1, e2, e3, e4, e5] <;> first | exact hp | exact hq | (clear e1 e2 e3 e4 e5; omega) | (clear e1 e2 e3 e4 e5; (first | simp only [consR_ro, em, Int.toNat_zero, decide_eq_true_eq, decide_eq_false_iff_not, gt_iff_lt, beq_iff_eq, beq_eq_false_iff_ne, ne_eq] at d2 d3 d4 d5 | simp only [consR_ro, em, Int.toNat_zero, decide_eq_true_eq, decide_eq_false_iff_not, gt_iff_lt, beq_iff_eq, beq_eq_false_iff_ne, ne_eq] at d2 d3 d4 | simp only [consR_ro, em, Int.toNat_zero, decide_eq_true_eq, decide_eq_false_iff_not, gt_iff_lt] at d2 d3); first | (exfalso; omega) | (rw [st1 (by omega) (by omega) (by assumption)]; exact ⟨l5.symm, l5.symm, fun _ _ => rfl⟩) | (rw [st2 (by omega) (by assumption)]; exact ⟨l3.symm, l3.symm, fun _ _ => rfl⟩) | (rw [st3 (by omega) (by omega)]; exact ⟨l3.symm, l3.symm, fun _ _ => rfl⟩) | (rw [st4 (by omega) (by omega)]; exact ⟨l4.symm, l4.symm, fun _ _ => rfl⟩) | (rw [st5 (by omega) (by omega)]; exact ⟨l2.symm, l2.symm, fun _ _ => rfl⟩))))
end Go.Proofs.YtcfdaddablojlaaGreatDoor.S

/- Plain: a walk as package train does it is a step of the reference. -/
set_option linter.unusedSimpArgs false
set_option linter.unusedVariables false
namespace Go.Proofs.YtcfdaddablojlaaGreatDoor.S
open Go.QfSy Go.RowKit

theorem hasI_no {x : Int} {l : List Int} (h : x ∉ l) : hasI x l = false := by
  cases h1 : hasI x l with
  | false => rfl
  | true => exact absurd (hasI_iff.1 h1) h
theorem walk_one {x y : Int} : ∀ {P : List (List Int)} {L : List Con}, P.flatten.Nodup → x ∈ P.flatten → y ∉ P.flatten → walkG x y L P = add4 L ((findR x P).getD 0 0) ∧ walkG y x L P = add4 L ((findR x P).getD 0 0)
  | [], _, _, h, _ => by simp at h
  | l :: P, L, hn, hx, hy => by
    simp only [List.flatten_cons] at hn hx hy
    have hd := List.nodup_append.1 hn
    simp only [List.mem_append, not_or] at hy
    have h2 := hasI_no hy.1
    by_cases hl : x ∈ l
    · have h1 := hasI_iff.2 hl
      have h3 : x ∉ P.flatten := fun h => hd.2.2 x hl x h rfl
      simp only [walkG, findR, h1, h2, Bool.or_false, Bool.true_or, Bool.false_or, cond_true]
      exact ⟨walkG_none h3 hy.2, walkG_none hy.2 h3⟩
    · have h1 := hasI_no hl
      have h3 : x ∈ P.flatten := by
        rcases List.mem_append.1 hx with h | h
        · exact absurd h hl
        · exact h
      simp only [walkG, findR, h1, h2, Bool.or_false, cond_false]
      exact walk_one hd.2.1 h3 hy.2
theorem walk_same {x y : Int} : ∀ {P : List (List Int)} {L : List Con}, P.flatten.Nodup → x ∈ P.flatten → y ∈ P.flatten → findR x P = findR y P → walkG x y L P = add4 L ((findR x P).getD 0 0)
  | [], _, _, h, _, _ => by simp at h
  | l :: P, L, hn, hx, hy, he => by
    have hsx := findR_spec hx
    have hsy := findR_spec hy
    simp only [List.flatten_cons] at hn hx hy
    have hd := List.nodup_append.1 hn
    by_cases hl : x ∈ l
    · have e : findR x (l :: P) = l := by simp only [findR, hasI_iff.2 hl, cond_true]
      have hyl : y ∈ l := by rw [← he, e] at hsy; exact hsy.2
      rw [e]
      simp only [walkG, hasI_iff.2 hl, Bool.true_or, cond_true]
      exact walkG_none (fun h => hd.2.2 x hl x h rfl) (fun h => hd.2.2 y hyl y h rfl)
    · have hyl : y ∉ l := by
        intro h
        have e : findR y (l :: P) = l := by simp only [findR, hasI_iff.2 h, cond_true]
        rw [he, e] at hsx
        exact hl hsx.2
      have h1 := hasI_no hl
      have h2 := hasI_no hyl
      simp only [findR, h1, h2, cond_false] at he
      simp only [walkG, findR, h1, h2, Bool.or_false, cond_false]
      refine walk_same hd.2.1 ?_ ?_ he
      · rcases List.mem_append.1 hx with h | h
        · exact absurd h hl
        · exact h
      · rcases List.mem_append.1 hy with h | h
        · exact absurd h hyl
        · exact h
theorem walk_two {x y : Int} : ∀ {P : List (List Int)} {L : List Con}, P.flatten.Nodup → x ∈ P.flatten → y ∈ P.flatten → ((findR x P).getD 0 0).toNat ≠ ((findR y P).getD 0 0).toNat → walkG x y L P = add4 (add4 L ((findR x P).getD 0 0)) ((findR y P).getD 0 0)
  | [], _, _, h, _, _ => by simp at h
  | l :: P, L, hn, hx, hy, he => by
    simp only [List.flatten_cons] at hn hx hy
    have hd := List.nodup_append.1 hn
    by_cases hl : x ∈ l
    · have hyl : y ∉ l := by
        intro h
        apply he
        simp only [findR, hasI_iff.2 hl, hasI_iff.2 h, cond_true]
      have h1 := hasI_iff.2 hl
      have h2 := hasI_no hyl
      simp only [walkG, findR, h1, h2, Bool.true_or, cond_true, cond_false]
      refine (walk_one hd.2.1 ?_ (fun h => hd.2.2 x hl x h rfl)).2
      rcases List.mem_append.1 hy with h | h
      · exact absurd h hyl
      · exact h
    · have h1 := hasI_no hl
      have h3 : x ∈ P.flatten := by
        rcases List.mem_append.1 hx with h | h
        · exact absurd h hl
        · exact h
      by_cases hyl : y ∈ l
      · have h2 := hasI_iff.2 hyl
        simp only [findR, h1, h2, cond_true, cond_false] at he
        simp only [walkG, findR, h1, h2, Bool.false_or, cond_true, cond_false]
        rw [(walk_one hd.2.1 h3 (fun h => hd.2.2 y hyl y h rfl)).1]
        exact add4_comm (fun e => he e.symm)
      · have h2 := hasI_no hyl
        simp only [findR, h1, h2, cond_false] at he
        simp only [walkG, findR, h1, h2, Bool.or_false, cond_false]
        refine walk_two hd.2.1 h3 ?_ he
        rcases List.mem_append.1 hy with h | h
        · exact absurd h hyl
        · exact h

def walkM (L : List Con) (i : Nat) : List Con := walkG ((i : Int) - 1) i (flipS (flipS L (i - 1)) i) (partsM L)
theorem pos_of_mem {x : Int} {l : List Int} (h : x ∈ l) : 0 < l.length := by cases l with | nil => simp at h | cons a l => simp
theorem walkM_eq {L : List Con} {i : Nat} (h1 : 1 ≤ i) (h2 : i < L.length) : walkM L i = stepM L i := by
  have e0 : ((i - 1 : Nat) : Int) = (i : Int) - 1 := by omega
  have hf : flipS (flipS L (i - 1)) i = flipS (flipS L i) (i - 1) := flip_comm (by omega)
  have hmi := mem_parts (L := L) (i := i)
  have hmp := mem_parts (L := L) (i := i - 1)
  rw [e0] at hmp
  unfold walkM
  rw [hf]
  cases hp : oddB L (i - 1) with
  | false =>
    have np : ((i : Int) - 1) ∉ (partsM L).flatten := fun h => by rw [(hmp.1 h).2] at hp; cases hp
    have ep : partM L ((i : Int) - 1) = [] := by have := partM_even (L := L) (i := i - 1) (fun h => by rw [h.2] at hp; cases hp); rwa [e0] at this
    cases hq : oddB L i with
    | false =>
      have nq : (i : Int) ∉ (partsM L).flatten := fun h => by rw [(hmi.1 h).2] at hq; cases hq
      have eq : partM L (i : Int) = [] := partM_even (fun h => by rw [h.2] at hq; cases hq)
      rw [walkG_none np nq, st5 (by rw [ep]; simp) (by rw [eq]; simp)]
    | true =>
      have mq : (i : Int) ∈ (partsM L).flatten := hmi.2 ⟨h2, hq⟩
      rw [(walk_one (parts_nodup L) mq np).2, st4 (by rw [ep]; simp) (pos_of_mem (partM_odd h2 hq).2)]
      rfl
  | true =>
    have mp : ((i : Int) - 1) ∈ (partsM L).flatten := hmp.2 ⟨by omega, hp⟩
    have pp : 0 < (partM L ((i : Int) - 1)).length := by have := (partM_odd (L := L) (i := i - 1) (by omega) hp).2; rw [e0] at this; exact pos_of_mem this
    cases hq : oddB L i with
    | false =>
      have nq : (i : Int) ∉ (partsM L).flatten := fun h => by rw [(hmi.1 h).2] at hq; cases hq
      have eq : partM L (i : Int) = [] := partM_even (fun h => by rw [h.2] at hq; cases hq)
      rw [(walk_one (parts_nodup L) mp nq).1, st3 pp (by rw [eq]; simp)]
      rfl
    | true =>
      have mq : (i : Int) ∈ (partsM L).flatten := hmi.2 ⟨h2, hq⟩
      have pq : 0 < (partM L (i : Int)).length := pos_of_mem (partM_odd h2 hq).2
      cases hj : joinB L i with
      | true =>
        have e := join_part h2 hq hj
        rw [walk_same (parts_nodup L) mp mq e, st2 pp (by rw [e])]
        rfl
      | false =>
        have hne := apart_part h2 hq hj (by omega) hp
        have b1 := (part0 (L := L) (by omega) ((i : Int) - 1)).1
        have b2 := (part0 (L := L) (by omega) (i : Int)).1
        have hn2 : ((findR ((i : Int) - 1) (partsM L)).getD 0 0).toNat ≠ ((findR (i : Int) (partsM L)).getD 0 0).toNat := by
          intro e
          apply hne
          show (findR ((i : Int) - 1) (partsM L)).getD 0 0 = (findR (i : Int) (partsM L)).getD 0 0
          have b1 : 0 ≤ (findR ((i : Int) - 1) (partsM L)).getD 0 0 := b1
          have b2 : 0 ≤ (findR (i : Int) (partsM L)).getD 0 0 := b2
          omega
        rw [walk_two (parts_nodup L) mp mq hn2, st1 pp pq hne]
        rfl
end Go.Proofs.YtcfdaddablojlaaGreatDoor.S

/- train.Fuse, walk and Canonical. -/
set_option linter.unusedSimpArgs false
set_option linter.unusedVariables false
namespace Go.Proofs.YtcfdaddablojlaaGreatDoor.S
open Go.QfSy Go.RowKit

noncomputable def entsVW : List OEnt := entsVC ++ [
  ⟨38, [], fun A => match A with
    | [.agg [.int .i64 p, .sl n 5 row]] => some (.bool (val2M p (consR n row)), [(∀ i, i < n → row i = (Con.ofR (row i)).rvs) ∧ n ≤ 1000])
    | _ => none⟩]
theorem entsVW_ok : ∀ e ∈ entsVW, EntOk Tryz.prog e := by
  intro e he
  rcases List.mem_append.1 he with he | he
  · exact entsVC_ok e he
  · rw [List.mem_singleton.1 he]
    intro A R ms h hm
    simp only at h
    split at h
    · cases h
      obtain ⟨h1, h3⟩ := all_one hm
      exact PureC.imp (tvalid_pure _ _ (by rw [consR_len]; exact h3)) (.cons (.agg (.cons .same (.cons (.con h1) .nil))) .nil)
    · cases h
theorem sumT_append : ∀ {a b : List Int} {L : List Con}, sumT L (a ++ b) = sumT L a + sumT (zeroP L a) b
  | [], _, _ => by simp [sumT, zeroP]
  | i :: a, b, L => by simp only [List.cons_append, sumT, zeroP]; rw [sumT_append]; omega
theorem sumT_take {L : List Con} {l : List Int} {t : Nat} (ht : t < l.length) : sumT L (l.take (t + 1)) = sumT L (l.take t) + (at_ (zeroP L (l.take t)) (l.getD t 0).toNat).oddity := by
  rw [take_int ht, sumT_append]; simp [sumT]
theorem sumT_b : ∀ {l : List Int} {L : List Con}, okL L → inR L.length l → 0 ≤ sumT L l ∧ sumT L l ≤ 7 * l.length
  | [], _, _, _ => by simp [sumT]
  | i :: l, L, hL, h => by
    have h1 := h i (by simp)
    have h2 := (hL.at (k := i.toNat) (by omega)).2.2.2
    have ih := sumT_b (setO_ok hL h1 (by decide : (0 : Int) ≤ 0 ∧ (0 : Int) ≤ 7)) (l := l) (by rw [setO_len]; exact fun x hx => h x (by simp [hx]))
    simp only [sumT, List.length_cons]
    omega
def fuT (M : List Con) (l : List Int) : List Con := setO (zeroP M l) (l.getD 0 0) (sumT M l % 8)
theorem fuT_len {M : List Con} {l : List Int} : (fuT M l).length = M.length := by unfold fuT; rw [setO_len, zeroP_len]
theorem fuT_ok {M : List Con} (h : okL M) {l : List Int} (hl : inR M.length l) (hne : l ≠ []) : okL (fuT M l) := by
  unfold fuT
  refine setO_ok (zeroP_ok h hl) ?_ (by omega)
  rw [zeroP_len]
  exact hl.at (List.length_pos_iff.2 hne)
theorem fuseT_drop {M : List Con} {P : List (List Int)} {j : Nat} (hj : j < P.length) : fuseT M (P.drop j) = fuseT (fuT M (rowAt P j)) (P.drop (j + 1)) := by
  rw [drop_row hj]; rfl
noncomputable def tfH (n : Nat) (M : List Con) : List (Nat × Blk) := [(1001, ⟨.plain [.int .i64 0, .nils], 24, 0, false, true⟩), (1003, ⟨.con M, 49, 5, true, true⟩)]
noncomputable def tfT (n : Nat) (P : List (List Int)) (j : Nat) : List (Nat × AV) := [(2, .ptr 1001 0), (4, .lo 1003 n), (18, (roR .i64 P).av), (19, .vint .i64 P.length), (20, .vint .i64 (j : Int)), (6, (rI .i64 (rowAt P j)).av)]
noncomputable def tfIn (n : Nat) (M : List Con) (P : List (List Int)) (j : Nat) : Ann := ⟨⟨tfT n P j ++ [(7, .int .i64 0), (24, (rI .i64 (rowAt P j)).av), (25, .vint .i64 (rowAt P j).length), (26, .int .i64 0)], tfH n M, 1030⟩, none, fun _ =>
  (.exit 2, ⟨tfT n P j ++ [(7, .vint .i64 (sumT M (rowAt P j)))], tfH n (zeroP M (rowAt P j)), 1030⟩)⟩
theorem odd_z {M : List Con} {l : List Int} {t : Nat} (hL : okL M) (hl : inR M.length l) (ht : t < l.length) : 0 ≤ (at_ (zeroP M (l.take t)) (l.getD t 0).toNat).oddity ∧ (at_ (zeroP M (l.take t)) (l.getD t 0).toNat).oddity ≤ 7 := by
  have h1 := hl.at ht
  have h2 := zeroP_ok hL (l := l.take t) (fun x hx => hl x (List.mem_of_mem_take hx))
  exact (h2.at (k := (l.getD t 0).toNat) (by rw [zeroP_len]; omega)).2.2.2
set_option maxRecDepth 100000 in
theorem tf_in (n : Nat) (M : List Con) (P : List (List Int)) (j : Nat) (hM : okL M) (hn : M.length = n) (hr : inR n (rowAt P j)) (hr2 : (rowAt P j).length ≤ 1000) : AnnOk Tryz.prog EV.ng (Nat.max 1 Tryz.f19.ntmps) (bodyAt Tryz.f19 [0, 1, 0, 1, 1, 0, 0, 1, 1, 0, 0, 1, 0, 1, 1, 1]) (tfIn n M P j) := by
  refine ann_of evOk (callF_ok evOk (noOrc_ok _ _) 8) none_ann (by kernel_rfl) (by kernel_rfl) (fun i : Nat × Int => (fun (t : Nat) (s : Int) => (⟨tfT n P j ++ [(7, .vint .i64 s), (24, (rI .i64 (rowAt P j)).av), (25, .vint .i64 (rowAt P j).length), (26, .vint .i64 (t : Int))], tfH n (zeroP M ((rowAt P j).take t)), 1030⟩ : St)) i.1 i.2) (fun i : Nat × Int => (fun (t : Nat) (s : Int) => ((rowAt P j).length - t : Nat)) i.1 i.2) (fun (d : Bool) (i : Nat × Int) => (fun (t : Nat) (s : Int) => (t ≤ (rowAt P j).length ∧ s = sumT M ((rowAt P j).take t) : Prop)) i.1 i.2) ?_ ?_
  · intro d hd
    exact ⟨(0, 0), [n = n, P.length = P.length ∧ (fun i => [rI IntKind.i64 (P.getD i [])]) = fun i => [rI IntKind.i64 (P.getD i [])], (↑P.length : Int) = (↑P.length : Int), (↑j : Int) = (↑j : Int), (rowAt P j).length = (rowAt P j).length ∧ (fun j_1 => [RV.int IntKind.i64 ((rowAt P j).getD j_1 (0 : Int))]) = fun j_1 => [RV.int IntKind.i64 ((rowAt P j).getD j_1 (0 : Int))], (0 : Int) = (0 : Int), (rowAt P j).length = (rowAt P j).length ∧ (fun j_1 => [RV.int IntKind.i64 ((rowAt P j).getD j_1 (0 : Int))]) = fun j_1 => [RV.int IntKind.i64 ((rowAt P j).getD j_1 (0 : Int))], (↑(rowAt P j).length : Int) = (↑(rowAt P j).length : Int), (0 : Int) = (↑(0 : Nat) : Int), M = zeroP M (List.take (0 : Nat) (rowAt P j))], by kernel_rfl, (by refine ⟨?_, ?_, ?_, ?_, ?_, ?_, ?_, ?_, ?_, (?_ : M = zeroP M (List.take (0 : Nat) (rowAt P j)))⟩ <;> (first | rfl | assumption | omega | simp_all)), (by exact ⟨Nat.zero_le _, rfl⟩)⟩
  · rintro d hd ⟨t, s⟩ hI
    cases d
    · -- d = false
      exact Bool.noConfusion (show false = true from hd)
    · -- d = true
      obtain ⟨ht, hs⟩ := hI
      have ht : t ≤ (rowAt P j).length := ht
      have hs : s = sumT M ((rowAt P j).take t) := hs
      have ek : IntKind.i64.wrap ((t : Int) + 1) = ((t + 1 : Nat) : Int) := by rw [w64 (by omega) (by omega)]; omega
      have hz : (zeroP M ((rowAt P j).take t)).length = n := by rw [zeroP_len, hn]
      have hl1 := hM.1
      have hr' : inR M.length (rowAt P j) := by rw [hn]; exact hr
      have hb := sumT_b hM (l := (rowAt P j).take t) (fun x hx => hr' x (List.mem_of_mem_take hx))
      have hb2 : (((rowAt P j).take t).length : Int) ≤ 1000 := by simp only [List.length_take]; omega
      refine Or.elim (Bool.eq_false_or_eq_true (decide ((↑t : Int) < (↑(rowAt P j).length : Int)))) (fun d1 => ⟨[true], .inl ⟨(t + 1, s + (at_ (zeroP M ((rowAt P j).take t)) ((rowAt P j).getD t 0).toNat).oddity), [n = n, P.length = P.length ∧ (fun i => [rI IntKind.i64 (P.getD i [])]) = fun i => [rI IntKind.i64 (P.getD i [])], (↑P.length : Int) = (↑P.length : Int), (↑j : Int) = (↑j : Int), (rowAt P j).length = (rowAt P j).length ∧ (fun j_1 => [RV.int IntKind.i64 ((rowAt P j).getD j_1 (0 : Int))]) = fun j_1 => [RV.int IntKind.i64 ((rowAt P j).getD j_1 (0 : Int))], IntKind.i64.wrap (s + ((zeroP M (List.take t (rowAt P j))).getD ((rowAt P j).getD t (0 : Int)).toNat Con.zero).oddity) = s + (at_ (zeroP M (List.take t (rowAt P j))) ((rowAt P j).getD t (0 : Int)).toNat).oddity, (rowAt P j).length = (rowAt P j).length ∧ (fun j_1 => [RV.int IntKind.i64 ((rowAt P j).getD j_1 (0 : Int))]) = fun j_1 => [RV.int IntKind.i64 ((rowAt P j).getD j_1 (0 : Int))], (↑(rowAt P j).length : Int) = (↑(rowAt P j).length : Int), IntKind.i64.wrap ((↑t : Int) + (1 : Int)) = (↑(t + (1 : Nat)) : Int), updT (zeroP M (List.take t (rowAt P j))) ((rowAt P j).getD t (0 : Int)).toNat (0 : Int) = zeroP M (List.take (t + (1 : Nat)) (rowAt P j)), ((rowAt P j).getD t (0 : Int)).toNat < (zeroP M (List.take t (rowAt P j))).length, (0 : Int) ≤ (rowAt P j).getD t (0 : Int) ∧ (rowAt P j).getD t (0 : Int) < (↑n : Int), ((rowAt P j).getD t (0 : Int)).toNat < (zeroP M (List.take t (rowAt P j))).length, (0 : Int) ≤ (rowAt P j).getD t (0 : Int) ∧ (rowAt P j).getD t (0 : Int) < (↑n : Int), (0 : Int) ≤ (↑t : Int) ∧ (↑t : Int) < (↑(rowAt P j).length : Int), Dec (decide ((↑t : Int) < (↑(rowAt P j).length : Int))) true], by kernel_rfl, ⟨?_, ?_, ?_, ?_, ?_, ?_, ?_, ?_, ?_, ?_, ?_, ?_, ?_, ?_, ?_, d1⟩, MuG.out ?_, InG.out ?_⟩⟩)
           (fun d1 => ⟨[false], .inr ⟨[n = n, P.length = P.length ∧ (fun i => [rI IntKind.i64 (P.getD i [])]) = fun i => [rI IntKind.i64 (P.getD i [])], (↑P.length : Int) = (↑P.length : Int), (↑j : Int) = (↑j : Int), (rowAt P j).length = (rowAt P j).length ∧ (fun j_1 => [RV.int IntKind.i64 ((rowAt P j).getD j_1 (0 : Int))]) = fun j_1 => [RV.int IntKind.i64 ((rowAt P j).getD j_1 (0 : Int))], s = sumT M (rowAt P j), zeroP M (List.take t (rowAt P j)) = zeroP M (rowAt P j), Dec (decide ((↑t : Int) < (↑(rowAt P j).length : Int))) false], by kernel_rfl, ⟨?_, ?_, ?_, ?_, ?_, ?_, ?_, d1⟩, rfl⟩⟩)
      all_goals first | (refine MuG.mk ?_; (simp only [decide_eq_true_eq] at *; show (rowAt P j).length - (t + 1) < (rowAt P j).length - t; omega)) | (refine InG.mk ?_; (simp only [decide_eq_true_eq] at *; exact ⟨by omega, by rw [sumT_take (by omega), hs]⟩)) | (refine CtG.mk ?_; (simp_all)) | (first | (with_reducible rfl) | exact ⟨rfl, rfl⟩ | ((try simp only [ek, Int.toNat_natCast, decide_eq_true_eq, decide_eq_false_iff_not] at *) <;> first | omega | (have h0 := hr.at (t := t) (by omega); omega) | (have h2 := odd_z (t := t) hM hr' (by omega); simp only [at_] at h2 ⊢; exact w64 (by omega) (by omega)) | (rw [zeroP_take (by omega)]; rfl) | (rw [hs, List.take_of_length_le (by omega)]; done) | (rw [List.take_of_length_le (by omega)]; done)))
noncomputable def tfOut (L : List Con) (P : List (List Int)) : Ann := ⟨⟨[(2, .ptr 1001 0), (4, .lo 1003 L.length), (18, (roR .i64 P).av), (19, .vint .i64 P.length), (20, .int .i64 0)], tfH L.length L, 1030⟩, none, fun _ =>
  (.exit 0, ⟨[(2, .ptr 1001 0), (4, .lo 1003 L.length)], tfH L.length (fuseT L P), 1030⟩)⟩
set_option maxRecDepth 100000 in
theorem tf_out (L : List Con) (P : List (List Int)) (hL : okL L) (hP : ∀ l ∈ P, l ≠ [] ∧ inR L.length l ∧ l.length ≤ L.length) (hm : P.length ≤ 1000) : AnnOk Tryz.prog EV.ng (Nat.max 1 Tryz.f19.ntmps) (bodyAt Tryz.f19 [0, 1, 0, 1, 1, 1]) (tfOut L P) := by
  refine ann_ofI evOk (callF_ok evOk (noOrc_ok _ _) 8) (by kernel_rfl) (by kernel_rfl) (fun i : Nat × List Con => (fun (j : Nat) (M : List Con) => (⟨[(2, .ptr 1001 0), (4, .lo 1003 L.length), (18, (roR .i64 P).av), (19, .vint .i64 P.length), (20, .vint .i64 (j : Int))], tfH L.length M, 1030⟩ : St)) i.1 i.2) (fun i : Nat × List Con => (fun (j : Nat) (M : List Con) => (P.length - j : Nat)) i.1 i.2) (fun (d : Bool) (i : Nat × List Con) => (fun (j : Nat) (M : List Con) => (j ≤ P.length ∧ okL M ∧ M.length = L.length ∧ fuseT M (P.drop j) = fuseT L P : Prop)) i.1 i.2) (fun i : Nat × List Con => (fun (j : Nat) (M : List Con) => ([([0, 1, 0, 1, 1, 0, 0, 1, 1, 0, 0, 1, 0, 1, 1, 1], tfIn L.length M P j)] : List (List Nat × Ann))) i.1 i.2) ?_ ?_ ?_
  · rintro d hd ⟨j, M⟩ hI
    exact one_ann (tf_in L.length M P j hI.2.1 hI.2.2.1 (by rcases Nat.lt_or_ge j P.length with h | h; exact (hP _ (rowAt_mem h)).2.1; intro x hx; simp [rowAt, h] at hx) (by have := hL.1; rcases Nat.lt_or_ge j P.length with h | h; have := (hP _ (rowAt_mem h)).2.2; omega; simp [rowAt, h]))
  · intro d hd
    exact ⟨(0, L), [L.length = L.length, P.length = P.length ∧ (fun i => [rI IntKind.i64 (P.getD i [])]) = fun i => [rI IntKind.i64 (P.getD i [])], (↑P.length : Int) = (↑P.length : Int), (0 : Int) = (↑(0 : Nat) : Int), L = L], by kernel_rfl, (by refine ⟨?_, ?_, ?_, ?_, (?_ : L = L)⟩ <;> (first | rfl | assumption | omega | simp_all)), (by exact ⟨Nat.zero_le _, hL, rfl, rfl⟩)⟩
  · rintro d hd ⟨j, M⟩ hI
    cases d
    · -- d = false
      exact Bool.noConfusion (show false = true from hd)
    · -- d = true
      obtain ⟨ht, hM, hn, hf⟩ := hI
      have ht : j ≤ P.length := ht
      have hM : okL M := hM
      have hn : M.length = L.length := hn
      have hf : fuseT M (P.drop j) = fuseT L P := hf
      have hl1 := hL.1
      have ek : IntKind.i64.wrap ((j : Int) + 1) = ((j + 1 : Nat) : Int) := by rw [w64 (by omega) (by omega)]; omega
      have hz : (zeroP M (rowAt P j)).length = L.length := by rw [zeroP_len, hn]
      refine Or.elim (Bool.eq_false_or_eq_true (decide ((↑j : Int) < (↑P.length : Int)))) (fun d1 => ⟨[true], .inl ⟨(j + 1, fuT M (rowAt P j)), [L.length = L.length, P.length = P.length ∧ (fun i => [rI IntKind.i64 (P.getD i [])]) = fun i => [rI IntKind.i64 (P.getD i [])], (↑P.length : Int) = (↑P.length : Int), IntKind.i64.wrap ((↑j : Int) + (1 : Int)) = (↑(j + (1 : Nat)) : Int), updT (zeroP M (rowAt P j)) ((rowAt P j).getD (Int.toNat (0 : Int)) (0 : Int)).toNat ((sumT M (rowAt P j)).tmod (8 : Int)) = fuT M (rowAt P j), ((rowAt P j).getD (Int.toNat (0 : Int)) (0 : Int)).toNat < (zeroP M (rowAt P j)).length, (0 : Int) ≤ (rowAt P j).getD (Int.toNat (0 : Int)) (0 : Int) ∧ (rowAt P j).getD (Int.toNat (0 : Int)) (0 : Int) < (↑L.length : Int), (8 : Int) ≠ (0 : Int), (0 : Int) ≤ (0 : Int) ∧ (0 : Int) < (↑(rowAt P j).length : Int), L.length = L.length, P.length = P.length ∧ (fun i => [rI IntKind.i64 (P.getD i [])]) = fun i => [rI IntKind.i64 (P.getD i [])], (↑P.length : Int) = (↑P.length : Int), (↑j : Int) = (↑j : Int), (P.getD j []).length = (rowAt P j).length ∧ (fun j_1 => [RV.int IntKind.i64 ((P.getD j []).getD j_1 (0 : Int))]) = fun j_1 => [RV.int IntKind.i64 ((rowAt P j).getD j_1 (0 : Int))], (P.getD j []).length = (rowAt P j).length ∧ (fun j_1 => [RV.int IntKind.i64 ((P.getD j []).getD j_1 (0 : Int))]) = fun j_1 => [RV.int IntKind.i64 ((rowAt P j).getD j_1 (0 : Int))], (↑(P.getD j []).length : Int) = (↑(rowAt P j).length : Int), M = M, (0 : Int) ≤ (↑j : Int) ∧ (↑j : Int) < (↑P.length : Int), Dec (decide ((↑j : Int) < (↑P.length : Int))) true], by kernel_rfl, ⟨?_, ?_, ?_, ?_, ?_, ?_, ?_, ?_, ?_, ?_, ?_, ?_, ?_, ?_, ?_, ?_, ?_, ?_, d1⟩, MuG.out ?_, InG.out ?_⟩⟩)
           (fun d1 => ⟨[false], .inr ⟨[L.length = L.length, M = fuseT L P, Dec (decide ((↑j : Int) < (↑P.length : Int))) false], by kernel_rfl, ⟨?_, ?_, d1⟩, rfl⟩⟩)
      all_goals first | (refine MuG.mk ?_; (simp only [decide_eq_true_eq] at *; show P.length - (j + 1) < P.length - j; omega)) | (refine InG.mk ?_; (simp only [decide_eq_true_eq] at *; have h0 := hP _ (rowAt_mem (P := P) (t := j) (by omega)); exact ⟨by omega, fuT_ok hM (by rw [hn]; exact h0.2.1) h0.1, by rw [fuT_len, hn], by rw [← fuseT_drop (by omega)]; exact hf⟩)) | (refine CtG.mk ?_; (simp_all)) | (first | (with_reducible rfl) | exact ⟨rfl, rfl⟩ | decide | ((try simp only [ek, Int.toNat_natCast, Int.toNat_zero, decide_eq_true_eq, decide_eq_false_iff_not] at *) <;> first | omega | (have h0 := hP _ (rowAt_mem (P := P) (t := j) (by omega)); have h1 : 0 < (rowAt P j).length := List.length_pos_iff.2 h0.1; first | omega | (have h2 := h0.2.1.at (t := 0) h1; omega) | (have h3 := (sumT_b hM (l := rowAt P j) (by rw [hn]; exact h0.2.1)).1; unfold fuT; rw [← Int.tmod_eq_emod_of_nonneg h3]; rfl)) | (rw [List.drop_eq_nil_of_le (by omega)] at hf; exact hf)))
set_option maxRecDepth 100000 in
theorem tfuse_yes (L : List Con) (hL : okL L) (hv : val2M 2 L = true) (hne : 0 < L.length) : PureC Tryz.prog [] 19 [.agg [.int .i64 2, roC L]] (.tup [.agg [.int .i64 2, roC (fuseM L)], .bool true]) := by
  have hl := hL.1; have k1 : val2M 2 (consR L.length fun i => (L.getD i Con.zero).rvs) = true := (by rw [consR_ro]; exact hv); have k2 : L.length.beq 0 = false := (by cases h : L.length.beq 0 with | false => rfl | true => have := Nat.eq_of_beq_eq_true h; omega)
  have rr := fun (tp : List Bool) (ms : List Prop) h hm => pure_run evOk (callF_ok evOk (orcOf_ok entsVW_ok) 8) Tryz.func19 (A := [.agg [.int .i64 2, roC L]]) (N := Nat.max 1 Tryz.f19.ntmps) rfl (one_ann (tf_out L (partsM L) hL parts_rows (Nat.le_trans parts_len hL.1))) rfl rfl evNg (tabs := []) (R := .tup [.agg [.int .i64 2, roC (fuseM L)], .bool true]) (tp := tp) (ms := ms) h hm
  refine rr [false, false] [(2 : Int) = (2 : Int), L.length = (fuseM L).length ∧ L.length = (fuseT L (partsM L)).length ∧ ∀ (i : Nat), i < L.length → (fun i => ((fuseM L).getD i Con.zero).rvs) i = ((fuseT L (partsM L)).getD i Con.zero).rvs, true = true, L.length = L.length, (partsM (consR L.length fun i => (L.getD i Con.zero).rvs)).length = (partsM L).length ∧ (fun i => [rI IntKind.i64 ((partsM (consR L.length fun i => (L.getD i Con.zero).rvs)).getD i [])]) = fun i => [rI IntKind.i64 ((partsM L).getD i [])], (↑(partsM (consR L.length fun i => (L.getD i Con.zero).rvs)).length : Int) = (↑(partsM L).length : Int), (consR L.length fun i => (L.getD i Con.zero).rvs) = L, (∀ (i : Nat), i < L.length → (fun i => (L.getD i Con.zero).rvs) i = (Con.ofR ((fun i => (L.getD i Con.zero).rvs) i)).rvs) ∧ okE (consR L.length fun i => (L.getD i Con.zero).rvs), (0 : Nat) < L.length ∧ L.length ≤ (1000000 : Nat), ∀ (i : Nat), i < L.length → (fun i => (L.getD i Con.zero).rvs) i = (Con.ofR ((fun i => (L.getD i Con.zero).rvs) i)).rvs, Dec (L.length.beq (0 : Nat)) false, (0 : Nat) < L.length, Dec (!val2M (2 : Int) (consR L.length fun i => (L.getD i Con.zero).rvs)) false, (∀ (i : Nat), i < L.length → (fun i => (L.getD i Con.zero).rvs) i = (Con.ofR ((fun i => (L.getD i Con.zero).rvs) i)).rvs) ∧ L.length ≤ (1000 : Nat)] (by kernel_rfl) ⟨?_, ?_, ?_, ?_, ?_, ?_, ?_, ?_, ?_, ?_, k2, ?_, (dN k1), (?_ : (∀ (i : Nat), i < L.length → (fun i => (L.getD i Con.zero).rvs) i = (Con.ofR ((fun i => (L.getD i Con.zero).rvs) i)).rvs) ∧ L.length ≤ (1000 : Nat))⟩
  all_goals first | (first | (with_reducible rfl) | exact ⟨rfl, rfl⟩ | (rw [← fuseT_parts]; exact ⟨by rw [fuseT_parts, fuseM_len], by rw [fuseT_parts, fuseM_len], fun _ _ => rfl⟩) | exact consR_ro L | (rw [consR_ro]; first | done | rfl | exact ⟨rfl, rfl⟩) | exact ⟨hne, by omega⟩ | exact hne | exact fun _ _ => rfl | exact ⟨fun _ _ => rfl, by rw [consR_ro]; exact hL.e⟩ | exact ⟨fun _ _ => rfl, hl⟩)
set_option maxRecDepth 100000 in
theorem tfuse_no (p : Int) (L : List Con) (hn : L.length ≤ 1000) (hv : val2M p L = false) : PureC Tryz.prog [] 19 [.agg [.int .i64 p, roC L]] (.tup [.agg [.int .i64 0, roC []], .bool false]) := by
  have k1 : val2M p (consR L.length fun i => (L.getD i Con.zero).rvs) = false := (by rw [consR_ro]; exact hv)
  have rr := fun (tp : List Bool) (ms : List Prop) h hm => pure_run evOk (callF_ok evOk (orcOf_ok entsVW_ok) 8) Tryz.func19 (A := [.agg [.int .i64 p, roC L]]) rfl none_ann rfl rfl evNg (tabs := []) (R := .tup [.agg [.int .i64 0, roC []], .bool false]) (tp := tp) (ms := ms) h hm
  refine rr [true] [(0 : Int) = (0 : Int), (0 : Nat) = (0 : Nat), false = false, Dec (!val2M p (consR L.length fun i => (L.getD i Con.zero).rvs)) true, (∀ (i : Nat), i < L.length → (fun i => (L.getD i Con.zero).rvs) i = (Con.ofR ((fun i => (L.getD i Con.zero).rvs) i)).rvs) ∧ L.length ≤ (1000 : Nat)] (by kernel_rfl) ⟨?_, ?_, ?_, (dN k1), (?_ : (∀ (i : Nat), i < L.length → (fun i => (L.getD i Con.zero).rvs) i = (Con.ofR ((fun i => (L.getD i Con.zero).rvs) i)).rvs) ∧ L.length ≤ (1000 : Nat))⟩
  all_goals first | (first | rfl | exact ⟨rfl, rfl⟩ | exact ⟨fun _ _ => rfl, hn⟩)

/- walk -/
theorem walkG_drop {x y : Int} {M : List Con} {P : List (List Int)} {j : Nat} (hj : j < P.length) : walkG x y M (P.drop j) = walkG x y (bif hasI x (rowAt P j) || hasI y (rowAt P j) then add4 M ((rowAt P j).getD 0 0) else M) (P.drop (j + 1)) := by
  rw [drop_row hj]; rfl
def wkT (x y : Int) (M : List Con) (l : List Int) : List Con := bif hasI x l || hasI y l then add4 M (l.getD 0 0) else M
theorem wkT_len {x y : Int} {M : List Con} {l : List Int} : (wkT x y M l).length = M.length := by unfold wkT; cases (hasI x l || hasI y l) <;> simp only [cond_true, cond_false, add4_len]
theorem wkT_ok {x y : Int} {M : List Con} (h : okL M) {l : List Int} (hl : inR M.length l) (hne : l ≠ []) : okL (wkT x y M l) := by
  unfold wkT
  cases (hasI x l || hasI y l)
  · exact h
  · exact add4_ok h (hl.at (List.length_pos_iff.2 hne))
theorem wkT_1 {x y : Int} {M : List Con} {l : List Int} (h : hasI x l = true) : wkT x y M l = add4 M (l.getD 0 0) := by unfold wkT; rw [h]; rfl
theorem wkT_2 {x y : Int} {M : List Con} {l : List Int} (h : hasI y l = true) : wkT x y M l = add4 M (l.getD 0 0) := by unfold wkT; rw [h, Bool.or_true]; rfl
theorem wkT_3 {x y : Int} {M : List Con} {l : List Int} (h : hasI x l = false) (h2 : hasI y l = false) : wkT x y M l = M := by unfold wkT; rw [h, h2]; rfl
noncomputable def twAnn (k : Nat) (L M0 : List Con) (P : List (List Int)) : Ann := ⟨⟨[(1, .vint .i64 (k : Int)), (4, .ptr 1001 0), (5, .lo 1003 L.length), (35, (roR .i64 P).av), (36, .vint .i64 P.length), (37, .int .i64 0)], tfH L.length M0, 1030⟩, none, fun _ =>
  (.exit 0, ⟨[(4, .ptr 1001 0), (5, .lo 1003 L.length)], tfH L.length (walkG ((k : Int) - 1) k M0 P), 1030⟩)⟩
set_option maxRecDepth 100000 in
theorem tw_loop (k : Nat) (L M0 : List Con) (P : List (List Int)) (hL : okL M0) (hn0 : M0.length = L.length) (h1 : 1 ≤ k) (h2 : k < L.length) (hP : ∀ l ∈ P, l ≠ [] ∧ inR L.length l ∧ l.length ≤ L.length) (hm : P.length ≤ 1000) : AnnOk Tryz.prog EV.ng (Nat.max 2 Tryz.f54.ntmps) (bodyAt Tryz.f54 [0, 1, 0, 1, 1, 1, 1]) (twAnn k L M0 P) := by
  refine ann_of evOk (callF_ok evOk (orcOf_ok entsVC_ok) 8) none_ann (by kernel_rfl) (by kernel_rfl) (fun i : Nat × List Con => (fun (j : Nat) (M : List Con) => (⟨[(1, .vint .i64 (k : Int)), (4, .ptr 1001 0), (5, .lo 1003 L.length), (35, (roR .i64 P).av), (36, .vint .i64 P.length), (37, .vint .i64 (j : Int))], tfH L.length M, 1030⟩ : St)) i.1 i.2) (fun i : Nat × List Con => (fun (j : Nat) (M : List Con) => (P.length - j : Nat)) i.1 i.2) (fun (d : Bool) (i : Nat × List Con) => (fun (j : Nat) (M : List Con) => (j ≤ P.length ∧ okL M ∧ M.length = L.length ∧ walkG ((k : Int) - 1) k M (P.drop j) = walkG ((k : Int) - 1) k M0 P : Prop)) i.1 i.2) ?_ ?_
  · intro d hd
    exact ⟨(0, M0), [(↑k : Int) = (↑k : Int), L.length = L.length, P.length = P.length ∧ (fun i => [rI IntKind.i64 (P.getD i [])]) = fun i => [rI IntKind.i64 (P.getD i [])], (↑P.length : Int) = (↑P.length : Int), (0 : Int) = (↑(0 : Nat) : Int), M0 = M0], by kernel_rfl, (by refine ⟨?_, ?_, ?_, ?_, ?_, (?_ : M0 = M0)⟩ <;> (first | rfl | assumption | omega | simp_all)), (by exact ⟨Nat.zero_le _, hL, hn0, rfl⟩)⟩
  · rintro d hd ⟨j, M⟩ hI
    cases d
    · -- d = false
      exact Bool.noConfusion (show false = true from hd)
    · -- d = true
      obtain ⟨ht, hM, hn, hf⟩ := hI
      have ht : j ≤ P.length := ht
      have hM : okL M := hM
      have hn : M.length = L.length := hn
      have hf : walkG ((k : Int) - 1) k M (P.drop j) = walkG ((k : Int) - 1) k M0 P := hf
      have hl1 := hL.1
      have ek : IntKind.i64.wrap ((j : Int) + 1) = ((j + 1 : Nat) : Int) := by rw [w64 (by omega) (by omega)]; omega
      have em : IntKind.i64.wrap ((k : Int) - 1) = (k : Int) - 1 := w64 (by omega) (by omega)
      refine Or.elim (Bool.eq_false_or_eq_true (decide ((↑j : Int) < (↑P.length : Int)))) (fun d1 => Or.elim (Bool.eq_false_or_eq_true (hasI (IntKind.i64.wrap ((↑k : Int) - (1 : Int))) (intsR (P.getD j []).length fun j_1 => [RV.int IntKind.i64 ((P.getD j []).getD j_1 (0 : Int))]))) (fun d2 => ⟨[true, true], .inl ⟨(j + 1, wkT ((k : Int) - 1) k M (rowAt P j)), [(↑k : Int) = (↑k : Int), L.length = L.length, P.length = P.length ∧ (fun i => [rI IntKind.i64 (P.getD i [])]) = fun i => [rI IntKind.i64 (P.getD i [])], (↑P.length : Int) = (↑P.length : Int), IntKind.i64.wrap ((↑j : Int) + (1 : Int)) = (↑(j + (1 : Nat)) : Int), updT M ((P.getD j []).getD (Int.toNat (0 : Int)) (0 : Int)).toNat ((IntKind.i64.wrap ((M.getD ((P.getD j []).getD (Int.toNat (0 : Int)) (0 : Int)).toNat Con.zero).oddity + (4 : Int))).tmod (8 : Int)) = wkT ((↑k : Int) - (1 : Int)) (↑k : Int) M (rowAt P j), ((P.getD j []).getD (Int.toNat (0 : Int)) (0 : Int)).toNat < M.length, (0 : Int) ≤ (P.getD j []).getD (Int.toNat (0 : Int)) (0 : Int) ∧ (P.getD j []).getD (Int.toNat (0 : Int)) (0 : Int) < (↑L.length : Int), (8 : Int) ≠ (0 : Int), ((P.getD j []).getD (Int.toNat (0 : Int)) (0 : Int)).toNat < M.length, (0 : Int) ≤ (P.getD j []).getD (Int.toNat (0 : Int)) (0 : Int) ∧ (P.getD j []).getD (Int.toNat (0 : Int)) (0 : Int) < (↑L.length : Int), (0 : Int) ≤ (0 : Int) ∧ (0 : Int) < (↑(P.getD j []).length : Int), Dec (hasI (IntKind.i64.wrap ((↑k : Int) - (1 : Int))) (intsR (P.getD j []).length fun j_1 => [RV.int IntKind.i64 ((P.getD j []).getD j_1 (0 : Int))])) true, (∀ (i : Nat), i < (P.getD j []).length → (fun j_1 => [RV.int IntKind.i64 ((P.getD j []).getD j_1 (0 : Int))]) i = [RV.int IntKind.i64 (intR ((fun j_1 => [RV.int IntKind.i64 ((P.getD j []).getD j_1 (0 : Int))]) i))]) ∧ (P.getD j []).length ≤ (1000 : Nat), (0 : Int) ≤ (↑j : Int) ∧ (↑j : Int) < (↑P.length : Int), Dec (decide ((↑j : Int) < (↑P.length : Int))) true], by kernel_rfl, ⟨?_, ?_, ?_, ?_, ?_, ?_, ?_, ?_, ?_, ?_, ?_, ?_, d2, ?_, ?_, d1⟩, MuG.out ?_, InG.out ?_⟩⟩)
           (fun d2 => Or.elim (Bool.eq_false_or_eq_true (hasI (↑k : Int) (intsR (P.getD j []).length fun j_1 => [RV.int IntKind.i64 ((P.getD j []).getD j_1 (0 : Int))]))) (fun d3 => ⟨[true, false, true], .inl ⟨(j + 1, wkT ((k : Int) - 1) k M (rowAt P j)), [(↑k : Int) = (↑k : Int), L.length = L.length, P.length = P.length ∧ (fun i => [rI IntKind.i64 (P.getD i [])]) = fun i => [rI IntKind.i64 (P.getD i [])], (↑P.length : Int) = (↑P.length : Int), IntKind.i64.wrap ((↑j : Int) + (1 : Int)) = (↑(j + (1 : Nat)) : Int), updT M ((P.getD j []).getD (Int.toNat (0 : Int)) (0 : Int)).toNat ((IntKind.i64.wrap ((M.getD ((P.getD j []).getD (Int.toNat (0 : Int)) (0 : Int)).toNat Con.zero).oddity + (4 : Int))).tmod (8 : Int)) = wkT ((↑k : Int) - (1 : Int)) (↑k : Int) M (rowAt P j), ((P.getD j []).getD (Int.toNat (0 : Int)) (0 : Int)).toNat < M.length, (0 : Int) ≤ (P.getD j []).getD (Int.toNat (0 : Int)) (0 : Int) ∧ (P.getD j []).getD (Int.toNat (0 : Int)) (0 : Int) < (↑L.length : Int), (8 : Int) ≠ (0 : Int), ((P.getD j []).getD (Int.toNat (0 : Int)) (0 : Int)).toNat < M.length, (0 : Int) ≤ (P.getD j []).getD (Int.toNat (0 : Int)) (0 : Int) ∧ (P.getD j []).getD (Int.toNat (0 : Int)) (0 : Int) < (↑L.length : Int), (0 : Int) ≤ (0 : Int) ∧ (0 : Int) < (↑(P.getD j []).length : Int), Dec (hasI (↑k : Int) (intsR (P.getD j []).length fun j_1 => [RV.int IntKind.i64 ((P.getD j []).getD j_1 (0 : Int))])) true, (∀ (i : Nat), i < (P.getD j []).length → (fun j_1 => [RV.int IntKind.i64 ((P.getD j []).getD j_1 (0 : Int))]) i = [RV.int IntKind.i64 (intR ((fun j_1 => [RV.int IntKind.i64 ((P.getD j []).getD j_1 (0 : Int))]) i))]) ∧ (P.getD j []).length ≤ (1000 : Nat), Dec (hasI (IntKind.i64.wrap ((↑k : Int) - (1 : Int))) (intsR (P.getD j []).length fun j_1 => [RV.int IntKind.i64 ((P.getD j []).getD j_1 (0 : Int))])) false, (∀ (i : Nat), i < (P.getD j []).length → (fun j_1 => [RV.int IntKind.i64 ((P.getD j []).getD j_1 (0 : Int))]) i = [RV.int IntKind.i64 (intR ((fun j_1 => [RV.int IntKind.i64 ((P.getD j []).getD j_1 (0 : Int))]) i))]) ∧ (P.getD j []).length ≤ (1000 : Nat), (0 : Int) ≤ (↑j : Int) ∧ (↑j : Int) < (↑P.length : Int), Dec (decide ((↑j : Int) < (↑P.length : Int))) true], by kernel_rfl, ⟨?_, ?_, ?_, ?_, ?_, ?_, ?_, ?_, ?_, ?_, ?_, ?_, d3, ?_, d2, ?_, ?_, d1⟩, MuG.out ?_, InG.out ?_⟩⟩)
           (fun d3 => ⟨[true, false, false], .inl ⟨(j + 1, wkT ((k : Int) - 1) k M (rowAt P j)), [(↑k : Int) = (↑k : Int), L.length = L.length, P.length = P.length ∧ (fun i => [rI IntKind.i64 (P.getD i [])]) = fun i => [rI IntKind.i64 (P.getD i [])], (↑P.length : Int) = (↑P.length : Int), IntKind.i64.wrap ((↑j : Int) + (1 : Int)) = (↑(j + (1 : Nat)) : Int), M = wkT ((↑k : Int) - (1 : Int)) (↑k : Int) M (rowAt P j), Dec (hasI (↑k : Int) (intsR (P.getD j []).length fun j_1 => [RV.int IntKind.i64 ((P.getD j []).getD j_1 (0 : Int))])) false, (∀ (i : Nat), i < (P.getD j []).length → (fun j_1 => [RV.int IntKind.i64 ((P.getD j []).getD j_1 (0 : Int))]) i = [RV.int IntKind.i64 (intR ((fun j_1 => [RV.int IntKind.i64 ((P.getD j []).getD j_1 (0 : Int))]) i))]) ∧ (P.getD j []).length ≤ (1000 : Nat), Dec (hasI (IntKind.i64.wrap ((↑k : Int) - (1 : Int))) (intsR (P.getD j []).length fun j_1 => [RV.int IntKind.i64 ((P.getD j []).getD j_1 (0 : Int))])) false, (∀ (i : Nat), i < (P.getD j []).length → (fun j_1 => [RV.int IntKind.i64 ((P.getD j []).getD j_1 (0 : Int))]) i = [RV.int IntKind.i64 (intR ((fun j_1 => [RV.int IntKind.i64 ((P.getD j []).getD j_1 (0 : Int))]) i))]) ∧ (P.getD j []).length ≤ (1000 : Nat), (0 : Int) ≤ (↑j : Int) ∧ (↑j : Int) < (↑P.length : Int), Dec (decide ((↑j : Int) < (↑P.length : Int))) true], by kernel_rfl, ⟨?_, ?_, ?_, ?_, ?_, ?_, d3, ?_, d2, ?_, ?_, d1⟩, MuG.out ?_, InG.out ?_⟩⟩)))
           (fun d1 => ⟨[false], .inr ⟨[L.length = L.length, M = walkG ((↑k : Int) - (1 : Int)) (↑k : Int) M0 P, Dec (decide ((↑j : Int) < (↑P.length : Int))) false], by kernel_rfl, ⟨?_, ?_, d1⟩, rfl⟩⟩)
      all_goals first | (refine MuG.mk ?_; (simp only [decide_eq_true_eq] at *; show P.length - (j + 1) < P.length - j; omega)) | (refine InG.mk ?_; (simp only [decide_eq_true_eq] at *; have h0 := hP _ (rowAt_mem (P := P) (t := j) (by omega)); exact ⟨by omega, wkT_ok hM (by rw [hn]; exact h0.2.1) h0.1, by rw [wkT_len, hn], by rw [walkG_drop (by omega)] at hf; exact hf⟩)) | (refine CtG.mk ?_; (simp_all)) | (first | (with_reducible rfl) | exact ⟨rfl, rfl⟩ | decide | ((try simp only [ek, em, intsR_ro, Int.toNat_natCast, Int.toNat_zero, decide_eq_true_eq, decide_eq_false_iff_not] at *) <;> first | omega | (rw [wkT_3 (by assumption) (by assumption)]; done) | (rw [List.drop_eq_nil_of_le (by omega)] at hf; exact hf) | (have h0 := hP _ (rowAt_mem (P := P) (t := j) (by omega)); have h3 : 0 < (rowAt P j).length := List.length_pos_iff.2 h0.1; have h5 : 0 ≤ (P.getD j []).getD 0 0 ∧ (P.getD j []).getD 0 0 < (L.length : Int) := h0.2.1.at (t := 0) h3; have h6 : (P.getD j []).length ≤ L.length := h0.2.2; have h7 : 0 < (P.getD j []).length := h3; first | omega | exact ⟨fun _ _ => rfl, by omega⟩ | (have h4 := add4_raw hM (i := (rowAt P j).getD 0 0) (by rw [hn]; exact h5); first | (rw [wkT_1 (by assumption)]; exact h4) | (rw [wkT_2 (by assumption)]; exact h4)))))
set_option maxRecDepth 100000 in
theorem twalk_pure (L : List Con) (k : Nat) (hL : okL L) (h1 : 1 ≤ k) (h2 : k < L.length) : PureC Tryz.prog [] 54 [.agg [.int .i64 2, roC L], .int .i64 (k : Int)] (.agg [.int .i64 2, roC (stepM L k)]) := by
  have hl := hL.1; have k2 : L.length.beq 0 = false := (by cases h : L.length.beq 0 with | false => rfl | true => have := Nat.eq_of_beq_eq_true h; omega); have em : IntKind.i64.wrap ((k : Int) - 1) = (k : Int) - 1 := w64 (by omega) (by omega); have et : ((k : Int) - 1).toNat = k - 1 := (by omega); have e1 := flip_raw hL (k := k - 1) (by omega); have e2 := flip_raw (flipS_ok hL (i := k - 1) (by omega)) (k := k) (by rw [flipS_len]; omega); have l1 : (flipS L (k - 1)).length = L.length := flipS_len; have hw : walkG ((k : Int) - 1) (k : Int) (flipS (flipS L (k - 1)) k) (partsM L) = stepM L k := walkM_eq h1 h2
  have rr := fun (tp : List Bool) (ms : List Prop) h hm => pure_run evOk (callF_ok evOk (orcOf_ok entsVC_ok) 8) Tryz.func54 (A := [.agg [.int .i64 2, roC L], .int .i64 (k : Int)]) (N := Nat.max 1 Tryz.f54.ntmps) rfl (one_ann (tw_loop k L (flipS (flipS L (k - 1)) k) (partsM L) (flipS_ok (flipS_ok hL (by omega)) (by rw [flipS_len]; omega)) (by rw [flipS_len, flipS_len]) h1 h2 parts_rows (Nat.le_trans parts_len hL.1))) rfl rfl evNg (tabs := []) (R := .agg [.int .i64 2, roC (stepM L k)]) (tp := tp) (ms := ms) h hm
  refine rr [false] [(2 : Int) = (2 : Int), L.length = (stepM L k).length ∧ L.length = (walkG ((↑k : Int) - (1 : Int)) (↑k : Int) (flipS (flipS L (k - (1 : Nat))) k) (partsM L)).length ∧ ∀ (i : Nat), i < L.length → (fun i => ((stepM L k).getD i Con.zero).rvs) i = ((walkG ((↑k : Int) - (1 : Int)) (↑k : Int) (flipS (flipS L (k - (1 : Nat))) k) (partsM L)).getD i Con.zero).rvs, (↑k : Int) = (↑k : Int), L.length = L.length, (partsM (consR L.length fun i => (L.getD i Con.zero).rvs)).length = (partsM L).length ∧ (fun i => [rI IntKind.i64 ((partsM (consR L.length fun i => (L.getD i Con.zero).rvs)).getD i [])]) = fun i => [rI IntKind.i64 ((partsM L).getD i [])], (↑(partsM (consR L.length fun i => (L.getD i Con.zero).rvs)).length : Int) = (↑(partsM L).length : Int), updS (updS (consR L.length fun i => (L.getD i Con.zero).rvs) (IntKind.i64.wrap ((↑k : Int) - (1 : Int))).toNat (IntKind.i64.wrap ((0 : Int) - ((consR L.length fun i => (L.getD i Con.zero).rvs).getD (IntKind.i64.wrap ((↑k : Int) - (1 : Int))).toNat Con.zero).sign))) k (IntKind.i64.wrap ((0 : Int) - ((updS (consR L.length fun i => (L.getD i Con.zero).rvs) (IntKind.i64.wrap ((↑k : Int) - (1 : Int))).toNat (IntKind.i64.wrap ((0 : Int) - ((consR L.length fun i => (L.getD i Con.zero).rvs).getD (IntKind.i64.wrap ((↑k : Int) - (1 : Int))).toNat Con.zero).sign))).getD k Con.zero).sign)) = flipS (flipS L (k - (1 : Nat))) k, (∀ (i : Nat), i < L.length → (fun i => (L.getD i Con.zero).rvs) i = (Con.ofR ((fun i => (L.getD i Con.zero).rvs) i)).rvs) ∧ okE (consR L.length fun i => (L.getD i Con.zero).rvs), k < (updS (consR L.length fun i => (L.getD i Con.zero).rvs) (IntKind.i64.wrap ((↑k : Int) - (1 : Int))).toNat (IntKind.i64.wrap ((0 : Int) - ((consR L.length fun i => (L.getD i Con.zero).rvs).getD (IntKind.i64.wrap ((↑k : Int) - (1 : Int))).toNat Con.zero).sign))).length, (0 : Int) ≤ (↑k : Int) ∧ (↑k : Int) < (↑L.length : Int), k < (updS (consR L.length fun i => (L.getD i Con.zero).rvs) (IntKind.i64.wrap ((↑k : Int) - (1 : Int))).toNat (IntKind.i64.wrap ((0 : Int) - ((consR L.length fun i => (L.getD i Con.zero).rvs).getD (IntKind.i64.wrap ((↑k : Int) - (1 : Int))).toNat Con.zero).sign))).length, (0 : Int) ≤ (↑k : Int) ∧ (↑k : Int) < (↑L.length : Int), (IntKind.i64.wrap ((↑k : Int) - (1 : Int))).toNat < (consR L.length fun i => (L.getD i Con.zero).rvs).length, (0 : Int) ≤ IntKind.i64.wrap ((↑k : Int) - (1 : Int)) ∧ IntKind.i64.wrap ((↑k : Int) - (1 : Int)) < (↑L.length : Int), (IntKind.i64.wrap ((↑k : Int) - (1 : Int))).toNat < (consR L.length fun i => (L.getD i Con.zero).rvs).length, (0 : Int) ≤ IntKind.i64.wrap ((↑k : Int) - (1 : Int)) ∧ IntKind.i64.wrap ((↑k : Int) - (1 : Int)) < (↑L.length : Int), (0 : Nat) < L.length ∧ L.length ≤ (1000000 : Nat), ∀ (i : Nat), i < L.length → (fun i => (L.getD i Con.zero).rvs) i = (Con.ofR ((fun i => (L.getD i Con.zero).rvs) i)).rvs, Dec (L.length.beq (0 : Nat)) false, (0 : Nat) < L.length] (by kernel_rfl) ⟨?_, ?_, ?_, ?_, ?_, ?_, ?_, ?_, ?_, ?_, ?_, ?_, ?_, ?_, ?_, ?_, ?_, ?_, k2, (?_ : (0 : Nat) < L.length)⟩
  all_goals first | (first | (with_reducible rfl) | exact ⟨rfl, rfl⟩ | exact fun _ _ => rfl | exact ⟨by omega, by omega⟩ | ((try simp only [consR_ro, em, et, Int.toNat_natCast, e1, e2, hw]) <;> first | done | omega | exact ⟨stepM_len.symm, stepM_len.symm, fun _ _ => rfl⟩ | exact ⟨stepM_len.symm, stepM_len.symm, fun _ _ => trivial⟩ | exact ⟨rfl, rfl⟩ | exact ⟨by trivial, by trivial⟩ | exact ⟨fun _ _ => rfl, hL.e⟩ | (rw [consR_ro]; exact ⟨rfl, rfl⟩)))
end Go.Proofs.YtcfdaddablojlaaGreatDoor.S

/- Both Fuses, whatever they are given. -/
set_option linter.unusedSimpArgs false
set_option linter.unusedVariables false
namespace Go.Proofs.YtcfdaddablojlaaGreatDoor.S
open Go.QfSy Go.RowKit

def bP (v : Bool) : Int := bif v then 2 else 0
def bL (v : Bool) (M : List Con) : List Con := bif v then M else []
theorem tfuse_pure (p : Int) (L : List Con) (hn : L.length ≤ 1000) : PureC Tryz.prog [] 19 [.agg [.int .i64 p, roC L]] (.tup [.agg [.int .i64 (bP (val2M p L)), roC (bL (val2M p L) (fuseM L))], .bool (val2M p L)]) := by
  cases h : val2M p L with
  | false => exact tfuse_no p L hn h
  | true =>
    have := val2_p h
    subst this
    obtain ⟨a, _, c, _⟩ := val2_ok h
    exact tfuse_yes L a h c
theorem rfuse_pure (p : Int) (L : List Con) (hn : L.length ≤ 1000) : PureC Tryz.prog [] 20 [.agg [.int .i64 p, roC L]] (.tup [.agg [.int .i64 (bP (val2M p L)), roC (bL (val2M p L) (fuseM L))], .bool (val2M p L)]) := by
  cases h : val2M p L with
  | false => exact fuse_no p L hn h
  | true =>
    have := val2_p h
    subst this
    obtain ⟨a, _, c, _⟩ := val2_ok h
    exact fuse_yes L a h c
theorem bL_len {v : Bool} {M : List Con} : (bL v M).length ≤ M.length := by cases v <;> simp [bL]
end Go.Proofs.YtcfdaddablojlaaGreatDoor.S

/- Plain: what a step changes; links are kept; a step and the same step again lead back. -/
set_option linter.unusedSimpArgs false
set_option linter.unusedVariables false
namespace Go.Proofs.YtcfdaddablojlaaGreatDoor.S
open Go.QfSy Go.RowKit

theorem list_ext {L M : List Con} (h : L.length = M.length) (k : ∀ i, i < L.length → at_ L i = at_ M i) : L = M := by
  refine List.ext_getElem h (fun i h1 h2 => ?_)
  have := k i h1
  simpa [at_, h1, h2] using this
theorem at_flip {L : List Con} {i k : Nat} : at_ (flipS L i) k = if i = k ∧ k < L.length then { at_ L k with sign := -(at_ L k).sign } else at_ L k := by
  unfold flipS
  rw [at_set]
  split
  · rename_i h; rw [h.1]
  · rfl
theorem at_add4 {L : List Con} {x : Int} {k : Nat} : at_ (add4 L x) k = if x.toNat = k ∧ k < L.length then { at_ L k with oddity := ((at_ L k).oddity + 4) % 8 } else at_ L k := by
  unfold add4 setO
  rw [at_set]
  split
  · rename_i h; rw [h.1]
  · rfl
/- whether a step of i changes the oddity at k -/
def hitB (L : List Con) (i k : Nat) : Bool := (decide (0 < (partM L ((i : Int) - 1)).length) && (((partM L ((i : Int) - 1)).getD 0 0).toNat == k)) || (decide (0 < (partM L (i : Int)).length) && (((partM L (i : Int)).getD 0 0).toNat == k))
def stepC (L : List Con) (i k : Nat) : Con := ⟨(at_ L k).exp, (at_ L k).dim, (bif k == i || k == i - 1 then -(at_ L k).sign else (at_ L k).sign), (at_ L k).odd, (bif hitB L i k then ((at_ L k).oddity + 4) % 8 else (at_ L k).oddity)⟩
theorem flips_at {L : List Con} {i k : Nat} (h1 : 1 ≤ i) (hk : k < L.length) : at_ (flipS (flipS L i) (i - 1)) k = { at_ L k with sign := bif k == i || k == i - 1 then -(at_ L k).sign else (at_ L k).sign } := by
  rw [at_flip, at_flip, flipS_len]
  by_cases e1 : k = i
  · have e2 : ¬ (i - 1 = k ∧ k < L.length) := by omega
    rw [if_neg e2, if_pos ⟨e1.symm, hk⟩]
    simp [e1]
  · by_cases e2 : k = i - 1
    · rw [if_pos ⟨e2.symm, hk⟩, if_neg (by omega)]
      have e3 : (k == i) = false := by simpa using e1
      have e4 : (k == i - 1) = true := by simpa using e2
      simp only [e3, e4, Bool.or_true, cond_true]
    · rw [if_neg (by omega), if_neg (by omega)]
      have e3 : (k == i) = false := by simpa using e1
      have e4 : (k == i - 1) = false := by simpa using e2
      simp only [e3, e4, Bool.or_self, cond_false]
theorem step_at {L : List Con} {i k : Nat} (h1 : 1 ≤ i) (h2 : i < L.length) (hk : k < L.length) : at_ (stepM L i) k = stepC L i k := by
  have hM := flips_at h1 hk
  have hl : (flipS (flipS L i) (i - 1)).length = L.length := by simp only [flipS_len]
  have b1 := (part0 (L := L) (by omega) ((i : Int) - 1)).1
  have b2 := (part0 (L := L) (by omega) (i : Int)).1
  unfold stepC hitB
  generalize hp : (partM L ((i : Int) - 1)).getD 0 0 = x at *
  generalize hq : (partM L (i : Int)).getD 0 0 = y at *
  by_cases A : 0 < (partM L ((i : Int) - 1)).length
  · by_cases C : x = y
    · rw [st2 A (by rw [hp, hq]; exact C), hp, at_add4, hl, hM]
      simp only [A, decide_true, Bool.true_and]
      rw [← C]
      by_cases e : x.toNat = k
      · rw [if_pos ⟨e, hk⟩]
        simp [e]
      · rw [if_neg (by intro h; exact e h.1)]
        have e' : (x.toNat == k) = false := by simpa using e
        simp [e']
    · by_cases B : 0 < (partM L (i : Int)).length
      · rw [st1 A B (by rw [hp, hq]; exact C), hp, hq, at_add4, add4_len, hl, at_add4, hl, hM]
        simp only [A, B, decide_true, Bool.true_and]
        have hxy : x.toNat ≠ y.toNat := by omega
        by_cases e : x.toNat = k
        · rw [if_neg (by intro h; omega), if_pos ⟨e, hk⟩]
          have e' : (x.toNat == k) = true := by simpa using e
          simp only [e', Bool.true_or, cond_true]
        · have e' : (x.toNat == k) = false := by simpa using e
          by_cases f : y.toNat = k
          · rw [if_pos ⟨f, hk⟩, if_neg (by intro h; exact e h.1)]
            have f' : (y.toNat == k) = true := by simpa using f
            simp only [e', f', Bool.or_true, cond_true]
          · rw [if_neg (by intro h; exact f h.1), if_neg (by intro h; exact e h.1)]
            have f' : (y.toNat == k) = false := by simpa using f
            simp only [e', f', Bool.or_self, cond_false]
      · rw [st3 A B, hp, at_add4, hl, hM]
        simp only [A, B, decide_true, decide_false, Bool.true_and, Bool.false_and, Bool.or_false]
        by_cases e : x.toNat = k
        · rw [if_pos ⟨e, hk⟩]
          have e' : (x.toNat == k) = true := by simpa using e
          simp only [e', cond_true]
        · rw [if_neg (by intro h; exact e h.1)]
          have e' : (x.toNat == k) = false := by simpa using e
          simp only [e', cond_false]
  · by_cases B : 0 < (partM L (i : Int)).length
    · rw [st4 A B, hq, at_add4, hl, hM]
      simp only [A, B, decide_true, decide_false, Bool.true_and, Bool.false_and, Bool.false_or]
      by_cases e : y.toNat = k
      · rw [if_pos ⟨e, hk⟩]
        have e' : (y.toNat == k) = true := by simpa using e
        simp only [e', cond_true]
      · rw [if_neg (by intro h; exact e h.1)]
        have e' : (y.toNat == k) = false := by simpa using e
        simp only [e', cond_false]
    · rw [st5 A B, hM]
      simp only [A, B, decide_false, Bool.false_and, Bool.or_self, cond_false]

/- compartments hang on exponents and types alone -/
def sameT (L M : List Con) : Prop := L.length = M.length ∧ ∀ k, k < L.length → (at_ L k).exp = (at_ M k).exp ∧ (at_ L k).odd = (at_ M k).odd ∧ (at_ L k).dim = (at_ M k).dim
theorem grpA_congr {b j b' j' : Nat → Bool} : ∀ {k : Nat}, (∀ i, i < k → b i = b' i ∧ j i = j' i) → grpA b j k = grpA b' j' k
  | 0, _ => rfl
  | k + 1, h => by
    simp only [grpA]
    rw [grpA_congr (fun i hi => h i (by omega)), (h k (by omega)).1, (h k (by omega)).2]
theorem parts_same {L M : List Con} (h : sameT L M) : partsM L = partsM M := by
  unfold partsM partsA
  rw [← h.1]
  congr 1
  refine grpA_congr (fun i hi => ⟨(h.2 i hi).2.1, ?_⟩)
  unfold joinB
  rw [(h.2 i hi).1, (h.2 (i - 1) (by omega)).1, (h.2 (i - 1) (by omega)).2.1]
theorem partM_same {L M : List Con} (h : sameT L M) (x : Int) : partM L x = partM M x := by unfold partM; rw [parts_same h]
theorem step_same {L : List Con} {i : Nat} (h1 : 1 ≤ i) (h2 : i < L.length) : sameT (stepM L i) L :=
  ⟨stepM_len, fun k hk => by rw [step_at h1 h2 (by rw [stepM_len] at hk; exact hk)]; exact ⟨rfl, rfl, rfl⟩⟩
theorem hit_same {L M : List Con} (h : sameT L M) (i k : Nat) : hitB L i k = hitB M i k := by unfold hitB; rw [partM_same h, partM_same h]
/- a step and the same step again -/
theorem step_step {L : List Con} (hL : okL L) {i : Nat} (h1 : 1 ≤ i) (h2 : i < L.length) : stepM (stepM L i) i = L := by
  refine list_ext (by rw [stepM_len, stepM_len]) (fun k hk => ?_)
  rw [stepM_len, stepM_len] at hk
  rw [step_at h1 (by rw [stepM_len]; exact h2) (by rw [stepM_len]; exact hk)]
  unfold stepC
  rw [hit_same (step_same h1 h2), step_at h1 h2 hk]
  have ho := (hL.at hk).2.2.2
  unfold stepC
  cases hh : hitB L i k <;> cases hs : (k == i || k == i - 1) <;> simp only [cond_true, cond_false, Int.neg_neg]
  all_goals first
    | rfl
    | (rw [show ((((at_ L k).oddity + 4) % 8 + 4) % 8) = (at_ L k).oddity by omega])
end Go.Proofs.YtcfdaddablojlaaGreatDoor.S

/- Plain: links are kept by steps; fused lists stay fused. -/
set_option linter.unusedSimpArgs false
set_option linter.unusedVariables false
namespace Go.Proofs.YtcfdaddablojlaaGreatDoor.S
open Go.QfSy Go.RowKit

theorem sumO_mod {L M : List Con} {m : Int} (h : ∀ k, k < L.length → ((at_ L k).oddity - (at_ M k).oddity) % 4 = 0) : ∀ {l : List Int}, inR L.length l → (sumO L l - sumO M l) % 4 = 0
  | [], _ => rfl
  | x :: l, hl => by
    have h1 := hl x (by simp)
    have h2 := h x.toNat (by omega)
    have ih := sumO_mod (m := m) h (l := l) (fun y hy => hl y (by simp [hy]))
    simp only [sumO]
    omega
theorem bad_same {L M : List Con} (hs : sameT L M) (h : ∀ k, k < L.length → ((at_ L k).oddity - (at_ M k).oddity) % 4 = 0) {l : List Int} (hl : inR L.length l) : badM L l = badM M l := by
  have h1 := sumO_mod (m := 0) h hl
  unfold badM totM
  by_cases hn : l.length = 2
  · have a0 := hl.at (t := 0) (by omega)
    have a1 := hl.at (t := 1) (by omega)
    rw [(hs.2 (l.getD 0 0).toNat (by omega)).2.2, (hs.2 (l.getD 1 0).toNat (by omega)).2.2]
    have e : (sumO L l % 8 % 4 == 0) = (sumO M l % 8 % 4 == 0) := by
      rw [Bool.eq_iff_iff, beq_iff_eq, beq_iff_eq]
      omega
    rw [e]
  · simp [hn]
theorem link_same {L M : List Con} (hs : sameT L M) (h : ∀ k, k < L.length → ((at_ L k).oddity - (at_ M k).oddity) % 4 = 0) {k : Nat} (hk : k < L.length) : linkM L k = linkM M k := by
  unfold linkM
  rw [(hs.2 k hk).1, (hs.2 k hk).2.1, (hs.2 (k - 1) (by omega)).1, (hs.2 (k - 1) (by omega)).2.1, partM_same hs, bad_same hs h (by rw [← partM_same hs]; exact partM_ok.1)]
theorem step_mod {L : List Con} {i : Nat} (h1 : 1 ≤ i) (h2 : i < L.length) : ∀ k, k < (stepM L i).length → ((at_ (stepM L i) k).oddity - (at_ L k).oddity) % 4 = 0 := by
  intro k hk
  rw [stepM_len] at hk
  rw [step_at h1 h2 hk]
  unfold stepC
  cases hitB L i k
  · simp
  · simp only [cond_true]; omega
theorem link_step {L : List Con} {i k : Nat} (h1 : 1 ≤ i) (h2 : i < L.length) (hk : k < L.length) : linkM (stepM L i) k = linkM L k := link_same (step_same h1 h2) (step_mod h1 h2) (by rw [stepM_len]; exact hk)

/- fused lists -/
theorem shL_same : ∀ {L M : List Con} {l s : Int}, L.length = M.length → (∀ k, k < L.length → (at_ L k).exp = (at_ M k).exp ∧ (at_ L k).dim = (at_ M k).dim) → shL L l s = shL M l s
  | [], [], _, _, _, _ => rfl
  | [], _ :: _, _, _, h, _ => by simp at h
  | _ :: _, [], _, _, h, _ => by simp at h
  | a :: L, b :: M, l, s, h, hk => by
    have h0 := hk 0 (by simp)
    have e1 : a.exp = b.exp := h0.1
    have e2 : a.dim = b.dim := h0.2
    simp only [shL, shO]
    rw [e1, e2, shL_same (by simpa using h) (fun k hk2 => by have := hk (k + 1) (by simp; omega); simpa [at_] using this)]
theorem shape_same {p : Int} {L M : List Con} (hs : sameT L M) : shapeM p L = shapeM p M := by
  unfold shapeM
  rw [shL_same hs.1 (fun k hk => ⟨(hs.2 k hk).1, (hs.2 k hk).2.2⟩)]
  have : L.isEmpty = M.isEmpty := by
    have := hs.1
    cases L <;> cases M <;> simp_all
  rw [this]
theorem dimR_same {L M : List Con} (hs : sameT L M) : ∀ {l : List Int}, inR L.length l → dimR L l = dimR M l
  | [], _ => rfl
  | x :: l, hl => by
    have h1 := hl x (by simp)
    simp only [dimR]
    rw [(hs.2 x.toNat (by omega)).2.2, dimR_same hs (fun y hy => hl y (by simp [hy]))]
/- oddities are changed at the first index of a compartment alone -/
theorem hit_first {L : List Con} {i k : Nat} (h1 : 1 ≤ i) (h2 : i < L.length) (h : hitB L i k = true) : k < L.length ∧ oddB L k = true ∧ joinB L k = false := by
  have key : ∀ a : Nat, a < L.length → 0 < (partM L (a : Int)).length → ((partM L (a : Int)).getD 0 0).toNat = k → k < L.length ∧ oddB L k = true ∧ joinB L k = false := by
    intro a ha hp hk
    have ho : oddB L a = true := by
      cases ho : oddB L a with
      | true => rfl
      | false => rw [partM_even (fun h => by rw [h.2] at ho; cases ho)] at hp; simp at hp
    obtain ⟨s, n, t, e, e1, e2, e3, e4⟩ := part_iv ha ho
    rw [e, getD_ivN (by omega)] at hk
    have : k = s := by omega
    subst this
    exact ⟨by omega, by simpa using (e4 0 (by omega)).1, e3⟩
  unfold hitB at h
  rw [Bool.or_eq_true, Bool.and_eq_true, Bool.and_eq_true, decide_eq_true_eq, decide_eq_true_eq, beq_iff_eq, beq_iff_eq] at h
  rcases h with ⟨a, b⟩ | ⟨a, b⟩
  · have e0 : ((i - 1 : Nat) : Int) = (i : Int) - 1 := by omega
    exact key (i - 1) (by omega) (by rw [e0]; exact a) (by rw [e0]; exact b)
  · exact key i h2 a b
theorem fus_step {p : Int} {L : List Con} (hf : fusM p L = true) {i : Nat} (h1 : 1 ≤ i) (h2 : i < L.length) : fusM p (stepM L i) = true := by
  have hs := step_same h1 h2
  rw [← fus_eq] at hf ⊢
  unfold fusT at hf ⊢
  rw [Bool.and_eq_true, Bool.and_eq_true, all_at, List.all_eq_true] at hf ⊢
  simp only [Bool.and_eq_true] at hf ⊢
  obtain ⟨g1, g2, g3⟩ := hf
  rw [stepM_len]
  refine ⟨by rw [shape_same hs]; exact g1, fun k hk => ?_, fun l hl => ?_⟩
  · obtain ⟨a, b⟩ := g2 k hk
    rw [step_at h1 h2 hk]
    unfold sgB at a ⊢
    unfold fusC at b ⊢
    unfold stepC
    rw [decide_eq_true_eq] at a ⊢
    rw [Bool.and_eq_true, decide_eq_true_eq, Bool.or_eq_true] at b ⊢
    refine ⟨?_, ?_, ?_⟩
    · cases (k == i || k == i - 1) <;> simp only [cond_true, cond_false] <;> omega
    · cases hitB L i k <;> simp only [cond_true, cond_false] <;> omega
    · cases hh : hitB L i k with
      | false => exact b.2
      | true => exact .inl (hit_first h1 h2 hh).2.1
  · rw [parts_same hs] at hl
    obtain ⟨z, pr⟩ := g3 l hl
    have hr := part_row hl
    have hin := (parts_rows l hl).2.1
    obtain ⟨s, n, e, e3, e4⟩ := hr
    refine ⟨?_, ?_⟩
    · unfold zerR at z ⊢
      rw [List.all_eq_true] at z ⊢
      intro x hx
      have hz := z x hx
      rw [e, tail_ivN, mem_ivN] at hx
      have hx2 : x ∈ l := by rw [e, mem_ivN]; omega
      have hlt := hin x hx2
      rw [step_at h1 h2 (by omega)]
      unfold stepC
      cases hh : hitB L i x.toNat with
      | false => exact hz
      | true =>
        have := (hit_first h1 h2 hh).2.2
        have h5 := (e4 (x.toNat - s) (by omega)).2 (by omega)
        rw [show s + (x.toNat - s) = x.toNat by omega, this] at h5
        cases h5
    · unfold parR at pr ⊢
      rw [decide_eq_true_eq] at pr ⊢
      have hne : 0 < l.length := by rw [e, ivN_len]; omega
      have h0 := hin.at hne
      rw [dimR_same hs (by rw [stepM_len]; exact hin), step_at h1 h2 (by omega)]
      unfold stepC
      cases hitB L i (l.getD 0 0).toNat <;> simp only [cond_true, cond_false] <;> omega
end Go.Proofs.YtcfdaddablojlaaGreatDoor.S

/- Plain: the oddity of a whole list; a walk keeps it. -/
set_option linter.unusedSimpArgs false
set_option linter.unusedVariables false
namespace Go.Proofs.YtcfdaddablojlaaGreatDoor.S
open Go.QfSy Go.RowKit

def sumN (f : Nat → Int) : Nat → Int
  | 0 => 0
  | n + 1 => sumN f n + f n
def oddW (c : Con) : Int := c.oddity + (if c.exp % 2 = 1 ∧ c.sign = -1 then 4 else 0)
def oddVM (L : List Con) : Int := sumN (fun k => oddW (at_ L k)) L.length % 8
theorem sumN_add (f g : Nat → Int) (n : Nat) : sumN (fun k => f k + g k) n = sumN f n + sumN g n := by
  induction n with
  | zero => rfl
  | succ n ih => simp only [sumN, ih]; omega
theorem sumN_ind (a : Nat) (c : Int) (n : Nat) : sumN (fun k => if k = a then c else 0) n = if a < n then c else 0 := by
  induction n with
  | zero => simp [sumN]
  | succ n ih =>
    simp only [sumN, ih]
    by_cases h1 : a < n
    · rw [if_pos h1, if_neg (by omega), if_pos (by omega)]; omega
    · by_cases h2 : n = a
      · rw [if_neg h1, if_pos h2, if_pos (by omega)]; omega
      · rw [if_neg h1, if_neg h2, if_neg (by omega)]; omega
theorem sumN_mod {f g d : Nat → Int} : ∀ {n : Nat}, (∀ k, k < n → (f k - g k - 4 * d k) % 8 = 0) → (sumN f n - sumN g n - 4 * sumN d n) % 8 = 0
  | 0, _ => rfl
  | n + 1, h => by
    have h1 := h n (by omega)
    have ih := sumN_mod (f := f) (g := g) (d := d) (n := n) (fun k hk => h k (by omega))
    simp only [sumN]
    omega
def expB (L : List Con) (k : Nat) : Int := if (at_ L k).exp % 2 = 1 then 1 else 0
/- the change at k, in fours -/
def chg (L : List Con) (i k : Nat) : Int := (if k = i then expB L i else 0) + (if k = i - 1 then expB L (i - 1) else 0) + (if hitB L i k = true then 1 else 0)
theorem sgn4 (e s : Int) (hs : s = 1 ∨ s = -1) (b : Bool) : ((if e % 2 = 1 ∧ (bif b then -s else s) = -1 then (4 : Int) else 0) - (if e % 2 = 1 ∧ s = -1 then (4 : Int) else 0) - 4 * (if b = true then (if e % 2 = 1 then 1 else 0) else 0)) % 8 = 0 := by
  by_cases he : e % 2 = 1
  · cases b <;> rcases hs with h | h <;> subst h <;> simp [he]
  · cases b <;> simp [he]
theorem chg_at {L : List Con} (hL : okL L) {i k : Nat} (h1 : 1 ≤ i) (h2 : i < L.length) (hk : k < L.length) : (oddW (at_ (stepM L i) k) - oddW (at_ L k) - 4 * chg L i k) % 8 = 0 := by
  have ho := (hL.at hk).2.2.2
  have hsg := (hL.at hk).2.2.1
  rw [step_at h1 h2 hk]
  unfold oddW stepC chg
  simp only
  have hexp : ∀ e : Int, (if k = i then expB L i else 0) + (if k = i - 1 then expB L (i - 1) else 0) = (if (k == i || k == i - 1) = true then expB L k else 0) := by
    intro _
    by_cases e1 : k = i
    · subst e1; rw [if_pos rfl, if_neg (by omega)]; simp
    · by_cases e2 : k = i - 1
      · subst e2; rw [if_neg e1, if_pos rfl]; simp
      · rw [if_neg e1, if_neg e2]; simp [e1, e2]
  rw [hexp 0]
  have hd : ∀ b : Bool, ((bif b then ((at_ L k).oddity + 4) % 8 else (at_ L k).oddity) - (at_ L k).oddity - 4 * (if b = true then 1 else 0)) % 8 = 0 := by
    intro b; cases b
    · simp
    · simp only [cond_true, if_true]; omega
  have hs := fun b => sgn4 (at_ L k).exp (at_ L k).sign hsg b
  have a1 := hd (hitB L i k)
  have a2 := hs (k == i || k == i - 1)
  unfold expB
  omega
theorem odd_step {L : List Con} (hL : okL L) {i : Nat} (h1 : 1 ≤ i) (h2 : i < L.length) (hl : linkM L i = true) : oddVM (stepM L i) = oddVM L := by
  have hm := sumN_mod (f := fun k => oddW (at_ (stepM L i) k)) (g := fun k => oddW (at_ L k)) (d := chg L i) (n := L.length) (fun k hk => chg_at hL h1 h2 hk)
  have b1 := part0 (L := L) (by omega) ((i : Int) - 1)
  have b2 := part0 (L := L) (by omega) (i : Int)
  have e0 : ((i - 1 : Nat) : Int) = (i : Int) - 1 := by omega
  have pA : 0 < (partM L ((i : Int) - 1)).length ↔ oddB L (i - 1) = true := by
    rw [← e0]
    constructor
    · intro h
      cases ho : oddB L (i - 1) with
      | true => rfl
      | false => rw [partM_even (fun h => by rw [h.2] at ho; cases ho)] at h; simp at h
    · intro h; exact pos_of_mem (partM_odd (by omega) h).2
  have pB : 0 < (partM L (i : Int)).length ↔ oddB L i = true := by
    constructor
    · intro h
      cases ho : oddB L i with
      | true => rfl
      | false => rw [partM_even (fun h => by rw [h.2] at ho; cases ho)] at h; simp at h
    · intro h; exact pos_of_mem (partM_odd h2 h).2
  -- the number of oddities that change
  have hits : ∀ c : Int, (∀ k, k < L.length → (if hitB L i k = true then (1 : Int) else 0) = (if k = ((partM L ((i : Int) - 1)).getD 0 0).toNat then (if oddB L (i - 1) = true then 1 else 0) else 0) + (if k = ((partM L (i : Int)).getD 0 0).toNat then c else 0)) →
      sumN (chg L i) L.length = expB L i + expB L (i - 1) + (if oddB L (i - 1) = true then 1 else 0) + c := by
    intro c hc
    have e : ∀ n, n ≤ L.length → sumN (chg L i) n = sumN (fun k => ((if k = i then expB L i else 0) + (if k = i - 1 then expB L (i - 1) else 0)) + ((if k = ((partM L ((i : Int) - 1)).getD 0 0).toNat then (if oddB L (i - 1) = true then 1 else 0) else 0) + (if k = ((partM L (i : Int)).getD 0 0).toNat then c else 0))) n := by
      intro n
      induction n with
      | zero => intro _; rfl
      | succ n ih =>
        intro hn
        simp only [sumN]
        rw [ih (by omega)]
        unfold chg
        rw [hc n (by omega)]
    have f1 : i - 1 < L.length := by omega
    have f2 : ((partM L ((i : Int) - 1)).getD 0 0).toNat < L.length := by omega
    have f3 : ((partM L (i : Int)).getD 0 0).toNat < L.length := by omega
    rw [e _ (Nat.le_refl _), sumN_add, sumN_add, sumN_add, sumN_ind, sumN_ind, sumN_ind, sumN_ind, if_pos h2, if_pos f1, if_pos f2, if_pos f3]
    omega
  have fin : ∀ m : Int, sumN (chg L i) L.length = 2 * m → oddVM (stepM L i) = oddVM L := by
    intro m hc
    unfold oddVM
    rw [stepM_len]
    rw [hc] at hm
    omega
  have hp : ∀ k, (((partM L ((i : Int) - 1)).getD 0 0).toNat == k) = decide (k = ((partM L ((i : Int) - 1)).getD 0 0).toNat) := by
    intro k; rw [Bool.eq_iff_iff, beq_iff_eq, decide_eq_true_eq]; exact eq_comm
  have hq : ∀ k, (((partM L (i : Int)).getD 0 0).toNat == k) = decide (k = ((partM L (i : Int)).getD 0 0).toNat) := by
    intro k; rw [Bool.eq_iff_iff, beq_iff_eq, decide_eq_true_eq]; exact eq_comm
  have hit : ∀ k, hitB L i k = ((oddB L (i - 1) && decide (k = ((partM L ((i : Int) - 1)).getD 0 0).toNat)) || (oddB L i && decide (k = ((partM L (i : Int)).getD 0 0).toNat))) := by
    intro k
    unfold hitB
    rw [hp, hq]
    have dA : decide (0 < (partM L ((i : Int) - 1)).length) = oddB L (i - 1) := by rw [Bool.eq_iff_iff, decide_eq_true_eq]; exact pA
    have dB : decide (0 < (partM L (i : Int)).length) = oddB L i := by rw [Bool.eq_iff_iff, decide_eq_true_eq]; exact pB
    rw [dA, dB]
  unfold linkM at hl
  cases d1 : ((at_ L i).exp - (at_ L (i - 1)).exp == 1) with
  | true =>
    rw [d1] at hl
    have d1 := beq_iff_eq.1 d1
    have hx : expB L i + expB L (i - 1) = 1 := by unfold expB; split <;> split <;> omega
    cases oA : oddB L (i - 1) with
    | true =>
      have oA' : (at_ L (i - 1)).odd = true := oA
      cases oB : oddB L i with
      | true =>
        have hj : joinB L i = true := by
          unfold joinB
          rw [oA', decide_eq_true (by omega), decide_eq_true (by omega)]; rfl
        have ep := join_part h2 oB hj
        refine fin 1 ?_
        rw [hits 0 (fun k _ => ?_), oA]
        · simp; omega
        · rw [hit, oA, oB, ep]; simp
      | false =>
        refine fin 1 ?_
        rw [hits 0 (fun k _ => ?_), oA]
        · simp; omega
        · rw [hit, oA, oB]; simp
    | false =>
      have oA' : (at_ L (i - 1)).odd = false := oA
      cases oB : oddB L i with
      | true =>
        refine fin 1 ?_
        rw [hits 1 (fun k _ => ?_), oA]
        · simp; omega
        · rw [hit, oA, oB]; simp
      | false =>
        have oB' : (at_ L i).odd = false := oB
        rw [oA', oB'] at hl; cases hl
  | false =>
    rw [d1] at hl
    cases d2 : ((at_ L i).exp - (at_ L (i - 1)).exp == 2) with
    | false => rw [d2] at hl; cases hl
    | true =>
      rw [d2] at hl
      simp only [cond_false, cond_true, Bool.and_eq_true] at hl
      have d2 := beq_iff_eq.1 d2
      have hx : expB L i = expB L (i - 1) := by unfold expB; split <;> split <;> omega
      have oA : oddB L (i - 1) = true := hl.1
      have oB : oddB L i = true := hl.2
      have hj : joinB L i = false := by
        unfold joinB
        rw [decide_eq_false (p := (at_ L (i - 1)).exp = (at_ L i).exp - 1) (by omega)]; simp
      have hne := apart_part h2 oB hj (by omega) oA
      refine fin (expB L i + 1) ?_
      rw [hits 1 (fun k _ => ?_), oA]
      · simp; omega
      · rw [hit, oA, oB]
        simp only [Bool.true_and, if_true]
        by_cases e1 : k = ((partM L ((i : Int) - 1)).getD 0 0).toNat
        · have e2 : ¬ k = ((partM L (i : Int)).getD 0 0).toNat := by omega
          rw [decide_eq_true e1, decide_eq_false e2, if_pos e1, if_neg e2]; rfl
        · rw [decide_eq_false e1, if_neg e1]
          by_cases e2 : k = ((partM L (i : Int)).getD 0 0).toNat
          · rw [decide_eq_true e2, if_pos e2]; rfl
          · rw [decide_eq_false e2, if_neg e2]; rfl
end Go.Proofs.YtcfdaddablojlaaGreatDoor.S

/- Oddity and Walk, of package train and of the reference. -/
set_option linter.unusedSimpArgs false
set_option linter.unusedVariables false
namespace Go.Proofs.YtcfdaddablojlaaGreatDoor.S
open Go.QfSy Go.RowKit

def bO (v : Bool) (L : List Con) : Int := bif v then oddVM L else 0
theorem okC_at {L : List Con} (hL : okL L) (k : Nat) : (0 ≤ (at_ L k).exp ∧ (at_ L k).exp ≤ 1000) ∧ (0 ≤ (at_ L k).oddity ∧ (at_ L k).oddity ≤ 7) := by
  rcases Nat.lt_or_ge k L.length with h | h
  · exact ⟨(hL.at h).1, (hL.at h).2.2.2⟩
  · have e : at_ L k = Con.zero := by simp [at_, List.getD_eq_getElem?_getD, List.getElem?_eq_none h]
    rw [e]; decide
theorem oddW_b {L : List Con} (hL : okL L) (k : Nat) : 0 ≤ oddW (at_ L k) ∧ oddW (at_ L k) ≤ 11 := by
  have := (okC_at hL k).2
  unfold oddW
  split <;> omega
theorem oddS_b {L : List Con} (hL : okL L) : ∀ {k : Nat}, k ≤ L.length → 0 ≤ sumN (fun j => oddW (at_ L j)) k ∧ sumN (fun j => oddW (at_ L j)) k ≤ 11 * k
  | 0, _ => by simp [sumN]
  | k + 1, h => by
    have ih := oddS_b hL (k := k) (by omega)
    have := oddW_b hL k
    simp only [sumN]
    omega
theorem oddW_4 {c : Con} (h1 : c.exp % 2 = 1) (h2 : c.sign = -1) : oddW c = c.oddity + 4 := by unfold oddW; rw [if_pos ⟨h1, h2⟩]
theorem oddW_0 {c : Con} (h : ¬ (c.exp % 2 = 1 ∧ c.sign = -1)) : oddW c = c.oddity := by unfold oddW; rw [if_neg h]; omega
noncomputable def odAnn (L : List Con) : Ann := ⟨⟨[(4, .int .i64 0), (16, (roC L).av), (17, .vint .i64 L.length), (18, .int .i64 0)], [], 1030⟩, none, fun _ => (.exit 0, ⟨[(4, .vint .i64 (sumN (fun j => oddW (at_ L j)) L.length))], [], 1030⟩)⟩
noncomputable def wkB (L : List Con) (a : Int) : Bool := decide (1 ≤ a) && (decide (a < (L.length : Int)) && linkM L a.toNat)
theorem wkB_1 {L : List Con} {a : Int} (h : ¬ 1 ≤ a) : wkB L a = false := by unfold wkB; rw [decide_eq_false h]; rfl
theorem wkB_2 {L : List Con} {a : Int} (h : ¬ a < (L.length : Int)) : wkB L a = false := by unfold wkB; rw [decide_eq_false h]; simp
theorem wkB_3 {L : List Con} {a : Int} (h : linkM L a.toNat = false) : wkB L a = false := by unfold wkB; rw [h]; simp
theorem wkB_4 {L : List Con} {a : Int} (h1 : 1 ≤ a) (h2 : a < (L.length : Int)) (h : linkM L a.toNat = true) : wkB L a = true := by unfold wkB; rw [decide_eq_true h1, decide_eq_true h2, h]; rfl
noncomputable def entsHT : List OEnt := [
  ⟨38, [], fun A => match A with
    | [.agg [.int .i64 p, .sl n 5 row]] => some (.bool (val2M p (consR n row)), [(∀ i, i < n → row i = (Con.ofR (row i)).rvs) ∧ n ≤ 1000])
    | _ => none⟩,
  ⟨35, [], fun A => match A with
    | [.agg [.int .i64 p, .sl n 5 row]] => some (.bool (fusM p (consR n row)), [(∀ i, i < n → row i = (Con.ofR (row i)).rvs) ∧ n ≤ 1000])
    | _ => none⟩,
  ⟨53, [], fun A => match A with
    | [.agg [.int .i64 p, .sl n 5 row], .int .i64 a] => some (.bool (linkM (consR n row) a.toNat), [(∀ i, i < n → row i = (Con.ofR (row i)).rvs) ∧ okL (consR n row) ∧ 1 ≤ a ∧ a < (n : Int)])
    | _ => none⟩,
  ⟨54, [], fun A => match A with
    | [.agg [.int .i64 p, .sl n 5 row], .int .i64 a] => some (.agg [.int .i64 2, roC (stepM (consR n row) a.toNat)], [(∀ i, i < n → row i = (Con.ofR (row i)).rvs) ∧ p = 2 ∧ okL (consR n row) ∧ 1 ≤ a ∧ a < (n : Int)])
    | _ => none⟩]
theorem entsHT_ok : ∀ e ∈ entsHT, EntOk Tryz.prog e := by
  intro e he
  simp only [entsHT, List.mem_cons, List.not_mem_nil, or_false] at he
  rcases he with rfl | rfl | rfl | rfl
  all_goals
    intro A R ms h hm
    simp only at h
    split at h
    all_goals first | (cases h; done) | cases h
  · obtain ⟨h1, h2⟩ := all_one hm
    exact PureC.imp (tvalid_pure _ _ (by rw [consR_len]; exact h2)) (.cons (.agg (.cons .same (.cons (.con h1) .nil))) .nil)
  · obtain ⟨h1, h2⟩ := all_one hm
    exact PureC.imp (tfused_pure _ _ (by rw [consR_len]; exact h2)) (.cons (.agg (.cons .same (.cons (.con h1) .nil))) .nil)
  · obtain ⟨h1, h3, h4, h5⟩ := all_one hm
    rename_i p _ _ a
    have e : ((a.toNat : Nat) : Int) = a := by omega
    have := tlinked_pure p _ a.toNat h3 (by omega) (by rw [consR_len]; omega)
    rw [e] at this
    exact PureC.imp this (.cons (.agg (.cons .same (.cons (.con h1) .nil))) (.cons .same .nil))
  · obtain ⟨h1, h2, h3, h4, h5⟩ := all_one hm
    rename_i a
    subst h2
    have e : ((a.toNat : Nat) : Int) = a := by omega
    have := twalk_pure _ a.toNat h3 (by omega) (by rw [consR_len]; omega)
    rw [e] at this
    exact PureC.imp this (.cons (.agg (.cons .same (.cons (.con h1) .nil))) (.cons .same .nil))
noncomputable def entsHR : List OEnt := [
  ⟨39, [], fun A => match A with
    | [.agg [.int .i64 p, .sl n 5 row]] => some (.bool (val2M p (consR n row)), [(∀ i, i < n → row i = (Con.ofR (row i)).rvs) ∧ n ≤ 1000])
    | _ => none⟩,
  ⟨40, [], fun A => match A with
    | [.agg [.int .i64 p, .sl n 5 row]] => some (.bool (fusM p (consR n row)), [(∀ i, i < n → row i = (Con.ofR (row i)).rvs) ∧ n ≤ 1000])
    | _ => none⟩,
  ⟨55, [], fun A => match A with
    | [.sl n 5 row, .int .i64 a] => some (.bool (linkM (consR n row) a.toNat), [(∀ i, i < n → row i = (Con.ofR (row i)).rvs) ∧ okL (consR n row) ∧ 1 ≤ a ∧ a < (n : Int)])
    | _ => none⟩,
  ⟨56, [], fun A => match A with
    | [.agg [.int .i64 p, .sl n 5 row], .int .i64 a] => some (.agg [.int .i64 2, roC (stepM (consR n row) a.toNat)], [(∀ i, i < n → row i = (Con.ofR (row i)).rvs) ∧ p = 2 ∧ okL (consR n row) ∧ 1 ≤ a ∧ a < (n : Int)])
    | _ => none⟩]
theorem entsHR_ok : ∀ e ∈ entsHR, EntOk Tryz.prog e := by
  intro e he
  simp only [entsHR, List.mem_cons, List.not_mem_nil, or_false] at he
  rcases he with rfl | rfl | rfl | rfl
  all_goals
    intro A R ms h hm
    simp only at h
    split at h
    all_goals first | (cases h; done) | cases h
  · obtain ⟨h1, h2⟩ := all_one hm
    exact PureC.imp (val2_pure _ _ (by rw [consR_len]; exact h2)) (.cons (.agg (.cons .same (.cons (.con h1) .nil))) .nil)
  · obtain ⟨h1, h2⟩ := all_one hm
    exact PureC.imp (rfused_pure _ _ (by rw [consR_len]; exact h2)) (.cons (.agg (.cons .same (.cons (.con h1) .nil))) .nil)
  · obtain ⟨h1, h3, h4, h5⟩ := all_one hm
    rename_i a
    have e : ((a.toNat : Nat) : Int) = a := by omega
    have := linked_pure _ a.toNat h3 (by omega) (by rw [consR_len]; omega)
    rw [e] at this
    exact PureC.imp this (.cons (.con h1) (.cons .same .nil))
  · obtain ⟨h1, h2, h3, h4, h5⟩ := all_one hm
    rename_i a
    subst h2
    have e : ((a.toNat : Nat) : Int) = a := by omega
    have := step_pure _ a.toNat h3 (by omega) (by rw [consR_len]; omega)
    rw [e] at this
    exact PureC.imp this (.cons (.agg (.cons .same (.cons (.con h1) .nil))) (.cons .same .nil))
set_option maxRecDepth 100000 in
theorem tod_loop (L : List Con) (hL : okL L) : AnnOk Tryz.prog EV.ng (Nat.max 1 Tryz.f27.ntmps) (bodyAt Tryz.f27 [0, 1, 0, 1, 1, 1]) (odAnn L) := by
  refine ann_of evOk (callF_ok evOk (noOrc_ok _ _) 8) none_ann (by kernel_rfl) (by kernel_rfl) (fun i : Nat × Int => (fun (k : Nat) (n : Int) => (⟨[(4, .vint .i64 n), (16, (roC L).av), (17, .vint .i64 L.length), (18, .vint .i64 (k : Int))], [], 1030⟩ : St)) i.1 i.2) (fun i : Nat × Int => (fun (k : Nat) (n : Int) => (L.length - k : Nat)) i.1 i.2) (fun (d : Bool) (i : Nat × Int) => (fun (k : Nat) (n : Int) => (k ≤ L.length ∧ n = sumN (fun j => oddW (at_ L j)) k : Prop)) i.1 i.2) ?_ ?_
  · intro d hd
    exact ⟨(0, 0), [(0 : Int) = (0 : Int), L.length = L.length ∧ (fun i => (L.getD i Con.zero).rvs) = fun i => (L.getD i Con.zero).rvs, (↑L.length : Int) = (↑L.length : Int), (0 : Int) = (↑(0 : Nat) : Int)], by kernel_rfl, (by refine ⟨?_, ?_, ?_, (?_ : (0 : Int) = (↑(0 : Nat) : Int))⟩ <;> (first | rfl | assumption | omega | simp_all)), (by exact ⟨Nat.zero_le _, rfl⟩)⟩
  · rintro d hd ⟨k, n⟩ hI
    cases d
    · -- d = false
      exact Bool.noConfusion (show false = true from hd)
    · -- d = true
      obtain ⟨hk, hs⟩ := hI
      have hk : k ≤ L.length := hk
      have hs : n = sumN (fun j => oddW (at_ L j)) k := hs
      have hl := hL.1
      have ek : IntKind.i64.wrap ((k : Int) + 1) = ((k + 1 : Nat) : Int) := by rw [w64 (by omega) (by omega)]; omega
      have hb := oddS_b hL hk
      have hc := okC_at hL k
      have e1 : IntKind.i64.wrap (n + (L.getD k Con.zero).oddity) = n + (L.getD k Con.zero).oddity := by simp only [at_] at hc; rw [hs]; exact w64 (by omega) (by omega)
      refine Or.elim (Bool.eq_false_or_eq_true (decide ((↑k : Int) < (↑L.length : Int)))) (fun d1 => Or.elim (Bool.eq_false_or_eq_true ((L.getD k Con.zero).exp.tmod (2 : Int) == (1 : Int))) (fun d2 => Or.elim (Bool.eq_false_or_eq_true ((L.getD k Con.zero).sign == (-1 : Int))) (fun d3 => ⟨[true, true, true], .inl ⟨(k + 1, n + oddW (at_ L k)), [IntKind.i64.wrap (IntKind.i64.wrap (n + (L.getD k Con.zero).oddity) + (4 : Int)) = n + oddW (at_ L k), L.length = L.length ∧ (fun i => (L.getD i Con.zero).rvs) = fun i => (L.getD i Con.zero).rvs, (↑L.length : Int) = (↑L.length : Int), IntKind.i64.wrap ((↑k : Int) + (1 : Int)) = (↑(k + (1 : Nat)) : Int), Dec ((L.getD k Con.zero).sign == (-1 : Int)) true, Dec ((L.getD k Con.zero).exp.tmod (2 : Int) == (1 : Int)) true, (2 : Int) ≠ (0 : Int), (0 : Int) ≤ (↑k : Int) ∧ (↑k : Int) < (↑L.length : Int), Dec (decide ((↑k : Int) < (↑L.length : Int))) true], by kernel_rfl, ⟨?_, ?_, ?_, ?_, d3, d2, ?_, ?_, d1⟩, MuG.out ?_, InG.out ?_⟩⟩)
           (fun d3 => ⟨[true, true, false], .inl ⟨(k + 1, n + oddW (at_ L k)), [IntKind.i64.wrap (n + (L.getD k Con.zero).oddity) = n + oddW (at_ L k), L.length = L.length ∧ (fun i => (L.getD i Con.zero).rvs) = fun i => (L.getD i Con.zero).rvs, (↑L.length : Int) = (↑L.length : Int), IntKind.i64.wrap ((↑k : Int) + (1 : Int)) = (↑(k + (1 : Nat)) : Int), Dec ((L.getD k Con.zero).sign == (-1 : Int)) false, Dec ((L.getD k Con.zero).exp.tmod (2 : Int) == (1 : Int)) true, (2 : Int) ≠ (0 : Int), (0 : Int) ≤ (↑k : Int) ∧ (↑k : Int) < (↑L.length : Int), Dec (decide ((↑k : Int) < (↑L.length : Int))) true], by kernel_rfl, ⟨?_, ?_, ?_, ?_, d3, d2, ?_, ?_, d1⟩, MuG.out ?_, InG.out ?_⟩⟩))
           (fun d2 => ⟨[true, false], .inl ⟨(k + 1, n + oddW (at_ L k)), [IntKind.i64.wrap (n + (L.getD k Con.zero).oddity) = n + oddW (at_ L k), L.length = L.length ∧ (fun i => (L.getD i Con.zero).rvs) = fun i => (L.getD i Con.zero).rvs, (↑L.length : Int) = (↑L.length : Int), IntKind.i64.wrap ((↑k : Int) + (1 : Int)) = (↑(k + (1 : Nat)) : Int), Dec ((L.getD k Con.zero).exp.tmod (2 : Int) == (1 : Int)) false, (2 : Int) ≠ (0 : Int), (0 : Int) ≤ (↑k : Int) ∧ (↑k : Int) < (↑L.length : Int), Dec (decide ((↑k : Int) < (↑L.length : Int))) true], by kernel_rfl, ⟨?_, ?_, ?_, ?_, d2, ?_, ?_, d1⟩, MuG.out ?_, InG.out ?_⟩⟩))
           (fun d1 => ⟨[false], .inr ⟨[n = sumN (fun j => oddW (at_ L j)) L.length, Dec (decide ((↑k : Int) < (↑L.length : Int))) false], by kernel_rfl, ⟨?_, d1⟩, rfl⟩⟩)
      all_goals first | (refine MuG.mk ?_; (simp only [decide_eq_true_eq] at *; show L.length - (k + 1) < L.length - k; omega)) | (refine InG.mk ?_; (simp only [decide_eq_true_eq] at *; exact ⟨by omega, by rw [hs]; rfl⟩)) | (refine CtG.mk ?_; (simp_all)) | (first | (with_reducible rfl) | exact ⟨rfl, rfl⟩ | (exact (by decide : (2 : Int) ≠ 0)) | ((try simp only [at_] at hc) <;> (try simp only [ek, at_, Int.toNat_natCast, decide_eq_true_eq, decide_eq_false_iff_not, beq_iff_eq, beq_eq_false_iff_ne, ne_eq] at *) <;> first | omega | (rw [e1, w64 (by omega) (by omega)]; rw [oddW_4 (by rw [← Int.tmod_eq_emod_of_nonneg (by omega)]; assumption) (by assumption)]; omega) | (rw [e1]; rw [oddW_0 (by rw [← Int.tmod_eq_emod_of_nonneg (by omega)]; first | (exact fun h => absurd h.1 (by assumption)) | (exact fun h => absurd h.2 (by assumption)))]) | (have e : k = L.length := (by omega); subst e; rw [hs]; done)))
set_option maxRecDepth 100000 in
theorem todd_yes (p : Int) (L : List Con) (hL : okL L) (hv : shV p L = true) : PureC Tryz.prog [] 27 [.agg [.int .i64 p, roC L]] (.tup [.int .i64 (oddVM L), .bool true]) := by
  have hl := hL.1; have hs := oddS_b hL (Nat.le_refl L.length)
  have rr := fun (tp : List Bool) (ms : List Prop) h hm => pure_run evOk (callF_ok evOk (orcOf_ok entsHT_ok) 8) Tryz.func27 (A := [.agg [.int .i64 p, roC L]]) (N := Nat.max 1 Tryz.f27.ntmps) rfl (one_ann (tod_loop L hL)) rfl rfl evNg (tabs := []) (R := .tup [.int .i64 (oddVM L), .bool true]) (tp := tp) (ms := ms) h hm
  refine Or.elim (Bool.eq_false_or_eq_true (val2M p (consR L.length fun i => (L.getD i Con.zero).rvs))) (fun d1 => rr [false] [(sumN (fun j => oddW (at_ L j)) L.length).tmod (8 : Int) = oddVM L, true = true, (8 : Int) ≠ (0 : Int), L.length = L.length ∧ (fun i => (L.getD i Con.zero).rvs) = fun i => (L.getD i Con.zero).rvs, (↑L.length : Int) = (↑L.length : Int), Dec (!val2M p (consR L.length fun i => (L.getD i Con.zero).rvs)) false, (∀ (i : Nat), i < L.length → (fun i => (L.getD i Con.zero).rvs) i = (Con.ofR ((fun i => (L.getD i Con.zero).rvs) i)).rvs) ∧ L.length ≤ (1000 : Nat)] (by kernel_rfl) ⟨?_, ?_, ?_, ?_, ?_, (dN d1), (?_ : (∀ (i : Nat), i < L.length → (fun i => (L.getD i Con.zero).rvs) i = (Con.ofR ((fun i => (L.getD i Con.zero).rvs) i)).rvs) ∧ L.length ≤ (1000 : Nat))⟩)
           (fun d1 => Or.elim (Bool.eq_false_or_eq_true (fusM p (consR L.length fun i => (L.getD i Con.zero).rvs))) (fun d2 => rr [true, false] [(sumN (fun j => oddW (at_ L j)) L.length).tmod (8 : Int) = oddVM L, true = true, (8 : Int) ≠ (0 : Int), L.length = L.length ∧ (fun i => (L.getD i Con.zero).rvs) = fun i => (L.getD i Con.zero).rvs, (↑L.length : Int) = (↑L.length : Int), Dec (!fusM p (consR L.length fun i => (L.getD i Con.zero).rvs)) false, (∀ (i : Nat), i < L.length → (fun i => (L.getD i Con.zero).rvs) i = (Con.ofR ((fun i => (L.getD i Con.zero).rvs) i)).rvs) ∧ L.length ≤ (1000 : Nat), Dec (!val2M p (consR L.length fun i => (L.getD i Con.zero).rvs)) true, (∀ (i : Nat), i < L.length → (fun i => (L.getD i Con.zero).rvs) i = (Con.ofR ((fun i => (L.getD i Con.zero).rvs) i)).rvs) ∧ L.length ≤ (1000 : Nat)] (by kernel_rfl) ⟨?_, ?_, ?_, ?_, ?_, (dN d2), ?_, (dN d1), (?_ : (∀ (i : Nat), i < L.length → (fun i => (L.getD i Con.zero).rvs) i = (Con.ofR ((fun i => (L.getD i Con.zero).rvs) i)).rvs) ∧ L.length ≤ (1000 : Nat))⟩)
           (fun d2 => CtG.no ?_))
  all_goals first | (refine CtG.mk ?_; (rw [consR_ro] at d1 d2; unfold shV at hv; rw [d1, d2] at hv; cases hv)) | (first | (with_reducible rfl) | exact ⟨rfl, rfl⟩ | exact ⟨fun _ _ => rfl, hl⟩ | (exact (by decide : (8 : Int) ≠ 0)) | (exact Int.tmod_eq_emod_of_nonneg hs.1))
set_option maxRecDepth 100000 in
theorem todd_no (p : Int) (L : List Con) (hl : L.length ≤ 1000) (hv : val2M p L = false) (hv2 : fusM p L = false) : PureC Tryz.prog [] 27 [.agg [.int .i64 p, roC L]] (.tup [.int .i64 0, .bool false]) := by
  have k1 : val2M p (consR L.length fun i => (L.getD i Con.zero).rvs) = false := (by rw [consR_ro]; exact hv); have k2 : fusM p (consR L.length fun i => (L.getD i Con.zero).rvs) = false := (by rw [consR_ro]; exact hv2)
  have rr := fun (tp : List Bool) (ms : List Prop) h hm => pure_run evOk (callF_ok evOk (orcOf_ok entsHT_ok) 8) Tryz.func27 (A := [.agg [.int .i64 p, roC L]]) rfl none_ann rfl rfl evNg (tabs := []) (R := .tup [.int .i64 0, .bool false]) (tp := tp) (ms := ms) h hm
  refine rr [true, true] [(0 : Int) = (0 : Int), false = false, Dec (!fusM p (consR L.length fun i => (L.getD i Con.zero).rvs)) true, (∀ (i : Nat), i < L.length → (fun i => (L.getD i Con.zero).rvs) i = (Con.ofR ((fun i => (L.getD i Con.zero).rvs) i)).rvs) ∧ L.length ≤ (1000 : Nat), Dec (!val2M p (consR L.length fun i => (L.getD i Con.zero).rvs)) true, (∀ (i : Nat), i < L.length → (fun i => (L.getD i Con.zero).rvs) i = (Con.ofR ((fun i => (L.getD i Con.zero).rvs) i)).rvs) ∧ L.length ≤ (1000 : Nat)] (by kernel_rfl) ⟨?_, ?_, (dN k2), ?_, (dN k1), (?_ : (∀ (i : Nat), i < L.length → (fun i => (L.getD i Con.zero).rvs) i = (Con.ofR ((fun i => (L.getD i Con.zero).rvs) i)).rvs) ∧ L.length ≤ (1000 : Nat))⟩
  all_goals first | (first | (with_reducible rfl) | exact ⟨rfl, rfl⟩ | exact ⟨fun _ _ => rfl, hl⟩)
theorem todd_pure (p : Int) (L : List Con) (hn : L.length ≤ 1000) : PureC Tryz.prog [] 27 [.agg [.int .i64 p, roC L]] (.tup [.int .i64 (bO (shV p L) L), .bool (shV p L)]) := by
  cases h : shV p L with
  | true => exact todd_yes p L (shV_ok h) h
  | false =>
    unfold shV at h
    simp only [Bool.or_eq_false_iff] at h
    exact todd_no p L hn h.1 h.2
set_option maxRecDepth 100000 in
theorem rod_loop (L : List Con) (hL : okL L) : AnnOk Tryz.prog EV.ng (Nat.max 1 Tryz.f28.ntmps) (bodyAt Tryz.f28 [0, 1, 0, 1, 1, 1]) (odAnn L) := by
  refine ann_of evOk (callF_ok evOk (noOrc_ok _ _) 8) none_ann (by kernel_rfl) (by kernel_rfl) (fun i : Nat × Int => (fun (k : Nat) (n : Int) => (⟨[(4, .vint .i64 n), (16, (roC L).av), (17, .vint .i64 L.length), (18, .vint .i64 (k : Int))], [], 1030⟩ : St)) i.1 i.2) (fun i : Nat × Int => (fun (k : Nat) (n : Int) => (L.length - k : Nat)) i.1 i.2) (fun (d : Bool) (i : Nat × Int) => (fun (k : Nat) (n : Int) => (k ≤ L.length ∧ n = sumN (fun j => oddW (at_ L j)) k : Prop)) i.1 i.2) ?_ ?_
  · intro d hd
    exact ⟨(0, 0), [(0 : Int) = (0 : Int), L.length = L.length ∧ (fun i => (L.getD i Con.zero).rvs) = fun i => (L.getD i Con.zero).rvs, (↑L.length : Int) = (↑L.length : Int), (0 : Int) = (↑(0 : Nat) : Int)], by kernel_rfl, (by refine ⟨?_, ?_, ?_, (?_ : (0 : Int) = (↑(0 : Nat) : Int))⟩ <;> (first | rfl | assumption | omega | simp_all)), (by exact ⟨Nat.zero_le _, rfl⟩)⟩
  · rintro d hd ⟨k, n⟩ hI
    cases d
    · -- d = false
      exact Bool.noConfusion (show false = true from hd)
    · -- d = true
      obtain ⟨hk, hs⟩ := hI
      have hk : k ≤ L.length := hk
      have hs : n = sumN (fun j => oddW (at_ L j)) k := hs
      have hl := hL.1
      have ek : IntKind.i64.wrap ((k : Int) + 1) = ((k + 1 : Nat) : Int) := by rw [w64 (by omega) (by omega)]; omega
      have hb := oddS_b hL hk
      have hc := okC_at hL k
      have e1 : IntKind.i64.wrap (n + (L.getD k Con.zero).oddity) = n + (L.getD k Con.zero).oddity := by simp only [at_] at hc; rw [hs]; exact w64 (by omega) (by omega)
      refine Or.elim (Bool.eq_false_or_eq_true (decide ((↑k : Int) < (↑L.length : Int)))) (fun d1 => Or.elim (Bool.eq_false_or_eq_true ((L.getD k Con.zero).exp.tmod (2 : Int) == (1 : Int))) (fun d2 => Or.elim (Bool.eq_false_or_eq_true ((L.getD k Con.zero).sign == (-1 : Int))) (fun d3 => ⟨[true, true, true], .inl ⟨(k + 1, n + oddW (at_ L k)), [IntKind.i64.wrap (IntKind.i64.wrap (n + (L.getD k Con.zero).oddity) + (4 : Int)) = n + oddW (at_ L k), L.length = L.length ∧ (fun i => (L.getD i Con.zero).rvs) = fun i => (L.getD i Con.zero).rvs, (↑L.length : Int) = (↑L.length : Int), IntKind.i64.wrap ((↑k : Int) + (1 : Int)) = (↑(k + (1 : Nat)) : Int), Dec ((L.getD k Con.zero).sign == (-1 : Int)) true, Dec ((L.getD k Con.zero).exp.tmod (2 : Int) == (1 : Int)) true, (2 : Int) ≠ (0 : Int), (0 : Int) ≤ (↑k : Int) ∧ (↑k : Int) < (↑L.length : Int), Dec (decide ((↑k : Int) < (↑L.length : Int))) true], by kernel_rfl, ⟨?_, ?_, ?_, ?_, d3, d2, ?_, ?_, d1⟩, MuG.out ?_, InG.out ?_⟩⟩)
           (fun d3 => ⟨[true, true, false], .inl ⟨(k + 1, n + oddW (at_ L k)), [IntKind.i64.wrap (n + (L.getD k Con.zero).oddity) = n + oddW (at_ L k), L.length = L.length ∧ (fun i => (L.getD i Con.zero).rvs) = fun i => (L.getD i Con.zero).rvs, (↑L.length : Int) = (↑L.length : Int), IntKind.i64.wrap ((↑k : Int) + (1 : Int)) = (↑(k + (1 : Nat)) : Int), Dec ((L.getD k Con.zero).sign == (-1 : Int)) false, Dec ((L.getD k Con.zero).exp.tmod (2 : Int) == (1 : Int)) true, (2 : Int) ≠ (0 : Int), (0 : Int) ≤ (↑k : Int) ∧ (↑k : Int) < (↑L.length : Int), Dec (decide ((↑k : Int) < (↑L.length : Int))) true], by kernel_rfl, ⟨?_, ?_, ?_, ?_, d3, d2, ?_, ?_, d1⟩, MuG.out ?_, InG.out ?_⟩⟩))
           (fun d2 => ⟨[true, false], .inl ⟨(k + 1, n + oddW (at_ L k)), [IntKind.i64.wrap (n + (L.getD k Con.zero).oddity) = n + oddW (at_ L k), L.length = L.length ∧ (fun i => (L.getD i Con.zero).rvs) = fun i => (L.getD i Con.zero).rvs, (↑L.length : Int) = (↑L.length : Int), IntKind.i64.wrap ((↑k : Int) + (1 : Int)) = (↑(k + (1 : Nat)) : Int), Dec ((L.getD k Con.zero).exp.tmod (2 : Int) == (1 : Int)) false, (2 : Int) ≠ (0 : Int), (0 : Int) ≤ (↑k : Int) ∧ (↑k : Int) < (↑L.length : Int), Dec (decide ((↑k : Int) < (↑L.length : Int))) true], by kernel_rfl, ⟨?_, ?_, ?_, ?_, d2, ?_, ?_, d1⟩, MuG.out ?_, InG.out ?_⟩⟩))
           (fun d1 => ⟨[false], .inr ⟨[n = sumN (fun j => oddW (at_ L j)) L.length, Dec (decide ((↑k : Int) < (↑L.length : Int))) false], by kernel_rfl, ⟨?_, d1⟩, rfl⟩⟩)
      all_goals first | (refine MuG.mk ?_; (simp only [decide_eq_true_eq] at *; show L.length - (k + 1) < L.length - k; omega)) | (refine InG.mk ?_; (simp only [decide_eq_true_eq] at *; exact ⟨by omega, by rw [hs]; rfl⟩)) | (refine CtG.mk ?_; (simp_all)) | (first | (with_reducible rfl) | exact ⟨rfl, rfl⟩ | (exact (by decide : (2 : Int) ≠ 0)) | ((try simp only [at_] at hc) <;> (try simp only [ek, at_, Int.toNat_natCast, decide_eq_true_eq, decide_eq_false_iff_not, beq_iff_eq, beq_eq_false_iff_ne, ne_eq] at *) <;> first | omega | (rw [e1, w64 (by omega) (by omega)]; rw [oddW_4 (by rw [← Int.tmod_eq_emod_of_nonneg (by omega)]; assumption) (by assumption)]; omega) | (rw [e1]; rw [oddW_0 (by rw [← Int.tmod_eq_emod_of_nonneg (by omega)]; first | (exact fun h => absurd h.1 (by assumption)) | (exact fun h => absurd h.2 (by assumption)))]) | (have e : k = L.length := (by omega); subst e; rw [hs]; done)))
set_option maxRecDepth 100000 in
theorem rodd_yes (p : Int) (L : List Con) (hL : okL L) (hv : shV p L = true) : PureC Tryz.prog [] 28 [.agg [.int .i64 p, roC L]] (.tup [.int .i64 (oddVM L), .bool true]) := by
  have hl := hL.1; have hs := oddS_b hL (Nat.le_refl L.length)
  have rr := fun (tp : List Bool) (ms : List Prop) h hm => pure_run evOk (callF_ok evOk (orcOf_ok entsHR_ok) 8) Tryz.func28 (A := [.agg [.int .i64 p, roC L]]) (N := Nat.max 1 Tryz.f28.ntmps) rfl (one_ann (rod_loop L hL)) rfl rfl evNg (tabs := []) (R := .tup [.int .i64 (oddVM L), .bool true]) (tp := tp) (ms := ms) h hm
  refine Or.elim (Bool.eq_false_or_eq_true (val2M p (consR L.length fun i => (L.getD i Con.zero).rvs))) (fun d1 => rr [false] [(sumN (fun j => oddW (at_ L j)) L.length).tmod (8 : Int) = oddVM L, true = true, (8 : Int) ≠ (0 : Int), L.length = L.length ∧ (fun i => (L.getD i Con.zero).rvs) = fun i => (L.getD i Con.zero).rvs, (↑L.length : Int) = (↑L.length : Int), Dec (!val2M p (consR L.length fun i => (L.getD i Con.zero).rvs)) false, (∀ (i : Nat), i < L.length → (fun i => (L.getD i Con.zero).rvs) i = (Con.ofR ((fun i => (L.getD i Con.zero).rvs) i)).rvs) ∧ L.length ≤ (1000 : Nat)] (by kernel_rfl) ⟨?_, ?_, ?_, ?_, ?_, (dN d1), (?_ : (∀ (i : Nat), i < L.length → (fun i => (L.getD i Con.zero).rvs) i = (Con.ofR ((fun i => (L.getD i Con.zero).rvs) i)).rvs) ∧ L.length ≤ (1000 : Nat))⟩)
           (fun d1 => Or.elim (Bool.eq_false_or_eq_true (fusM p (consR L.length fun i => (L.getD i Con.zero).rvs))) (fun d2 => rr [true, false] [(sumN (fun j => oddW (at_ L j)) L.length).tmod (8 : Int) = oddVM L, true = true, (8 : Int) ≠ (0 : Int), L.length = L.length ∧ (fun i => (L.getD i Con.zero).rvs) = fun i => (L.getD i Con.zero).rvs, (↑L.length : Int) = (↑L.length : Int), Dec (!fusM p (consR L.length fun i => (L.getD i Con.zero).rvs)) false, (∀ (i : Nat), i < L.length → (fun i => (L.getD i Con.zero).rvs) i = (Con.ofR ((fun i => (L.getD i Con.zero).rvs) i)).rvs) ∧ L.length ≤ (1000 : Nat), Dec (!val2M p (consR L.length fun i => (L.getD i Con.zero).rvs)) true, (∀ (i : Nat), i < L.length → (fun i => (L.getD i Con.zero).rvs) i = (Con.ofR ((fun i => (L.getD i Con.zero).rvs) i)).rvs) ∧ L.length ≤ (1000 : Nat)] (by kernel_rfl) ⟨?_, ?_, ?_, ?_, ?_, (dN d2), ?_, (dN d1), (?_ : (∀ (i : Nat), i < L.length → (fun i => (L.getD i Con.zero).rvs) i = (Con.ofR ((fun i => (L.getD i Con.zero).rvs) i)).rvs) ∧ L.length ≤ (1000 : Nat))⟩)
           (fun d2 => CtG.no ?_))
  all_goals first | (refine CtG.mk ?_; (rw [consR_ro] at d1 d2; unfold shV at hv; rw [d1, d2] at hv; cases hv)) | (first | (with_reducible rfl) | exact ⟨rfl, rfl⟩ | exact ⟨fun _ _ => rfl, hl⟩ | (exact (by decide : (8 : Int) ≠ 0)) | (exact Int.tmod_eq_emod_of_nonneg hs.1))
set_option maxRecDepth 100000 in
theorem rodd_no (p : Int) (L : List Con) (hl : L.length ≤ 1000) (hv : val2M p L = false) (hv2 : fusM p L = false) : PureC Tryz.prog [] 28 [.agg [.int .i64 p, roC L]] (.tup [.int .i64 0, .bool false]) := by
  have k1 : val2M p (consR L.length fun i => (L.getD i Con.zero).rvs) = false := (by rw [consR_ro]; exact hv); have k2 : fusM p (consR L.length fun i => (L.getD i Con.zero).rvs) = false := (by rw [consR_ro]; exact hv2)
  have rr := fun (tp : List Bool) (ms : List Prop) h hm => pure_run evOk (callF_ok evOk (orcOf_ok entsHR_ok) 8) Tryz.func28 (A := [.agg [.int .i64 p, roC L]]) rfl none_ann rfl rfl evNg (tabs := []) (R := .tup [.int .i64 0, .bool false]) (tp := tp) (ms := ms) h hm
  refine rr [true, true] [(0 : Int) = (0 : Int), false = false, Dec (!fusM p (consR L.length fun i => (L.getD i Con.zero).rvs)) true, (∀ (i : Nat), i < L.length → (fun i => (L.getD i Con.zero).rvs) i = (Con.ofR ((fun i => (L.getD i Con.zero).rvs) i)).rvs) ∧ L.length ≤ (1000 : Nat), Dec (!val2M p (consR L.length fun i => (L.getD i Con.zero).rvs)) true, (∀ (i : Nat), i < L.length → (fun i => (L.getD i Con.zero).rvs) i = (Con.ofR ((fun i => (L.getD i Con.zero).rvs) i)).rvs) ∧ L.length ≤ (1000 : Nat)] (by kernel_rfl) ⟨?_, ?_, (dN k2), ?_, (dN k1), (?_ : (∀ (i : Nat), i < L.length → (fun i => (L.getD i Con.zero).rvs) i = (Con.ofR ((fun i => (L.getD i Con.zero).rvs) i)).rvs) ∧ L.length ≤ (1000 : Nat))⟩
  all_goals first | (first | (with_reducible rfl) | exact ⟨rfl, rfl⟩ | exact ⟨fun _ _ => rfl, hl⟩)
theorem rodd_pure (p : Int) (L : List Con) (hn : L.length ≤ 1000) : PureC Tryz.prog [] 28 [.agg [.int .i64 p, roC L]] (.tup [.int .i64 (bO (shV p L) L), .bool (shV p L)]) := by
  cases h : shV p L with
  | true => exact rodd_yes p L (shV_ok h) h
  | false =>
    unfold shV at h
    simp only [Bool.or_eq_false_iff] at h
    exact rodd_no p L hn h.1 h.2
set_option maxRecDepth 100000 in
theorem twk_yes (L : List Con) (a : Int) (hv : fusM 2 L = true) (hL : okL L) : PureC Tryz.prog [] 25 [.agg [.int .i64 2, roC L], .int .i64 a] (.tup [.agg [.int .i64 (bP (wkB L a)), roC (bL (wkB L a) (stepM L a.toNat))], .bool (wkB L a)]) := by
  have hl := hL.1; have k1 : fusM 2 (consR L.length fun i => (L.getD i Con.zero).rvs) = true := (by rw [consR_ro]; exact hv)
  have rr := fun (tp : List Bool) (ms : List Prop) h hm => pure_run evOk (callF_ok evOk (orcOf_ok entsHT_ok) 8) Tryz.func25 (A := [.agg [.int .i64 2, roC L], .int .i64 a]) rfl none_ann rfl rfl evNg (tabs := []) (R := .tup [.agg [.int .i64 (bP (wkB L a)), roC (bL (wkB L a) (stepM L a.toNat))], .bool (wkB L a)]) (tp := tp) (ms := ms) h hm
  refine Or.elim (Bool.eq_false_or_eq_true (decide (a < (1 : Int)))) (fun d1 => rr [false, true] [(0 : Int) = bP (wkB L a), (bL (wkB L a) (stepM L a.toNat)).length = (0 : Nat), false = wkB L a, Dec (decide (a < (1 : Int))) true, Dec (!fusM (2 : Int) (consR L.length fun i => (L.getD i Con.zero).rvs)) false, (∀ (i : Nat), i < L.length → (fun i => (L.getD i Con.zero).rvs) i = (Con.ofR ((fun i => (L.getD i Con.zero).rvs) i)).rvs) ∧ L.length ≤ (1000 : Nat)] (by kernel_rfl) ⟨?_, ?_, ?_, d1, (dN k1), (?_ : (∀ (i : Nat), i < L.length → (fun i => (L.getD i Con.zero).rvs) i = (Con.ofR ((fun i => (L.getD i Con.zero).rvs) i)).rvs) ∧ L.length ≤ (1000 : Nat))⟩)
           (fun d1 => Or.elim (Bool.eq_false_or_eq_true (decide (a ≥ (↑L.length : Int)))) (fun d2 => rr [false, false, true] [(0 : Int) = bP (wkB L a), (bL (wkB L a) (stepM L a.toNat)).length = (0 : Nat), false = wkB L a, Dec (decide (a ≥ (↑L.length : Int))) true, Dec (decide (a < (1 : Int))) false, Dec (!fusM (2 : Int) (consR L.length fun i => (L.getD i Con.zero).rvs)) false, (∀ (i : Nat), i < L.length → (fun i => (L.getD i Con.zero).rvs) i = (Con.ofR ((fun i => (L.getD i Con.zero).rvs) i)).rvs) ∧ L.length ≤ (1000 : Nat)] (by kernel_rfl) ⟨?_, ?_, ?_, d2, d1, (dN k1), (?_ : (∀ (i : Nat), i < L.length → (fun i => (L.getD i Con.zero).rvs) i = (Con.ofR ((fun i => (L.getD i Con.zero).rvs) i)).rvs) ∧ L.length ≤ (1000 : Nat))⟩)
           (fun d2 => Or.elim (Bool.eq_false_or_eq_true (linkM (consR L.length fun i => (L.getD i Con.zero).rvs) a.toNat)) (fun d3 => rr [false, false, false, false] [(2 : Int) = bP (wkB L a), (stepM (consR L.length fun i => (L.getD i Con.zero).rvs) a.toNat).length = (bL (wkB L a) (stepM L a.toNat)).length ∧ (fun i => ((stepM (consR L.length fun i => (L.getD i Con.zero).rvs) a.toNat).getD i Con.zero).rvs) = fun i => ((bL (wkB L a) (stepM L a.toNat)).getD i Con.zero).rvs, true = wkB L a, (∀ (i : Nat), i < L.length → (fun i => (L.getD i Con.zero).rvs) i = (Con.ofR ((fun i => (L.getD i Con.zero).rvs) i)).rvs) ∧ (2 : Int) = (2 : Int) ∧ okL (consR L.length fun i => (L.getD i Con.zero).rvs) ∧ (1 : Int) ≤ a ∧ a < (↑L.length : Int), Dec (!linkM (consR L.length fun i => (L.getD i Con.zero).rvs) a.toNat) false, (∀ (i : Nat), i < L.length → (fun i => (L.getD i Con.zero).rvs) i = (Con.ofR ((fun i => (L.getD i Con.zero).rvs) i)).rvs) ∧ okL (consR L.length fun i => (L.getD i Con.zero).rvs) ∧ (1 : Int) ≤ a ∧ a < (↑L.length : Int), Dec (decide (a ≥ (↑L.length : Int))) false, Dec (decide (a < (1 : Int))) false, Dec (!fusM (2 : Int) (consR L.length fun i => (L.getD i Con.zero).rvs)) false, (∀ (i : Nat), i < L.length → (fun i => (L.getD i Con.zero).rvs) i = (Con.ofR ((fun i => (L.getD i Con.zero).rvs) i)).rvs) ∧ L.length ≤ (1000 : Nat)] (by kernel_rfl) ⟨?_, ?_, ?_, ?_, (dN d3), ?_, d2, d1, (dN k1), (?_ : (∀ (i : Nat), i < L.length → (fun i => (L.getD i Con.zero).rvs) i = (Con.ofR ((fun i => (L.getD i Con.zero).rvs) i)).rvs) ∧ L.length ≤ (1000 : Nat))⟩)
           (fun d3 => rr [false, false, false, true] [(0 : Int) = bP (wkB L a), (bL (wkB L a) (stepM L a.toNat)).length = (0 : Nat), false = wkB L a, Dec (!linkM (consR L.length fun i => (L.getD i Con.zero).rvs) a.toNat) true, (∀ (i : Nat), i < L.length → (fun i => (L.getD i Con.zero).rvs) i = (Con.ofR ((fun i => (L.getD i Con.zero).rvs) i)).rvs) ∧ okL (consR L.length fun i => (L.getD i Con.zero).rvs) ∧ (1 : Int) ≤ a ∧ a < (↑L.length : Int), Dec (decide (a ≥ (↑L.length : Int))) false, Dec (decide (a < (1 : Int))) false, Dec (!fusM (2 : Int) (consR L.length fun i => (L.getD i Con.zero).rvs)) false, (∀ (i : Nat), i < L.length → (fun i => (L.getD i Con.zero).rvs) i = (Con.ofR ((fun i => (L.getD i Con.zero).rvs) i)).rvs) ∧ L.length ≤ (1000 : Nat)] (by kernel_rfl) ⟨?_, ?_, ?_, (dN d3), ?_, d2, d1, (dN k1), (?_ : (∀ (i : Nat), i < L.length → (fun i => (L.getD i Con.zero).rvs) i = (Con.ofR ((fun i => (L.getD i Con.zero).rvs) i)).rvs) ∧ L.length ≤ (1000 : Nat))⟩)))
  all_goals first | (first | (with_reducible rfl) | exact ⟨rfl, rfl⟩ | exact ⟨fun _ _ => rfl, hl⟩ | ((try simp only [consR_ro, decide_eq_true_eq, decide_eq_false_iff_not, ge_iff_le] at *) <;> first | exact ⟨fun _ _ => rfl, hL, by omega, by omega⟩ | exact ⟨fun _ _ => rfl, by trivial, hL, by omega, by omega⟩ | (rw [wkB_1 (by omega)] <;> first | rfl | exact ⟨rfl, rfl⟩) | (rw [wkB_2 (by omega)] <;> first | rfl | exact ⟨rfl, rfl⟩) | (rw [wkB_3 (by assumption)] <;> first | rfl | exact ⟨rfl, rfl⟩) | (rw [wkB_4 (by omega) (by omega) (by assumption)] <;> first | rfl | exact ⟨rfl, rfl⟩)))
set_option maxRecDepth 100000 in
theorem twk_no (p : Int) (L : List Con) (a : Int) (hl : L.length ≤ 1000) (hv : fusM p L = false) : PureC Tryz.prog [] 25 [.agg [.int .i64 p, roC L], .int .i64 a] (.tup [.agg [.int .i64 0, roC []], .bool false]) := by
  have k1 : fusM p (consR L.length fun i => (L.getD i Con.zero).rvs) = false := (by rw [consR_ro]; exact hv)
  have rr := fun (tp : List Bool) (ms : List Prop) h hm => pure_run evOk (callF_ok evOk (orcOf_ok entsHT_ok) 8) Tryz.func25 (A := [.agg [.int .i64 p, roC L], .int .i64 a]) rfl none_ann rfl rfl evNg (tabs := []) (R := .tup [.agg [.int .i64 0, roC []], .bool false]) (tp := tp) (ms := ms) h hm
  refine rr [true] [(0 : Int) = (0 : Int), (0 : Nat) = (0 : Nat), false = false, Dec (!fusM p (consR L.length fun i => (L.getD i Con.zero).rvs)) true, (∀ (i : Nat), i < L.length → (fun i => (L.getD i Con.zero).rvs) i = (Con.ofR ((fun i => (L.getD i Con.zero).rvs) i)).rvs) ∧ L.length ≤ (1000 : Nat)] (by kernel_rfl) ⟨?_, ?_, ?_, (dN k1), (?_ : (∀ (i : Nat), i < L.length → (fun i => (L.getD i Con.zero).rvs) i = (Con.ofR ((fun i => (L.getD i Con.zero).rvs) i)).rvs) ∧ L.length ≤ (1000 : Nat))⟩
  all_goals first | (first | (with_reducible rfl) | exact ⟨rfl, rfl⟩ | exact ⟨fun _ _ => rfl, hl⟩)
theorem twk_pure (p : Int) (L : List Con) (a : Int) (hn : L.length ≤ 1000) : PureC Tryz.prog [] 25 [.agg [.int .i64 p, roC L], .int .i64 a] (.tup [.agg [.int .i64 (bP (fusM p L && wkB L a)), roC (bL (fusM p L && wkB L a) (stepM L a.toNat))], .bool (fusM p L && wkB L a)]) := by
  cases h : fusM p L with
  | false => exact twk_no p L a hn h
  | true =>
    have := fus_p h
    subst this
    exact twk_yes L a h (fus_okL h)
set_option maxRecDepth 100000 in
theorem rwk_yes (L : List Con) (a : Int) (hv : fusM 2 L = true) (hL : okL L) : PureC Tryz.prog [] 26 [.agg [.int .i64 2, roC L], .int .i64 a] (.tup [.agg [.int .i64 (bP (wkB L a)), roC (bL (wkB L a) (stepM L a.toNat))], .bool (wkB L a)]) := by
  have hl := hL.1; have k1 : fusM 2 (consR L.length fun i => (L.getD i Con.zero).rvs) = true := (by rw [consR_ro]; exact hv)
  have rr := fun (tp : List Bool) (ms : List Prop) h hm => pure_run evOk (callF_ok evOk (orcOf_ok entsHR_ok) 8) Tryz.func26 (A := [.agg [.int .i64 2, roC L], .int .i64 a]) rfl none_ann rfl rfl evNg (tabs := []) (R := .tup [.agg [.int .i64 (bP (wkB L a)), roC (bL (wkB L a) (stepM L a.toNat))], .bool (wkB L a)]) (tp := tp) (ms := ms) h hm
  refine Or.elim (Bool.eq_false_or_eq_true (decide (a < (1 : Int)))) (fun d1 => rr [false, true] [(0 : Int) = bP (wkB L a), (bL (wkB L a) (stepM L a.toNat)).length = (0 : Nat), false = wkB L a, Dec (decide (a < (1 : Int))) true, Dec (!fusM (2 : Int) (consR L.length fun i => (L.getD i Con.zero).rvs)) false, (∀ (i : Nat), i < L.length → (fun i => (L.getD i Con.zero).rvs) i = (Con.ofR ((fun i => (L.getD i Con.zero).rvs) i)).rvs) ∧ L.length ≤ (1000 : Nat)] (by kernel_rfl) ⟨?_, ?_, ?_, d1, (dN k1), (?_ : (∀ (i : Nat), i < L.length → (fun i => (L.getD i Con.zero).rvs) i = (Con.ofR ((fun i => (L.getD i Con.zero).rvs) i)).rvs) ∧ L.length ≤ (1000 : Nat))⟩)
           (fun d1 => Or.elim (Bool.eq_false_or_eq_true (decide (a ≥ (↑L.length : Int)))) (fun d2 => rr [false, false, true] [(0 : Int) = bP (wkB L a), (bL (wkB L a) (stepM L a.toNat)).length = (0 : Nat), false = wkB L a, Dec (decide (a ≥ (↑L.length : Int))) true, Dec (decide (a < (1 : Int))) false, Dec (!fusM (2 : Int) (consR L.length fun i => (L.getD i Con.zero).rvs)) false, (∀ (i : Nat), i < L.length → (fun i => (L.getD i Con.zero).rvs) i = (Con.ofR ((fun i => (L.getD i Con.zero).rvs) i)).rvs) ∧ L.length ≤ (1000 : Nat)] (by kernel_rfl) ⟨?_, ?_, ?_, d2, d1, (dN k1), (?_ : (∀ (i : Nat), i < L.length → (fun i => (L.getD i Con.zero).rvs) i = (Con.ofR ((fun i => (L.getD i Con.zero).rvs) i)).rvs) ∧ L.length ≤ (1000 : Nat))⟩)
           (fun d2 => Or.elim (Bool.eq_false_or_eq_true (linkM (consR L.length fun i => (L.getD i Con.zero).rvs) a.toNat)) (fun d3 => rr [false, false, false, false] [(2 : Int) = bP (wkB L a), (stepM (consR L.length fun i => (L.getD i Con.zero).rvs) a.toNat).length = (bL (wkB L a) (stepM L a.toNat)).length ∧ (fun i => ((stepM (consR L.length fun i => (L.getD i Con.zero).rvs) a.toNat).getD i Con.zero).rvs) = fun i => ((bL (wkB L a) (stepM L a.toNat)).getD i Con.zero).rvs, true = wkB L a, (∀ (i : Nat), i < L.length → (fun i => (L.getD i Con.zero).rvs) i = (Con.ofR ((fun i => (L.getD i Con.zero).rvs) i)).rvs) ∧ (2 : Int) = (2 : Int) ∧ okL (consR L.length fun i => (L.getD i Con.zero).rvs) ∧ (1 : Int) ≤ a ∧ a < (↑L.length : Int), Dec (!linkM (consR L.length fun i => (L.getD i Con.zero).rvs) a.toNat) false, (∀ (i : Nat), i < L.length → (fun i => (L.getD i Con.zero).rvs) i = (Con.ofR ((fun i => (L.getD i Con.zero).rvs) i)).rvs) ∧ okL (consR L.length fun i => (L.getD i Con.zero).rvs) ∧ (1 : Int) ≤ a ∧ a < (↑L.length : Int), Dec (decide (a ≥ (↑L.length : Int))) false, Dec (decide (a < (1 : Int))) false, Dec (!fusM (2 : Int) (consR L.length fun i => (L.getD i Con.zero).rvs)) false, (∀ (i : Nat), i < L.length → (fun i => (L.getD i Con.zero).rvs) i = (Con.ofR ((fun i => (L.getD i Con.zero).rvs) i)).rvs) ∧ L.length ≤ (1000 : Nat)] (by kernel_rfl) ⟨?_, ?_, ?_, ?_, (dN d3), ?_, d2, d1, (dN k1), (?_ : (∀ (i : Nat), i < L.length → (fun i => (L.getD i Con.zero).rvs) i = (Con.ofR ((fun i => (L.getD i Con.zero).rvs) i)).rvs) ∧ L.length ≤ (1000 : Nat))⟩)
           (fun d3 => rr [false, false, false, true] [(0 : Int) = bP (wkB L a), (bL (wkB L a) (stepM L a.toNat)).length = (0 : Nat), false = wkB L a, Dec (!linkM (consR L.length fun i => (L.getD i Con.zero).rvs) a.toNat) true, (∀ (i : Nat), i < L.length → (fun i => (L.getD i Con.zero).rvs) i = (Con.ofR ((fun i => (L.getD i Con.zero).rvs) i)).rvs) ∧ okL (consR L.length fun i => (L.getD i Con.zero).rvs) ∧ (1 : Int) ≤ a ∧ a < (↑L.length : Int), Dec (decide (a ≥ (↑L.length : Int))) false, Dec (decide (a < (1 : Int))) false, Dec (!fusM (2 : Int) (consR L.length fun i => (L.getD i Con.zero).rvs)) false, (∀ (i : Nat), i < L.length → (fun i => (L.getD i Con.zero).rvs) i = (Con.ofR ((fun i => (L.getD i Con.zero).rvs) i)).rvs) ∧ L.length ≤ (1000 : Nat)] (by kernel_rfl) ⟨?_, ?_, ?_, (dN d3), ?_, d2, d1, (dN k1), (?_ : (∀ (i : Nat), i < L.length → (fun i => (L.getD i Con.zero).rvs) i = (Con.ofR ((fun i => (L.getD i Con.zero).rvs) i)).rvs) ∧ L.length ≤ (1000 : Nat))⟩)))
  all_goals first | (first | (with_reducible rfl) | exact ⟨rfl, rfl⟩ | exact ⟨fun _ _ => rfl, hl⟩ | ((try simp only [consR_ro, decide_eq_true_eq, decide_eq_false_iff_not, ge_iff_le] at *) <;> first | exact ⟨fun _ _ => rfl, hL, by omega, by omega⟩ | exact ⟨fun _ _ => rfl, by trivial, hL, by omega, by omega⟩ | (rw [wkB_1 (by omega)] <;> first | rfl | exact ⟨rfl, rfl⟩) | (rw [wkB_2 (by omega)] <;> first | rfl | exact ⟨rfl, rfl⟩) | (rw [wkB_3 (by assumption)] <;> first | rfl | exact ⟨rfl, rfl⟩) | (rw [wkB_4 (by omega) (by omega) (by assumption)] <;> first | rfl | exact ⟨rfl, rfl⟩)))
set_option maxRecDepth 100000 in
theorem rwk_no (p : Int) (L : List Con) (a : Int) (hl : L.length ≤ 1000) (hv : fusM p L = false) : PureC Tryz.prog [] 26 [.agg [.int .i64 p, roC L], .int .i64 a] (.tup [.agg [.int .i64 0, roC []], .bool false]) := by
  have k1 : fusM p (consR L.length fun i => (L.getD i Con.zero).rvs) = false := (by rw [consR_ro]; exact hv)
  have rr := fun (tp : List Bool) (ms : List Prop) h hm => pure_run evOk (callF_ok evOk (orcOf_ok entsHR_ok) 8) Tryz.func26 (A := [.agg [.int .i64 p, roC L], .int .i64 a]) rfl none_ann rfl rfl evNg (tabs := []) (R := .tup [.agg [.int .i64 0, roC []], .bool false]) (tp := tp) (ms := ms) h hm
  refine rr [true] [(0 : Int) = (0 : Int), (0 : Nat) = (0 : Nat), false = false, Dec (!fusM p (consR L.length fun i => (L.getD i Con.zero).rvs)) true, (∀ (i : Nat), i < L.length → (fun i => (L.getD i Con.zero).rvs) i = (Con.ofR ((fun i => (L.getD i Con.zero).rvs) i)).rvs) ∧ L.length ≤ (1000 : Nat)] (by kernel_rfl) ⟨?_, ?_, ?_, (dN k1), (?_ : (∀ (i : Nat), i < L.length → (fun i => (L.getD i Con.zero).rvs) i = (Con.ofR ((fun i => (L.getD i Con.zero).rvs) i)).rvs) ∧ L.length ≤ (1000 : Nat))⟩
  all_goals first | (first | (with_reducible rfl) | exact ⟨rfl, rfl⟩ | exact ⟨fun _ _ => rfl, hl⟩)
theorem rwk_pure (p : Int) (L : List Con) (a : Int) (hn : L.length ≤ 1000) : PureC Tryz.prog [] 26 [.agg [.int .i64 p, roC L], .int .i64 a] (.tup [.agg [.int .i64 (bP (fusM p L && wkB L a)), roC (bL (fusM p L && wkB L a) (stepM L a.toNat))], .bool (fusM p L && wkB L a)]) := by
  cases h : fusM p L with
  | false => exact rwk_no p L a hn h
  | true =>
    have := fus_p h
    subst this
    exact rwk_yes L a h (fus_okL h)
end Go.Proofs.YtcfdaddablojlaaGreatDoor.S

/- Plain: a fused list is fused, and its compartments are those of the raw list. -/
set_option linter.unusedSimpArgs false
set_option linter.unusedVariables false
namespace Go.Proofs.YtcfdaddablojlaaGreatDoor.S
open Go.QfSy Go.RowKit

theorem sameT.refl (L : List Con) : sameT L L := ⟨rfl, fun _ _ => ⟨rfl, rfl, rfl⟩⟩
theorem sameT.trans {A B C : List Con} (h : sameT A B) (k : sameT B C) : sameT A C :=
  ⟨h.1.trans k.1, fun i hi => ⟨((h.2 i hi).1).trans (k.2 i (by rw [← h.1]; exact hi)).1, ((h.2 i hi).2.1).trans (k.2 i (by rw [← h.1]; exact hi)).2.1, ((h.2 i hi).2.2).trans (k.2 i (by rw [← h.1]; exact hi)).2.2⟩⟩
theorem at_setO' {L : List Con} {i t : Int} {k : Nat} : at_ (setO L i t) k = if i.toNat = k ∧ k < L.length then { at_ L k with oddity := t } else at_ L k := by
  unfold setO
  rw [at_set]
  split
  · rename_i h; rw [h.1]
  · rfl
theorem setO_same {L : List Con} {i t : Int} : sameT (setO L i t) L := by
  refine ⟨setO_len, fun k _ => ?_⟩
  rw [at_setO']
  split <;> exact ⟨rfl, rfl, rfl⟩
theorem zeroP_same : ∀ {l : List Int} {L : List Con}, sameT (zeroP L l) L
  | [], L => sameT.refl L
  | i :: l, L => (zeroP_same (l := l) (L := setO L i 0)).trans setO_same
theorem fuseP_same {L0 L : List Con} {l : List Int} : sameT (fuseP L0 L l) L := setO_same.trans zeroP_same
theorem fuseG_same {L0 : List Con} : ∀ {P : List (List Int)} {L : List Con}, sameT (fuseG L0 L P) L
  | [], L => sameT.refl L
  | l :: P, L => (fuseG_same (P := P) (L := fuseP L0 L l)).trans fuseP_same
theorem fuseM_same {L : List Con} : sameT (fuseM L) L := fuseG_same
theorem sign_setO {L : List Con} {i t : Int} {k : Nat} : (at_ (setO L i t) k).sign = (at_ L k).sign := by
  rw [at_setO']; split <;> rfl
theorem sign_zeroP : ∀ {l : List Int} {L : List Con} {k : Nat}, (at_ (zeroP L l) k).sign = (at_ L k).sign
  | [], _, _ => rfl
  | i :: l, L, k => by simp only [zeroP]; rw [sign_zeroP, sign_setO]
theorem sign_fuseG {L0 : List Con} : ∀ {P : List (List Int)} {L : List Con} {k : Nat}, (at_ (fuseG L0 L P) k).sign = (at_ L k).sign
  | [], _, _ => rfl
  | l :: P, L, k => by simp only [fuseG]; rw [sign_fuseG]; unfold fuseP; rw [sign_setO, sign_zeroP]
theorem sign_fuseM {L : List Con} {k : Nat} : (at_ (fuseM L) k).sign = (at_ L k).sign := sign_fuseG
/- outside the rows nothing changes -/
theorem at_fuseG {L0 : List Con} : ∀ {P : List (List Int)} {L : List Con} {k : Nat}, (∀ l ∈ P, l ≠ []) → (∀ x ∈ P.flatten, k ≠ x.toNat) → at_ (fuseG L0 L P) k = at_ L k
  | [], _, _, _, _ => rfl
  | l :: P, L, k, hne, h => by
    simp only [List.flatten_cons, List.mem_append] at h
    simp only [fuseG]
    rw [at_fuseG (fun m hm => hne m (by simp [hm])) (fun x hx => h x (.inr hx)), at_fuseP (hne l (by simp)) (fun x hx => h x (.inl hx))]
theorem zero_at : ∀ {l : List Int} {L : List Con} {k : Nat}, k < L.length → (k : Int) ∈ l → (∀ x ∈ l, 0 ≤ x) → (at_ (zeroP L l) k).oddity = 0
  | [], _, _, _, h, _ => by simp at h
  | i :: l, L, k, hk, h, h0 => by
    simp only [zeroP]
    by_cases hl : (k : Int) ∈ l
    · exact zero_at (by rw [setO_len]; exact hk) hl (fun x hx => h0 x (by simp [hx]))
    · have e : (k : Int) = i := by
        rcases List.mem_cons.1 h with h | h
        · exact h
        · exact absurd h hl
      have hx : ∀ x ∈ l, k ≠ x.toNat := by
        intro x hx e2
        have := h0 x (by simp [hx])
        exact hl (by rw [show (k : Int) = x by omega]; exact hx)
      rw [at_zeroP hx, at_setO', if_pos ⟨by omega, hk⟩]
/- in a row: the sum at its first index, nothing elsewhere -/
theorem fuse_at {L0 : List Con} : ∀ {P : List (List Int)} {L : List Con}, P.flatten.Nodup → (∀ l ∈ P, l ≠ [] ∧ inR L.length l) → ∀ l ∈ P, ∀ k : Nat, (k : Int) ∈ l → (at_ (fuseG L0 L P) k).oddity = (if (k : Int) = l.getD 0 0 then totM L0 l else 0)
  | [], _, _, _, l, hl, _, _ => by simp at hl
  | m :: P, L, hn, hr, l, hl, k, hk => by
    simp only [List.flatten_cons] at hn
    have hd := List.nodup_append.1 hn
    simp only [fuseG]
    rcases List.mem_cons.1 hl with e | hl
    · subst e
      have hlr := hr l (by simp)
      have hkl := hlr.2 _ hk
      rw [at_fuseG (fun m hm => (hr m (by simp [hm])).1) (fun x hx e2 => ?_)]
      · unfold fuseP
        rw [at_setO', zeroP_len]
        have h0 := hlr.2.at (t := 0) (List.length_pos_iff.2 hlr.1)
        by_cases e3 : (k : Int) = l.getD 0 0
        · rw [if_pos ⟨by omega, by omega⟩, if_pos e3]
        · rw [if_neg (by intro h; omega), if_neg e3, zero_at (by omega) hk (fun x hx => (hlr.2 x hx).1)]
      · obtain ⟨m, hm, hxm⟩ := List.mem_flatten.1 hx
        have := (hr m (by simp [hm])).2 x hxm
        exact hd.2.2 _ hk x hx (by omega)
    · exact fuse_at hd.2.1 (fun m hm => by rw [fuseP_len]; exact hr m (by simp [hm])) l hl k hk
theorem fuseM_at {L : List Con} {l : List Int} (hl : l ∈ partsM L) {k : Nat} (hk : (k : Int) ∈ l) : (at_ (fuseM L) k).oddity = (if (k : Int) = l.getD 0 0 then totM L l else 0) :=
  fuse_at (parts_nodup L) (fun m hm => ⟨(parts_rows m hm).1, (parts_rows m hm).2.1⟩) l hl k hk
theorem fuseM_even {L : List Con} {k : Nat} (h : oddB L k = false) (hk : k < L.length) : at_ (fuseM L) k = at_ L k := by
  refine at_fuseG (fun l hl => (parts_rows l hl).1) (fun x hx e => ?_)
  obtain ⟨l, h1, h2⟩ := List.mem_flatten.1 hx
  have h3 := (parts_rows l h1).2.1 x h2
  have : (k : Int) ∈ (partsM L).flatten := by rw [show (k : Int) = x by omega]; exact hx
  rw [(mem_parts.1 this).2] at h; cases h
end Go.Proofs.YtcfdaddablojlaaGreatDoor.S

/- Plain: the fused list of a raw list has the shape of a fused one. -/
set_option linter.unusedSimpArgs false
set_option linter.unusedVariables false
namespace Go.Proofs.YtcfdaddablojlaaGreatDoor.S
open Go.QfSy Go.RowKit

theorem sum_par {L : List Con} (h : ∀ k, k < L.length → oddB L k = true → ((at_ L k).oddity - (at_ L k).dim) % 2 = 0) : ∀ {l : List Int}, (∀ x ∈ l, 0 ≤ x ∧ x < (L.length : Int) ∧ oddB L x.toNat = true) → (sumO L l - dimR L l) % 2 = 0
  | [], _ => rfl
  | x :: l, hl => by
    have h1 := hl x (by simp)
    have h2 := h x.toNat (by omega) h1.2.2
    have ih := sum_par h (l := l) (fun y hy => hl y (by simp [hy]))
    simp only [sumO, dimR]
    omega
theorem val2_parts {L : List Con} (h : val2M 2 L = true) : shapeM 2 L = true ∧ ∀ k, k < L.length → legalP (at_ L k) := by
  rw [val2_sh, Bool.and_eq_true, all_at] at h
  exact ⟨h.1, fun k hk => of_decide_eq_true (h.2 k hk)⟩
theorem row_odd {L : List Con} {l : List Int} (hl : l ∈ partsM L) : ∀ x ∈ l, 0 ≤ x ∧ x < (L.length : Int) ∧ oddB L x.toNat = true := by
  intro x hx
  have h1 := (parts_rows l hl).2.1 x hx
  have h2 : ((x.toNat : Nat) : Int) ∈ (partsM L).flatten := by
    rw [show ((x.toNat : Nat) : Int) = x by omega]
    exact List.mem_flatten.2 ⟨l, hl, hx⟩
  exact ⟨h1.1, h1.2, (mem_parts.1 h2).2⟩
theorem fus_fuse {L : List Con} (h : val2M 2 L = true) : fusM 2 (fuseM L) = true := by
  obtain ⟨hsh, hleg⟩ := val2_parts h
  have hs := fuseM_same (L := L)
  rw [← fus_eq]
  unfold fusT
  rw [Bool.and_eq_true, Bool.and_eq_true, all_at, List.all_eq_true]
  simp only [Bool.and_eq_true]
  rw [fuseM_len, shape_same hs, parts_same hs]
  refine ⟨hsh, fun k hk => ⟨?_, ?_⟩, fun l hl => ⟨?_, ?_⟩⟩
  · unfold sgB
    rw [decide_eq_true_eq, sign_fuseM]
    exact (hleg k hk).2.2.1
  · cases ho : oddB L k with
    | false =>
      rw [fuseM_even ho hk]
      obtain ⟨_, _, _, h4, h5, _⟩ := hleg k hk
      have h6 := h5 ho
      unfold fusC
      rw [Bool.and_eq_true, decide_eq_true_eq, Bool.or_eq_true, Bool.and_eq_true, decide_eq_true_eq, decide_eq_true_eq]
      exact ⟨h4, .inr h6⟩
    | true =>
      have hm := partM_odd hk ho
      have hv := fuseM_at hm.1 hm.2
      have hb := totM_b L (partM L k)
      have hodd : (at_ (fuseM L) k).odd = true := by rw [(hs.2 k (by rw [fuseM_len]; exact hk)).2.1]; exact ho
      unfold fusC
      rw [Bool.and_eq_true, decide_eq_true_eq, Bool.or_eq_true]
      refine ⟨?_, .inl hodd⟩
      rw [hv]
      split <;> omega
  · obtain ⟨s, n, e, e3, e4⟩ := part_row hl
    unfold zerR
    rw [List.all_eq_true]
    intro x hx
    rw [e, tail_ivN, mem_ivN] at hx
    have hx2 : ((x.toNat : Nat) : Int) ∈ l := by rw [show ((x.toNat : Nat) : Int) = x by omega, e, mem_ivN]; omega
    rw [fuseM_at hl hx2, if_neg]
    · rfl
    · rw [e, getD_ivN (by omega)]; omega
  · have hne : 0 < l.length := List.length_pos_iff.2 (parts_rows l hl).1
    have hin := (parts_rows l hl).2.1
    have h0 := hin.at hne
    have hx : (((l.getD 0 0).toNat : Nat) : Int) ∈ l := by
      rw [show (((l.getD 0 0).toNat : Nat) : Int) = l.getD 0 0 by omega]
      cases l with
      | nil => simp at hne
      | cons a l => simp
    have hp := sum_par (fun k hk ho => ((hleg k hk).2.2.2.2.2 ho).1) (row_odd hl)
    unfold parR
    rw [decide_eq_true_eq, fuseM_at hl hx, if_pos (by omega), dimR_same hs (by rw [fuseM_len]; exact hin)]
    unfold totM
    omega
end Go.Proofs.YtcfdaddablojlaaGreatDoor.S

/- TrainWalks returns true. -/
set_option linter.unusedSimpArgs false
set_option linter.unusedVariables false
namespace Go.Proofs.YtcfdaddablojlaaGreatDoor.S
open Go.QfSy Go.RowKit

noncomputable def entsWs (kx : Int) (X : List Prt) (F : List Con) : List OEnt := [
  ⟨27, [], fun A => match A with
    | [.agg [.int .i64 p, .sl n 5 row]] => some (.tup [.int .i64 (oddVM (consR n row)), .bool true], [(∀ i, i < n → row i = (Con.ofR (row i)).rvs) ∧ p = 2 ∧ fusM 2 (consR n row) = true])
    | _ => none⟩,
  ⟨35, [], fun A => match A with
    | [.agg [.int .i64 p, .sl n 5 row]] => some (.bool true, [(∀ i, i < n → row i = (Con.ofR (row i)).rvs) ∧ p = 2 ∧ fusM 2 (consR n row) = true])
    | _ => none⟩,
  ⟨21, [], fun A => match A with
    | [.agg [.int .i64 p, .sl n 5 row], .agg [.int .i64 q, .sl m 5 row']] => some (.bool true, [(∀ i, i < n → row i = (Con.ofR (row i)).rvs) ∧ (∀ i, i < m → row' i = (Con.ofR (row' i)).rvs) ∧ p = q ∧ consR n row = consR m row' ∧ n ≤ 1000])
    | _ => none⟩,
  ⟨24, [], fun A => match A with
    | [.agg [.int .u8 q, .sl n 5 row]] => some (.agg [.int .i64 2, roC F], [q = kx ∧ n = X.length ∧ ∀ i, i < n → row i = (X.getD i Prt.zero).rvs])
    | _ => none⟩,
  ⟨17, tabs, fun A => match A with
    | [] => some (.bool true, [])
    | _ => none⟩]
noncomputable def entsFu : List OEnt := [
  ⟨20, [], fun A => match A with
    | [.agg [.int .i64 p, .sl n 5 row]] => some (.tup [.agg [.int .i64 2, roC (fuseM (consR n row))], .bool true], [(∀ i, i < n → row i = (Con.ofR (row i)).rvs) ∧ p = 2 ∧ val2M 2 (consR n row) = true])
    | _ => none⟩,
  ⟨59, [], fun A => match A with
    | [.agg [.int .u8 pr, .sl n 5 row], .int .i64 most, .bool two] => some (roC (listV most two (prtR n row)), [(∀ i, i < n → row i = (Prt.ofR (row i)).rvs) ∧ (∀ p ∈ prtR n row, p.ok) ∧ 1 ≤ most ∧ most ≤ 100 ∧ n ≤ 1000])
    | _ => none⟩]
theorem fus_len {L : List Con} (h : fusM 2 L = true) : L.length ≤ 1000 := by have := (fus_parts h).2.2.1; omega
abbrev FuC (kx : Int) (X : List Prt) (F : List Con) : Prop := PureC Tryz.prog [] 24 [.agg [.int .u8 kx, roP X]] (.agg [.int .i64 2, roC F])
theorem entsWs_ok {kx : Int} {X : List Prt} {F : List Con} (hfu : FuC kx X F) : ∀ e ∈ entsWs kx X F, EntOk Tryz.prog e := by
  intro e he
  simp only [entsWs, List.mem_cons, List.not_mem_nil, or_false] at he
  rcases he with rfl | rfl | rfl | rfl | rfl
  all_goals
    intro A R ms h hm
    simp only at h
    split at h
    all_goals first | (cases h; done) | cases h
  · obtain ⟨h1, h2, h3⟩ := all_one hm
    subst h2
    have hv : shV 2 _ = true := (show (val2M 2 _ || fusM 2 _) = true by rw [h3, Bool.or_true])
    exact PureC.imp (todd_yes 2 _ (fus_okL h3) hv) (.cons (.agg (.cons .same (.cons (.con h1) .nil))) .nil)
  · obtain ⟨h1, h2, h3⟩ := all_one hm
    subst h2
    have := tfused_pure 2 _ (fus_len h3)
    rw [h3] at this
    exact PureC.imp this (.cons (.agg (.cons .same (.cons (.con h1) .nil))) .nil)
  · obtain ⟨h1, h2, h3, h4, h5⟩ := all_one hm
    subst h3
    exact PureC.imp (same_pure _ _ (by rw [consR_len]; exact h5)) (.cons (.agg (.cons .same (.cons (.con h1) .nil))) (.cons (.agg (.cons .same (.cons (by rw [h4]; exact .con h2) .nil))) .nil))
  · obtain ⟨h1, h2, h3⟩ := all_one hm
    subst h1
    subst h2
    exact hfu.args (fun G Args hr => by
      cases hr with
      | cons k0 hr =>
        cases hr
        cases k0 with
        | agg k0 =>
          cases k0 with
          | cons a0 k0 =>
            cases k0 with
            | cons a1 k0 =>
              cases k0
              exact .cons (.agg (.cons a0 (.cons (a1.rows h3) .nil))) .nil)
  · exact awake_pure
theorem entsFu_ok : ∀ e ∈ entsFu, EntOk Tryz.prog e := by
  intro e he
  simp only [entsFu, List.mem_cons, List.not_mem_nil, or_false] at he
  rcases he with rfl | rfl
  all_goals
    intro A R ms h hm
    simp only at h
    split at h
    all_goals first | (cases h; done) | cases h
  · obtain ⟨h1, h2, h3⟩ := all_one hm
    subst h2
    obtain ⟨a, _, c, _⟩ := val2_ok h3
    exact PureC.imp (fuse_yes _ a h3 c) (.cons (.agg (.cons .same (.cons (.con h1) .nil))) .nil)
  · obtain ⟨h1, h2, h3, h4, h5⟩ := all_one hm
    exact list_rows h1 h2 h3 h4 h5
set_option maxRecDepth 100000 in
theorem fusedF (kx : Int) (X : List Prt) (hX : ∀ p ∈ X, p.ok) (hn : X.length ≤ 900) : PureC Tryz.prog [] 24 [.agg [.int .u8 kx, roP X]] (.agg [.int .i64 2, roC (fuseM (listV 8 true X))]) := by
  have hv := val2_listV (most := 8) (by decide) (by decide) hX
  have rr := fun (tp : List Bool) (ms : List Prop) h hm => pure_run evOk (callF_ok evOk (orcOf_ok entsFu_ok) 8) Tryz.func24 (A := [.agg [.int .u8 kx, roP X]]) rfl none_ann rfl rfl evNg (tabs := []) (R := .agg [.int .i64 2, roC (fuseM (listV 8 true X))]) (tp := tp) (ms := ms) h hm
  refine rr [] [(2 : Int) = (2 : Int), (fuseM (consR (listV (8 : Int) true (prtR X.length fun i => (X.getD i Prt.zero).rvs)).length fun i => ((listV (8 : Int) true (prtR X.length fun i => (X.getD i Prt.zero).rvs)).getD i Con.zero).rvs)).length = (fuseM (listV (8 : Int) true X)).length ∧ (fun i => ((fuseM (consR (listV (8 : Int) true (prtR X.length fun i => (X.getD i Prt.zero).rvs)).length fun i => ((listV (8 : Int) true (prtR X.length fun i => (X.getD i Prt.zero).rvs)).getD i Con.zero).rvs)).getD i Con.zero).rvs) = fun i => ((fuseM (listV (8 : Int) true X)).getD i Con.zero).rvs, (∀ (i : Nat), i < (listV (8 : Int) true (prtR X.length fun i => (X.getD i Prt.zero).rvs)).length → (fun i => ((listV (8 : Int) true (prtR X.length fun i => (X.getD i Prt.zero).rvs)).getD i Con.zero).rvs) i = (Con.ofR ((fun i => ((listV (8 : Int) true (prtR X.length fun i => (X.getD i Prt.zero).rvs)).getD i Con.zero).rvs) i)).rvs) ∧ (2 : Int) = (2 : Int) ∧ val2M (2 : Int) (consR (listV (8 : Int) true (prtR X.length fun i => (X.getD i Prt.zero).rvs)).length fun i => ((listV (8 : Int) true (prtR X.length fun i => (X.getD i Prt.zero).rvs)).getD i Con.zero).rvs) = true, (∀ (i : Nat), i < X.length → (fun i => (X.getD i Prt.zero).rvs) i = (Prt.ofR ((fun i => (X.getD i Prt.zero).rvs) i)).rvs) ∧ (∀ (p : Prt), (p ∈ prtR X.length fun i => (X.getD i Prt.zero).rvs) → p.ok) ∧ (1 : Int) ≤ (8 : Int) ∧ (8 : Int) ≤ (100 : Int) ∧ X.length ≤ (1000 : Nat)] (by kernel_rfl) ⟨?_, ?_, ?_, (?_ : (∀ (i : Nat), i < X.length → (fun i => (X.getD i Prt.zero).rvs) i = (Prt.ofR ((fun i => (X.getD i Prt.zero).rvs) i)).rvs) ∧ (∀ (p : Prt), (p ∈ prtR X.length fun i => (X.getD i Prt.zero).rvs) → p.ok) ∧ (1 : Int) ≤ (8 : Int) ∧ (8 : Int) ≤ (100 : Int) ∧ X.length ≤ (1000 : Nat))⟩
  all_goals first | (first | (with_reducible rfl) | exact ⟨rfl, rfl⟩ | exact ⟨fun _ _ => rfl, by rw [prtR_ro]; exact hX, by decide, by decide, by omega⟩ | exact ⟨fun _ _ => rfl, rfl, by rw [consR_ro, prtR_ro]; exact hv⟩ | (rw [consR_ro, prtR_ro]; exact ⟨rfl, rfl⟩))
noncomputable def entsWsY (kx : Int) (X : List Prt) (F : List Con) : List OEnt := entsWs kx X F ++ [
  ⟨25, [], fun A => match A with
    | [.agg [.int .i64 p, .sl n 5 row], .int .i64 a] => some (.tup [.agg [.int .i64 2, roC (stepM (consR n row) a.toNat)], .bool true], [(∀ i, i < n → row i = (Con.ofR (row i)).rvs) ∧ p = 2 ∧ fusM 2 (consR n row) = true ∧ wkB (consR n row) a = true])
    | _ => none⟩]
theorem entsWsY_ok {kx : Int} {X : List Prt} {F : List Con} (hfu : FuC kx X F) : ∀ e ∈ entsWsY kx X F, EntOk Tryz.prog e := by
  intro e he
  rcases List.mem_append.1 he with he | he
  · exact entsWs_ok hfu e he
  · rw [List.mem_singleton.1 he]
    intro A R ms h hm
    simp only at h
    split at h
    · cases h
      obtain ⟨h1, h2, h3, h4⟩ := all_one hm
      subst h2
      rename_i a
      have := twk_yes _ a h3 (fus_okL h3)
      rw [h4] at this
      exact PureC.imp this (.cons (.agg (.cons .same (.cons (.con h1) .nil))) .same)
    · cases h
noncomputable def entsWsN (kx : Int) (X : List Prt) (F : List Con) : List OEnt := entsWs kx X F ++ [
  ⟨25, [], fun A => match A with
    | [.agg [.int .i64 p, .sl n 5 row], .int .i64 a] => some (.tup [.agg [.int .i64 0, roC []], .bool false], [(∀ i, i < n → row i = (Con.ofR (row i)).rvs) ∧ p = 2 ∧ fusM 2 (consR n row) = true ∧ wkB (consR n row) a = false])
    | _ => none⟩]
theorem entsWsN_ok {kx : Int} {X : List Prt} {F : List Con} (hfu : FuC kx X F) : ∀ e ∈ entsWsN kx X F, EntOk Tryz.prog e := by
  intro e he
  rcases List.mem_append.1 he with he | he
  · exact entsWs_ok hfu e he
  · rw [List.mem_singleton.1 he]
    intro A R ms h hm
    simp only at h
    split at h
    · cases h
      obtain ⟨h1, h2, h3, h4⟩ := all_one hm
      subst h2
      rename_i a
      have := twk_yes _ a h3 (fus_okL h3)
      rw [h4] at this
      exact PureC.imp this (.cons (.agg (.cons .same (.cons (.con h1) .nil))) .same)
    · cases h
def sgAt (k j : Nat) : Int := if j = k then -1 else 1
theorem ws_c {F : List Con} {k j : Nat} (h1 : 1 ≤ k) (h2 : k < F.length) (hj : j < F.length) : ((stepM F k).getD j Con.zero).exp = (F.getD j Con.zero).exp ∧ ((stepM F k).getD j Con.zero).dim = (F.getD j Con.zero).dim ∧ ((stepM F k).getD j Con.zero).odd = (F.getD j Con.zero).odd := by
  have := step_at h1 h2 hj
  simp only [at_] at this
  rw [this]
  exact ⟨rfl, rfl, rfl⟩
theorem ws_step {F : List Con} (hF : okL F) {k j : Nat} (h1 : 1 ≤ k) (h2 : k < F.length) (hj : j < F.length) : IntKind.i64.wrap (sgAt k j * IntKind.i64.wrap (((stepM F k).getD j Con.zero).sign * (F.getD j Con.zero).sign)) = sgAt k (j + 1) := by
  have h3 := step_at h1 h2 hj
  have h4 := (hF.at hj).2.2.1
  simp only [at_] at h3 h4
  rw [h3]
  simp only [stepC, at_]
  unfold sgAt
  by_cases e1 : j = k
  · subst e1
    rw [if_pos rfl, if_neg (by omega), beq_self_eq_true]
    simp only [Bool.true_or, cond_true]
    rcases h4 with h4 | h4 <;> rw [h4] <;> rfl
  · by_cases e2 : j = k - 1
    · have b1 : (j == k) = false := by rw [beq_eq_false_iff_ne]; exact e1
      have b2 : (j == k - 1) = true := by rw [beq_iff_eq]; exact e2
      rw [if_neg e1, if_pos (by omega), b1, b2]
      simp only [Bool.or_true, cond_true]
      rcases h4 with h4 | h4 <;> rw [h4] <;> rfl
    · have b1 : (j == k) = false := by rw [beq_eq_false_iff_ne]; exact e1
      have b2 : (j == k - 1) = false := by rw [beq_eq_false_iff_ne]; exact e2
      rw [if_neg e1, if_neg (by omega), b1, b2]
      simp only [Bool.or_self, cond_false]
      rcases h4 with h4 | h4 <;> rw [h4] <;> rfl
noncomputable def wsH (F : List Con) : List (Nat × Blk) := [(1002, ⟨.plain [.vint .i64 2, (roC F).av], 24, 0, false, true⟩)]
noncomputable def wsAnn (F : List Con) (k : Nat) : Ann := ⟨⟨[(5, .ptr 1002 0), (14, .int .i64 1), (94, (roC (stepM F k)).av), (95, .vint .i64 (stepM F k).length), (96, .int .i64 0)], wsH F ++ tabList tabs, 1200⟩, none, fun _ => (.exit 0, ⟨[(14, .vint .i64 1)], tabList tabs, 1200⟩)⟩
set_option maxRecDepth 100000 in
theorem ws_loop (F : List Con) (k : Nat) (hF : okL F) (h1 : 1 ≤ k) (h2 : k < F.length) : AnnOk Tryz.prog EV.ng (Nat.max 2 Tryz.f9.ntmps) (bodyAt Tryz.f9 [0, 1, 0, 1, 1, 1, 1, 1, 1, 1, 1, 1, 1]) (wsAnn F k) := by
  refine ann_of evOk (callF_ok evOk (noOrc_ok _ _) 8) none_ann (by kernel_rfl) (by kernel_rfl) (fun i : Nat × Int => (fun (j : Nat) (s : Int) => (⟨[(5, .ptr 1002 0), (14, .vint .i64 s), (94, (roC (stepM F k)).av), (95, .vint .i64 (stepM F k).length), (96, .vint .i64 (j : Int))], wsH F ++ tabList tabs, 1200⟩ : St)) i.1 i.2) (fun i : Nat × Int => (fun (j : Nat) (s : Int) => (F.length - j : Nat)) i.1 i.2) (fun (d : Bool) (i : Nat × Int) => (fun (j : Nat) (s : Int) => (j ≤ F.length ∧ s = sgAt k j : Prop)) i.1 i.2) ?_ ?_
  · intro d hd
    exact ⟨(0, 1), [(1 : Int) = (1 : Int), (stepM F k).length = (stepM F k).length ∧ (fun i => ((stepM F k).getD i Con.zero).rvs) = fun i => ((stepM F k).getD i Con.zero).rvs, (↑(stepM F k).length : Int) = (↑(stepM F k).length : Int), (0 : Int) = (↑(0 : Nat) : Int), (2 : Int) = (2 : Int), F.length = F.length ∧ (fun i => (F.getD i Con.zero).rvs) = fun i => (F.getD i Con.zero).rvs], by kernel_rfl, (by refine ⟨?_, ?_, ?_, ?_, ?_, (?_ : F.length = F.length ∧ (fun i => (F.getD i Con.zero).rvs) = fun i => (F.getD i Con.zero).rvs)⟩ <;> (first | rfl | assumption | omega | simp_all)), (by exact ⟨Nat.zero_le _, by show (1 : Int) = sgAt k 0; rw [sgAt, if_neg (by omega)]⟩)⟩
  · rintro d hd ⟨j, s⟩ hI
    cases d
    · -- d = false
      exact Bool.noConfusion (show false = true from hd)
    · -- d = true
      obtain ⟨hj, hs⟩ := hI
      have hj : j ≤ F.length := hj
      have hs : s = sgAt k j := hs
      have hl := hF.1
      have hm : (stepM F k).length = F.length := stepM_len
      have ek : IntKind.i64.wrap ((j : Int) + 1) = ((j + 1 : Nat) : Int) := by rw [w64 (by omega) (by omega)]; omega
      refine Or.elim (Bool.eq_false_or_eq_true (decide ((↑j : Int) < (↑(stepM F k).length : Int)))) (fun d1 => Or.elim (Bool.eq_false_or_eq_true (((stepM F k).getD j Con.zero).exp == (F.getD j Con.zero).exp)) (fun d2 => Or.elim (Bool.eq_false_or_eq_true (((stepM F k).getD j Con.zero).dim == (F.getD j Con.zero).dim)) (fun d3 => Or.elim (Bool.eq_false_or_eq_true (((stepM F k).getD j Con.zero).odd == (F.getD j Con.zero).odd)) (fun d4 => ⟨[true, false, false, false], .inl ⟨(j + 1, sgAt k (j + 1)), [IntKind.i64.wrap (s * IntKind.i64.wrap (((stepM F k).getD j Con.zero).sign * (F.getD j Con.zero).sign)) = sgAt k (j + (1 : Nat)), (stepM F k).length = (stepM F k).length ∧ (fun i => ((stepM F k).getD i Con.zero).rvs) = fun i => ((stepM F k).getD i Con.zero).rvs, (↑(stepM F k).length : Int) = (↑(stepM F k).length : Int), IntKind.i64.wrap ((↑j : Int) + (1 : Int)) = (↑(j + (1 : Nat)) : Int), (2 : Int) = (2 : Int), F.length = F.length ∧ (fun i => (F.getD i Con.zero).rvs) = fun i => (F.getD i Con.zero).rvs, Dec (!((stepM F k).getD j Con.zero).odd == (F.getD j Con.zero).odd) false, Dec (((stepM F k).getD j Con.zero).dim != (F.getD j Con.zero).dim) false, Dec (((stepM F k).getD j Con.zero).exp != (F.getD j Con.zero).exp) false, (0 : Int) ≤ (↑j : Int) ∧ (↑j : Int) < (↑F.length : Int), (0 : Int) ≤ (↑j : Int) ∧ (↑j : Int) < (↑(stepM F k).length : Int), Dec (decide ((↑j : Int) < (↑(stepM F k).length : Int))) true], by kernel_rfl, ⟨?_, ?_, ?_, ?_, ?_, ?_, (dN d4), (dN d3), (dN d2), ?_, ?_, d1⟩, MuG.out ?_, InG.out ?_⟩⟩)
           (fun d4 => CtG.no ?_))
           (fun d3 => CtG.no ?_))
           (fun d2 => CtG.no ?_))
           (fun d1 => ⟨[false], .inr ⟨[s = (1 : Int), Dec (decide ((↑j : Int) < (↑(stepM F k).length : Int))) false], by kernel_rfl, ⟨?_, d1⟩, rfl⟩⟩)
      all_goals first | (refine MuG.mk ?_; (simp only [hm, decide_eq_true_eq] at *; show F.length - (j + 1) < F.length - j; omega)) | (refine InG.mk ?_; (simp only [hm, decide_eq_true_eq] at *; exact ⟨by omega, by first | rfl | trivial⟩)) | (refine CtG.mk ?_; (simp only [hm, Int.toNat_natCast, decide_eq_true_eq, decide_eq_false_iff_not, beq_iff_eq, beq_eq_false_iff_ne, ne_eq] at *; have h3 := ws_c h1 h2 (j := j) (by omega); first | (exact absurd h3.1 (by assumption)) | (exact absurd h3.2.1 (by assumption)) | (exact absurd h3.2.2 (by assumption)) | (simp_all; done))) | (first | (with_reducible rfl) | exact ⟨rfl, rfl⟩ | ((try simp only [ek, hm, Int.toNat_natCast, decide_eq_true_eq, decide_eq_false_iff_not] at *) <;> first | omega | (rw [hs]; exact ws_step hF h1 h2 (by omega)) | (rw [hs, sgAt, if_neg (by omega)]; done)))
noncomputable def wk8 (a : Int) : Int := (IntKind.i64.wrap a).tmod 8
theorem wkB_parts {L : List Con} {a : Int} (h : wkB L a = true) : 1 ≤ a ∧ a < (L.length : Int) ∧ linkM L a.toNat = true := by
  unfold wkB at h
  simp only [Bool.and_eq_true, decide_eq_true_eq] at h
  exact h
theorem wkB_step {F : List Con} {a : Int} (h : wkB F a = true) : wkB (stepM F a.toNat) a = true := by
  obtain ⟨h1, h2, h3⟩ := wkB_parts h
  exact wkB_4 h1 (by rw [stepM_len]; exact h2) (by rw [link_step (by omega) (by omega) (by omega)]; exact h3)
set_option maxHeartbeats 2000000 in
set_option maxRecDepth 100000 in
theorem walks_y (kx : Int) (X : List Prt) (F : List Con) (a : Int) (hfu : FuC kx X F) (hF : fusM 2 F = true) (h1 : 1 ≤ ((IntKind.i64.wrap a).tmod 8).toNat) (h2 : ((IntKind.i64.wrap a).tmod 8).toNat < F.length) (hw : wkB F ((IntKind.i64.wrap a).tmod 8) = true) (ho : oddVM (stepM F ((IntKind.i64.wrap a).tmod 8).toNat) = oddVM F) (hs2 : stepM (stepM F ((IntKind.i64.wrap a).tmod 8).toNat) ((IntKind.i64.wrap a).tmod 8).toNat = F) (hf2 : fusM 2 (stepM F ((IntKind.i64.wrap a).tmod 8).toNat) = true) (hw2 : wkB (stepM F ((IntKind.i64.wrap a).tmod 8).toNat) ((IntKind.i64.wrap a).tmod 8) = true) : PureC Tryz.prog tabs 9 [.agg [.int .u8 kx, roP X], .int .u8 a] (.bool true) := by
  have hl := fus_len hF; have hsl : (stepM F ((IntKind.i64.wrap a).tmod 8).toNat).length = F.length := stepM_len
  have rr := fun (tp : List Bool) (ms : List Prop) h hm => pure_run evOk (callF_ok evOk (orcOf_ok (entsWsY_ok hfu)) 8) Tryz.func9 (A := [.agg [.int .u8 kx, roP X], .int .u8 a]) (N := Nat.max 2 Tryz.f9.ntmps) rfl (one_ann (ws_loop F _ (fus_okL hF) h1 h2)) rfl rfl evNg (tabs := tabs) (R := .bool true) (tp := tp) (ms := ms) h hm
  refine Or.elim (Bool.eq_false_or_eq_true (decide ((↑X.length : Int) > (20 : Int)))) (fun d1 => rr [true] [true = true, Dec (decide ((↑X.length : Int) > (20 : Int))) true] (by kernel_rfl) ⟨?_, d1⟩)
           (fun d1 => Or.elim (Bool.eq_false_or_eq_true (oddVM (consR F.length fun i => (F.getD i Con.zero).rvs) == oddVM (consR (stepM (consR F.length fun i => (F.getD i Con.zero).rvs) ((IntKind.i64.wrap a).tmod (8 : Int)).toNat).length fun i => ((stepM (consR F.length fun i => (F.getD i Con.zero).rvs) ((IntKind.i64.wrap a).tmod (8 : Int)).toNat).getD i Con.zero).rvs))) (fun d2 => Or.elim (Bool.eq_false_or_eq_true ((↑(stepM (consR F.length fun i => (F.getD i Con.zero).rvs) ((IntKind.i64.wrap a).tmod (8 : Int)).toNat).length : Int) == (↑F.length : Int))) (fun d3 => Or.elim (Bool.eq_false_or_eq_true ((1 : Int) == (1 : Int))) (fun d4 => rr [false, false, false, false, false, false, false, false, false, true] [true = true, Dec ((1 : Int) == (1 : Int)) true, (stepM (consR F.length fun i => (F.getD i Con.zero).rvs) ((IntKind.i64.wrap a).tmod (8 : Int)).toNat).length = (stepM F ((IntKind.i64.wrap a).tmod (8 : Int)).toNat).length ∧ (fun i => ((stepM (consR F.length fun i => (F.getD i Con.zero).rvs) ((IntKind.i64.wrap a).tmod (8 : Int)).toNat).getD i Con.zero).rvs) = fun i => ((stepM F ((IntKind.i64.wrap a).tmod (8 : Int)).toNat).getD i Con.zero).rvs, (↑(stepM (consR F.length fun i => (F.getD i Con.zero).rvs) ((IntKind.i64.wrap a).tmod (8 : Int)).toNat).length : Int) = (↑(stepM F ((IntKind.i64.wrap a).tmod (8 : Int)).toNat).length : Int), (2 : Int) = (2 : Int), F.length = F.length ∧ (fun i => (F.getD i Con.zero).rvs) = fun i => (F.getD i Con.zero).rvs, Dec (!true) false, (∀ (i : Nat), i < (stepM (consR F.length fun i => (F.getD i Con.zero).rvs) ((IntKind.i64.wrap a).tmod (8 : Int)).toNat).length → (fun i => ((stepM (consR F.length fun i => (F.getD i Con.zero).rvs) ((IntKind.i64.wrap a).tmod (8 : Int)).toNat).getD i Con.zero).rvs) i = (Con.ofR ((fun i => ((stepM (consR F.length fun i => (F.getD i Con.zero).rvs) ((IntKind.i64.wrap a).tmod (8 : Int)).toNat).getD i Con.zero).rvs) i)).rvs) ∧ (2 : Int) = (2 : Int) ∧ fusM (2 : Int) (consR (stepM (consR F.length fun i => (F.getD i Con.zero).rvs) ((IntKind.i64.wrap a).tmod (8 : Int)).toNat).length fun i => ((stepM (consR F.length fun i => (F.getD i Con.zero).rvs) ((IntKind.i64.wrap a).tmod (8 : Int)).toNat).getD i Con.zero).rvs) = true, Dec ((↑(stepM (consR F.length fun i => (F.getD i Con.zero).rvs) ((IntKind.i64.wrap a).tmod (8 : Int)).toNat).length : Int) != (↑F.length : Int)) false, Dec (!true) false, (∀ (i : Nat), i < (stepM (consR (stepM (consR F.length fun i => (F.getD i Con.zero).rvs) ((IntKind.i64.wrap a).tmod (8 : Int)).toNat).length fun i => ((stepM (consR F.length fun i => (F.getD i Con.zero).rvs) ((IntKind.i64.wrap a).tmod (8 : Int)).toNat).getD i Con.zero).rvs) ((IntKind.i64.wrap a).tmod (8 : Int)).toNat).length → (fun i => ((stepM (consR (stepM (consR F.length fun i => (F.getD i Con.zero).rvs) ((IntKind.i64.wrap a).tmod (8 : Int)).toNat).length fun i => ((stepM (consR F.length fun i => (F.getD i Con.zero).rvs) ((IntKind.i64.wrap a).tmod (8 : Int)).toNat).getD i Con.zero).rvs) ((IntKind.i64.wrap a).tmod (8 : Int)).toNat).getD i Con.zero).rvs) i = (Con.ofR ((fun i => ((stepM (consR (stepM (consR F.length fun i => (F.getD i Con.zero).rvs) ((IntKind.i64.wrap a).tmod (8 : Int)).toNat).length fun i => ((stepM (consR F.length fun i => (F.getD i Con.zero).rvs) ((IntKind.i64.wrap a).tmod (8 : Int)).toNat).getD i Con.zero).rvs) ((IntKind.i64.wrap a).tmod (8 : Int)).toNat).getD i Con.zero).rvs) i)).rvs) ∧ (∀ (i : Nat), i < F.length → (fun i => (F.getD i Con.zero).rvs) i = (Con.ofR ((fun i => (F.getD i Con.zero).rvs) i)).rvs) ∧ (2 : Int) = (2 : Int) ∧ ((consR (stepM (consR (stepM (consR F.length fun i => (F.getD i Con.zero).rvs) ((IntKind.i64.wrap a).tmod (8 : Int)).toNat).length fun i => ((stepM (consR F.length fun i => (F.getD i Con.zero).rvs) ((IntKind.i64.wrap a).tmod (8 : Int)).toNat).getD i Con.zero).rvs) ((IntKind.i64.wrap a).tmod (8 : Int)).toNat).length fun i => ((stepM (consR (stepM (consR F.length fun i => (F.getD i Con.zero).rvs) ((IntKind.i64.wrap a).tmod (8 : Int)).toNat).length fun i => ((stepM (consR F.length fun i => (F.getD i Con.zero).rvs) ((IntKind.i64.wrap a).tmod (8 : Int)).toNat).getD i Con.zero).rvs) ((IntKind.i64.wrap a).tmod (8 : Int)).toNat).getD i Con.zero).rvs) = consR F.length fun i => (F.getD i Con.zero).rvs) ∧ (stepM (consR (stepM (consR F.length fun i => (F.getD i Con.zero).rvs) ((IntKind.i64.wrap a).tmod (8 : Int)).toNat).length fun i => ((stepM (consR F.length fun i => (F.getD i Con.zero).rvs) ((IntKind.i64.wrap a).tmod (8 : Int)).toNat).getD i Con.zero).rvs) ((IntKind.i64.wrap a).tmod (8 : Int)).toNat).length ≤ (1000 : Nat), Dec (oddVM (consR F.length fun i => (F.getD i Con.zero).rvs) != oddVM (consR (stepM (consR F.length fun i => (F.getD i Con.zero).rvs) ((IntKind.i64.wrap a).tmod (8 : Int)).toNat).length fun i => ((stepM (consR F.length fun i => (F.getD i Con.zero).rvs) ((IntKind.i64.wrap a).tmod (8 : Int)).toNat).getD i Con.zero).rvs)) false, Dec (!true) false, Dec (!true) false, Dec (!true) false, (∀ (i : Nat), i < (stepM (consR F.length fun i => (F.getD i Con.zero).rvs) ((IntKind.i64.wrap a).tmod (8 : Int)).toNat).length → (fun i => ((stepM (consR F.length fun i => (F.getD i Con.zero).rvs) ((IntKind.i64.wrap a).tmod (8 : Int)).toNat).getD i Con.zero).rvs) i = (Con.ofR ((fun i => ((stepM (consR F.length fun i => (F.getD i Con.zero).rvs) ((IntKind.i64.wrap a).tmod (8 : Int)).toNat).getD i Con.zero).rvs) i)).rvs) ∧ (2 : Int) = (2 : Int) ∧ fusM (2 : Int) (consR (stepM (consR F.length fun i => (F.getD i Con.zero).rvs) ((IntKind.i64.wrap a).tmod (8 : Int)).toNat).length fun i => ((stepM (consR F.length fun i => (F.getD i Con.zero).rvs) ((IntKind.i64.wrap a).tmod (8 : Int)).toNat).getD i Con.zero).rvs) = true, (∀ (i : Nat), i < F.length → (fun i => (F.getD i Con.zero).rvs) i = (Con.ofR ((fun i => (F.getD i Con.zero).rvs) i)).rvs) ∧ (2 : Int) = (2 : Int) ∧ fusM (2 : Int) (consR F.length fun i => (F.getD i Con.zero).rvs) = true, (∀ (i : Nat), i < (stepM (consR F.length fun i => (F.getD i Con.zero).rvs) ((IntKind.i64.wrap a).tmod (8 : Int)).toNat).length → (fun i => ((stepM (consR F.length fun i => (F.getD i Con.zero).rvs) ((IntKind.i64.wrap a).tmod (8 : Int)).toNat).getD i Con.zero).rvs) i = (Con.ofR ((fun i => ((stepM (consR F.length fun i => (F.getD i Con.zero).rvs) ((IntKind.i64.wrap a).tmod (8 : Int)).toNat).getD i Con.zero).rvs) i)).rvs) ∧ (2 : Int) = (2 : Int) ∧ fusM (2 : Int) (consR (stepM (consR F.length fun i => (F.getD i Con.zero).rvs) ((IntKind.i64.wrap a).tmod (8 : Int)).toNat).length fun i => ((stepM (consR F.length fun i => (F.getD i Con.zero).rvs) ((IntKind.i64.wrap a).tmod (8 : Int)).toNat).getD i Con.zero).rvs) = true ∧ wkB (consR (stepM (consR F.length fun i => (F.getD i Con.zero).rvs) ((IntKind.i64.wrap a).tmod (8 : Int)).toNat).length fun i => ((stepM (consR F.length fun i => (F.getD i Con.zero).rvs) ((IntKind.i64.wrap a).tmod (8 : Int)).toNat).getD i Con.zero).rvs) ((IntKind.i64.wrap a).tmod (8 : Int)) = true, (8 : Int) ≠ (0 : Int), Dec (!true) false, (∀ (i : Nat), i < F.length → (fun i => (F.getD i Con.zero).rvs) i = (Con.ofR ((fun i => (F.getD i Con.zero).rvs) i)).rvs) ∧ (2 : Int) = (2 : Int) ∧ fusM (2 : Int) (consR F.length fun i => (F.getD i Con.zero).rvs) = true ∧ wkB (consR F.length fun i => (F.getD i Con.zero).rvs) ((IntKind.i64.wrap a).tmod (8 : Int)) = true, (8 : Int) ≠ (0 : Int), kx = kx ∧ X.length = X.length ∧ ∀ (i : Nat), i < X.length → (fun i => (X.getD i Prt.zero).rvs) i = (X.getD i Prt.zero).rvs, Dec (decide ((↑X.length : Int) > (20 : Int))) false] (by kernel_rfl) ⟨?_, d4, ?_, ?_, ?_, ?_, (dN rfl), ?_, (dN d3), (dN rfl), ?_, (dN d2), (dN rfl), (dN rfl), (dN rfl), ?_, ?_, ?_, ?_, (dN rfl), ?_, ?_, ?_, d1⟩)
           (fun d4 => CtG.no ?_))
           (fun d3 => CtG.no ?_))
           (fun d2 => CtG.no ?_))
  all_goals first | (refine CtG.mk ?_; (first | (simp only [consR_ro] at *; simp only [ho, hsl, beq_self_eq_true, Bool.true_eq_false] at *; done) | (simp only [consR_ro] at *; simp_all; done) | (simp_all; done))) | (first | (with_reducible rfl) | (with_reducible exact ⟨rfl, rfl⟩) | (exact (by decide : (8 : Int) ≠ 0)) | exact ⟨rfl, rfl, fun _ _ => rfl⟩ | (simp only [consR_ro, hs2, decide_eq_false_iff_not, gt_iff_lt] at * <;> first | trivial | exact ⟨trivial, trivial⟩ | exact ⟨fun _ _ => rfl, by trivial, hF⟩ | exact ⟨fun _ _ => rfl, by trivial, hf2⟩ | exact ⟨fun _ _ => rfl, by trivial, hF, hw⟩ | exact ⟨fun _ _ => rfl, by trivial, hf2, hw2⟩ | exact ⟨fun _ _ => rfl, fun _ _ => rfl, by trivial, by trivial, by omega⟩ | omega | (rw [hsl]; done)))
set_option maxRecDepth 100000 in
theorem walks_n (kx : Int) (X : List Prt) (F : List Con) (a : Int) (hfu : FuC kx X F) (hF : fusM 2 F = true) (hw : wkB F ((IntKind.i64.wrap a).tmod 8) = false) : PureC Tryz.prog tabs 9 [.agg [.int .u8 kx, roP X], .int .u8 a] (.bool true) := by
  have rr := fun (tp : List Bool) (ms : List Prop) h hm => pure_run evOk (callF_ok evOk (orcOf_ok (entsWsN_ok hfu)) 8) Tryz.func9 (A := [.agg [.int .u8 kx, roP X], .int .u8 a]) rfl none_ann rfl rfl evNg (tabs := tabs) (R := .bool true) (tp := tp) (ms := ms) h hm
  refine Or.elim (Bool.eq_false_or_eq_true (decide ((↑X.length : Int) > (20 : Int)))) (fun d1 => rr [true] [true = true, Dec (decide ((↑X.length : Int) > (20 : Int))) true] (by kernel_rfl) ⟨?_, d1⟩)
           (fun d1 => Or.elim (Bool.eq_false_or_eq_true ((↑(0 : Nat) : Int) == (0 : Int))) (fun d2 => rr [false, true, true] [true = true, Dec ((↑(0 : Nat) : Int) == (0 : Int)) true, Dec (!false) true, (∀ (i : Nat), i < F.length → (fun i => (F.getD i Con.zero).rvs) i = (Con.ofR ((fun i => (F.getD i Con.zero).rvs) i)).rvs) ∧ (2 : Int) = (2 : Int) ∧ fusM (2 : Int) (consR F.length fun i => (F.getD i Con.zero).rvs) = true ∧ wkB (consR F.length fun i => (F.getD i Con.zero).rvs) ((IntKind.i64.wrap a).tmod (8 : Int)) = false, (8 : Int) ≠ (0 : Int), kx = kx ∧ X.length = X.length ∧ ∀ (i : Nat), i < X.length → (fun i => (X.getD i Prt.zero).rvs) i = (X.getD i Prt.zero).rvs, Dec (decide ((↑X.length : Int) > (20 : Int))) false] (by kernel_rfl) ⟨?_, d2, (dN rfl), ?_, ?_, ?_, d1⟩)
           (fun d2 => CtG.no ?_))
  all_goals first | (refine CtG.mk ?_; (first | (exact absurd d2 (by decide)) | (simp_all; done))) | (first | (with_reducible rfl) | (with_reducible exact ⟨rfl, rfl⟩) | (exact (by decide : (8 : Int) ≠ 0)) | exact ⟨rfl, rfl, fun _ _ => rfl⟩ | exact ⟨fun _ _ => rfl, rfl, by rw [consR_ro]; exact hF, by rw [consR_ro]; exact hw⟩)
noncomputable def entsAw : List OEnt := [
  ⟨17, tabs, fun A => match A with
    | [] => some (.bool true, [])
    | _ => none⟩]
theorem entsAw_ok : ∀ e ∈ entsAw, EntOk Tryz.prog e := by
  intro e he
  rw [List.mem_singleton.1 he]
  intro A R ms h hm
  simp only at h
  split at h
  · cases h; exact awake_pure
  · cases h
set_option maxRecDepth 100000 in
theorem walks_m (kx : Int) (X : List Prt) (a : Int) (hX : decide ((X.length : Int) > 20) = true) : PureC Tryz.prog tabs 9 [.agg [.int .u8 kx, roP X], .int .u8 a] (.bool true) := by
  have rr := fun (tp : List Bool) (ms : List Prop) h hm => pure_run evOk (callF_ok evOk (orcOf_ok entsAw_ok) 8) Tryz.func9 (A := [.agg [.int .u8 kx, roP X], .int .u8 a]) rfl none_ann rfl rfl evNg (tabs := tabs) (R := .bool true) (tp := tp) (ms := ms) h hm
  refine rr [true] [true = true, Dec (decide ((↑X.length : Int) > (20 : Int))) true] (by kernel_rfl) ⟨?_, hX⟩
  all_goals first | (first | (with_reducible rfl) | (with_reducible exact ⟨rfl, rfl⟩))
theorem trainWalks_pure (kx : Int) (X : List Prt) (a : Int) (hX : ∀ p ∈ X, p.ok) : PureC Tryz.prog tabs 9 [.agg [.int .u8 kx, roP X], .int .u8 a] (.bool true) := by
  by_cases hm : (X.length : Int) > 20
  · exact walks_m kx X a (decide_eq_true hm)
  · have hfu := fusedF kx X hX (by omega)
    have hv := val2_listV (most := 8) (by decide) (by decide) hX
    have hF := fus_fuse hv
    generalize fuseM (listV 8 true X) = F at hfu hF
    cases hw : wkB F ((IntKind.i64.wrap a).tmod 8) with
    | false => exact walks_n kx X F a hfu hF hw
    | true =>
      obtain ⟨h1, h2, h3⟩ := wkB_parts hw
      have hk1 : 1 ≤ ((IntKind.i64.wrap a).tmod 8).toNat := by omega
      have hk2 : ((IntKind.i64.wrap a).tmod 8).toNat < F.length := by omega
      exact walks_y kx X F a hfu hF hk1 hk2 hw (odd_step (fus_okL hF) hk1 hk2 h3) (step_step (fus_okL hF) hk1 hk2) (fus_step hF hk1 hk2) (wkB_step hw)
end Go.Proofs.YtcfdaddablojlaaGreatDoor.S

/- TrainWalks returns true whatever the input, and its arguments read as before: the row's statement. -/
namespace Go.Proofs.YtcfdaddablojlaaGreatDoor.trainWalks
open Go.ChangeShapes Go.WideShapes Go.ChangeAt Go.RowKit Go.Joins Go.Deep
open Go.QfSy (Con RV RRel RsRel FzAt roC Fz Tb TabW PureC)
open S

theorem readable : ∀ t ∈ Tryz.f9.params.toList, Tryz.prog.readableRec t = true ∧ t < Tryz.prog.types.size := by
  have h : (Tryz.f9.params.toList.all fun t => Tryz.prog.readableRec t && Nat.blt t Tryz.prog.types.size) = true := by kernel_rfl
  intro t ht
  have := List.all_eq_true.1 h t ht
  simp only [Bool.and_eq_true] at this
  exact ⟨this.1, Nat.le_of_ble_eq_true this.2⟩

set_option maxRecDepth 100000 in
theorem contract (H : Type) (enc : TypeId × Value → H) (W : World) (base : Nat) (args : Array Value) (ds gs : List (DataW H)) (before : List MemPlace)
    (hval : ∀ (j : Nat) t v, Tryz.f9.params[j]? = some t → args[j]? = some v → Value.okWide Tryz.prog W .any base t v)
    (hW : DataW.Whole enc Tryz.prog Tryz.f9.params.toList Rows.trainWalksSpec.vars false W args.toList ds gs before) (hO : TabW tabs W) :
    Calls Tryz.prog 9 args W fun e W' => ∃ v, e = .returned v ∧ Rows.trainWalksSpec.post enc Tryz.prog Tryz.f9 false true false false W args v W' := by
  have hW' := hW
  obtain ⟨p, q, hA0, hV, rfl, hfz, hnd⟩ := hW
  have hA : DataW.TrodAll enc Tryz.prog W 0 (fun _ => true) true Tryz.f9.params.toList args.toList ds p := hA0
  rw [Tryz.params9] at hA hval
  obtain ⟨v0, vs0, d0, ds0, p0, q0, hargs0, rfl, rfl, h0, r0⟩ := trodAll_cons hA
  obtain ⟨v1, vs1, d1, ds1, p1, q1, hargs1, rfl, rfl, h1, r1⟩ := trodAll_cons r0
  obtain ⟨rfl, rfl, rfl⟩ := trodAll_nil r1
  obtain rfl : args = #[v0, v1] := by cases args; simp_all
  obtain ⟨P0, X0, hr0, hP0, hn0, ho0⟩ := open_symbol symbolTys (hval 0 27 v0 rfl rfl) h0
  obtain ⟨z1, rfl, rfl, rfl, hz1⟩ := open_int Tryz.underlying5 (hval 1 5 v1 rfl rfl) h1
  have hr1 : RRel (Wz W) (.int .u8 z1) (.int .u8 z1) := .int _ _
  refine (pure_calls (trainWalks_pure P0 X0 z1 ho0) hO (.cons hr0 (.cons hr1 .nil))).mono fun e W' ⟨he, hb⟩ => ?_
  exact ⟨_, he, law_post laidOut readable rfl Tryz.underlying4 rfl hW' rfl hb⟩

def wArgs : Array Value := #[.agg #[.int .u8 0, .slice none 0 0], .int .u8 0]
theorem laid_met (os : Os) : laidMet Tryz.prog Rows.trainWalksRow.laid ((laidWorld os).forCall (fun _ _ => 0) ⟨#[], wArgs, []⟩).memory :=
  laidMet_of_run' 8 (by kernel_rfl) (by kernel_rfl)
theorem reads (os : Os) {H : Type} (enc : TypeId × Value → H) : ∃ ds places, DataW.whole enc Tryz.prog ((laidWorld os).forCall (fun _ _ => 0) ⟨#[], wArgs, []⟩).memory Tryz.f9.params.toList Rows.trainWalksSpec.vars false wArgs.toList 8 = some (ds, [], places) :=
  ⟨[.agg [.lit (.int .u8 0), .nil], .lit (.int .u8 0)], [], by kernel_rfl⟩

set_option maxRecDepth 100000 in
theorem lifted (os : Os) (started : os.Started) (H : Type) (enc : TypeId × Value → H) (F : Stop.Interp) :
    ReturnsInHanded {} Tryz.checked os 9 .any ((OpenSpec.ofChange Rows.trainWalksSpec).preRow enc Tryz.prog Tryz.f9 Rows.trainWalksRow.domain false Rows.trainWalksRow.laid) (((OpenSpec.ofChange Rows.trainWalksSpec).at F).post enc Tryz.prog Tryz.f9 false true false false) := by
  refine returnsInHanded_of_row (C := Tryz.checked) (s := OpenSpec.ofChange Rows.trainWalksSpec) own started (by kernel_rfl) Tryz.func9
    (witness_row_at (enc := enc) (C := Tryz.checked) false (laidWorld os) wArgs rfl (by kernel_rfl) (by kernel_rfl) (by kernel_rfl)
      (OpenSpec.preRow_of_cond 8 (reads os enc).choose_spec.choose_spec (by kernel_rfl) (fun k hk => by cases hk) (by kernel_rfl) (laid_met os))) ?_
  intro W base args ds gs before hval hW _ _ _ hL hS _
  exact contract H enc W base args ds gs before hval hW (tabs_of hL hS)

theorem named : Tryz.prog.funcNamed Rows.trainWalksRow.func = some 9 := by kernel_rfl
theorem facts : joinedFacts Tryz.prog 9 Tryz.f9 (OpenSpec.ofChange Rows.trainWalksSpec).bare Rows.trainWalksRow = true := by kernel_rfl
theorem inst : Tryz.f9.isInstance Tryz.prog Rows.trainWalksRow.origin Rows.trainWalksRow.targs := of_decide_eq_true (by kernel_rfl)
theorem wrap : Tryz.f9.isWrapper Tryz.prog Rows.trainWalksRow.wrapper Rows.trainWalksRow.mainSum := by
  unfold Func.isWrapper; first | (rw [if_pos (by decide +kernel)]; kernel_rfl) | (rw [if_neg (by decide +kernel)]; exact ⟨rfl, rfl⟩)
theorem said : Rows.TrainWalksSaid :=
  OpenClaim.holds_of_cond 9 Tryz.f9 rfl rfl rfl rfl rfl rfl rfl ⟨rfl, rfl, rfl, rfl, rfl⟩ rfl rfl rfl rfl rfl named Tryz.func9 facts inst wrap
    (fun os started H enc _ F => by rw [OpenClaim.pre_eq_preRow]; exact lifted os started H enc F)
end Go.Proofs.YtcfdaddablojlaaGreatDoor.trainWalks

/- TrainWalks returns true whatever the input, and its arguments read as before: the tied card. -/
namespace Go.Proofs.YtcfdaddablojlaaGreatDoor.trainWalks
open Go.ChangeShapes Go.WideShapes Go.ChangeAt Go.RowKit Go.Joins Go.Deep

theorem stands : (Tryz.f9.params.toList.all fun t => !Tryz.prog.wantsStandIn t) = true := by kernel_rfl
theorem looks : false = Tryz.prog.looks [] := by kernel_rfl
theorem plain (f : FuncId) (fn : Func) (hf : Tryz.pinned.checked.prog.funcNamed "quadform/quadformlaw27.TrainWalks" = some f) (hfn : Tryz.pinned.checked.prog.funcs[f]? = some fn) :
    false = Tryz.pinned.checked.prog.looks [] ∧ ∀ (j : Nat) t, fn.params[j]? = some t → Tryz.pinned.checked.prog.wantsStandIn t = false := by
  obtain rfl : f = 9 := Option.some.inj (named.symm.trans hf) |>.symm
  obtain rfl : fn = Tryz.f9 := (Option.some.inj (Tryz.func9.symm.trans hfn)).symm
  refine ⟨looks, fun j t ht => ?_⟩
  have := List.all_eq_true.1 stands t (by simpa using Array.mem_of_getElem? ht)
  exact (by simpa using this : Tryz.prog.wantsStandIn t = false)
theorem holds : Rows.TrainWalksCardSaid :=
  Claim7.holds_tied_plain_at .later [] _ _ _ _ said (fun _ h => by cases h) (by kernel_rfl) (fun _ h => by cases h) trainWalks_row_tie rfl ⟨rfl, rfl⟩ (by kernel_rfl) rfl plain (by kernel_rfl)
end Go.Proofs.YtcfdaddablojlaaGreatDoor.trainWalks

