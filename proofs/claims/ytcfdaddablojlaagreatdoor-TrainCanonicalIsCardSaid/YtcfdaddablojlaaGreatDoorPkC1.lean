/- A part of the proof of TiedTrainCanonicalIs: YL, VX, TC, YU, TD, TF, TG, TH, TI, RB, RH, VR, VU, VD, VF1, VS, RC, VV, VI, VJ. -/
import Derived.Test.YtcfdaddablojlaaGreatDoorPkCB2
import Derived.Test.YtcfdaddablojlaaGreatDoorPkCB1
import Derived.Test.YtcfdaddablojlaaGreatDoorPkCB3
import Derived.Test.YtcfdaddablojlaaGreatDoorPkCM3
set_option linter.unusedSimpArgs false
set_option linter.unusedVariables false
/- Parts of a symbol that is made, out of their rows; what such a list makes. -/
set_option linter.unusedSimpArgs false
set_option linter.unusedVariables false
namespace Go.Proofs.YtcfdaddablojlaaGreatDoor.S
open Go.QfSy Go.RowKit

/- a list of parts out of its rows -/
def Prt.ofR : List RV → Prt
  | [.int .u8 a, .int .u8 b, .int .u8 c, .int .u8 d, .int .u8 e] => ⟨a, b, c, d, e⟩
  | _ => Prt.zero
def prtR (n : Nat) (row : Nat → List RV) : List Prt := (List.range n).map fun i => Prt.ofR (row i)
theorem prtR_ro (L : List Prt) : prtR L.length (fun i => (L.getD i Prt.zero).rvs) = L := by
  apply List.ext_getElem
  · simp [prtR]
  · intro i h1 h2
    simp [prtR, h2]; rfl
theorem roP_ro {n : Nat} {row : Nat → List RV} (h : ∀ i, i < n → row i = (Prt.ofR (row i)).rvs) {F : Fz} {V : Value} (k : RRel F (.sl n 5 row) V) : RRel F (roP (prtR n row)) V := by
  unfold roP
  have hn : (prtR n row).length = n := by simp [prtR]
  rw [hn]
  refine k.rows (fun i hi => ?_)
  rw [h i hi]
  congr 1
  simp [prtR, hi]

theorem list_rows {pr most : Int} {two : Bool} {n : Nat} {row : Nat → List RV} (h1 : ∀ i, i < n → row i = (Prt.ofR (row i)).rvs) (h2 : ∀ p ∈ prtR n row, p.ok) (h3 : 1 ≤ most) (h4 : most ≤ 100) (h5 : n ≤ 1000) : PureC Tryz.prog [] 59 [.agg [.int .u8 pr, .sl n 5 row], .int .i64 most, .bool two] (roC (listV most two (prtR n row))) := by
  refine (list_pure pr _ most two h2 h3 h4 (by simpa [prtR] using h5)).args (fun F Args hr => ?_)
  cases hr with | cons k0 hr => cases k0 with | agg k0 => cases k0 with | cons a0 k0 => cases k0 with | cons a1 k0 =>
  cases k0
  exact .cons (.agg (.cons a0 (.cons (roP_ro h1 a1) .nil))) hr

end Go.Proofs.YtcfdaddablojlaaGreatDoor.S

/- Raw as a contract on its own; the laws without the reference share it. -/
set_option linter.unusedSimpArgs false
set_option linter.unusedVariables false
namespace Go.Proofs.YtcfdaddablojlaaGreatDoor.S
open Go.QfSy Go.RowKit

abbrev RawC (kx : Int) (X : List Prt) (L : List Con) : Prop := PureC Tryz.prog [] 34 [.agg [.int .u8 kx, roP X], .int .i64 8] (.agg [.int .i64 2, roC L])
noncomputable def entsLi : List OEnt := [
  ⟨59, [], fun A => match A with
    | [.agg [.int .u8 pr, .sl n 5 row], .int .i64 most, .bool two] => some (roC (listV most two (prtR n row)), [(∀ i, i < n → row i = (Prt.ofR (row i)).rvs) ∧ (∀ p ∈ prtR n row, p.ok) ∧ 1 ≤ most ∧ most ≤ 100 ∧ n ≤ 1000])
    | _ => none⟩]
theorem entsLi_ok : ∀ e ∈ entsLi, EntOk Tryz.prog e := by
  intro e he
  rw [List.mem_singleton.1 he]
  intro A R ms h hm
  simp only at h
  split at h
  · cases h
    obtain ⟨h1, h2, h3, h4, h5⟩ := all_one hm
    exact list_rows h1 h2 h3 h4 h5
  · cases h
set_option maxRecDepth 100000 in
theorem rawP (kx : Int) (X : List Prt) (hX : ∀ p ∈ X, p.ok) (hn : X.length ≤ 900) : PureC Tryz.prog [] 34 [.agg [.int .u8 kx, roP X], .int .i64 8] (.agg [.int .i64 2, roC (listV 8 true X)]) := by
  have rr := fun (tp : List Bool) (ms : List Prop) h hm => pure_run evOk (callF_ok evOk (orcOf_ok entsLi_ok) 8) Tryz.func34 (A := [.agg [.int .u8 kx, roP X], .int .i64 8]) rfl none_ann rfl rfl evNg (tabs := []) (R := .agg [.int .i64 2, roC (listV 8 true X)]) (tp := tp) (ms := ms) h hm
  refine rr [] [(2 : Int) = (2 : Int), (listV (8 : Int) true (prtR X.length fun i => (X.getD i Prt.zero).rvs)).length = (listV (8 : Int) true X).length ∧ (fun i => ((listV (8 : Int) true (prtR X.length fun i => (X.getD i Prt.zero).rvs)).getD i Con.zero).rvs) = fun i => ((listV (8 : Int) true X).getD i Con.zero).rvs, (∀ (i : Nat), i < X.length → (fun i => (X.getD i Prt.zero).rvs) i = (Prt.ofR ((fun i => (X.getD i Prt.zero).rvs) i)).rvs) ∧ (∀ (p : Prt), (p ∈ prtR X.length fun i => (X.getD i Prt.zero).rvs) → p.ok) ∧ (1 : Int) ≤ (8 : Int) ∧ (8 : Int) ≤ (100 : Int) ∧ X.length ≤ (1000 : Nat)] (by kernel_rfl) ⟨?_, ?_, (?_ : (∀ (i : Nat), i < X.length → (fun i => (X.getD i Prt.zero).rvs) i = (Prt.ofR ((fun i => (X.getD i Prt.zero).rvs) i)).rvs) ∧ (∀ (p : Prt), (p ∈ prtR X.length fun i => (X.getD i Prt.zero).rvs) → p.ok) ∧ (1 : Int) ≤ (8 : Int) ∧ (8 : Int) ≤ (100 : Int) ∧ X.length ≤ (1000 : Nat))⟩
  all_goals first | (first | (with_reducible rfl) | exact ⟨rfl, rfl⟩ | exact ⟨fun _ _ => rfl, by rw [prtR_ro]; exact hX, by decide, by decide, by omega⟩ | (rw [prtR_ro]; exact ⟨rfl, rfl⟩))
noncomputable def entsRaw (kx : Int) (X : List Prt) (L : List Con) : List OEnt := [
  ⟨34, [], fun A => match A with
    | [.agg [.int .u8 q, .sl n 5 row], .int .i64 m] => some (.agg [.int .i64 2, roC L], [q = kx ∧ m = 8 ∧ n = X.length ∧ ∀ i, i < n → row i = (X.getD i Prt.zero).rvs])
    | _ => none⟩,
  ⟨21, [], fun A => match A with
    | [.agg [.int .i64 p, .sl n 5 row], .agg [.int .i64 q, .sl m 5 row']] => some (.bool true, [(∀ i, i < n → row i = (Con.ofR (row i)).rvs) ∧ (∀ i, i < m → row' i = (Con.ofR (row' i)).rvs) ∧ p = q ∧ consR n row = consR m row' ∧ n ≤ 1000])
    | _ => none⟩,
  ⟨17, tabs, fun A => match A with
    | [] => some (.bool true, [])
    | _ => none⟩]
theorem entsRaw_ok {kx : Int} {X : List Prt} {L : List Con} (hra : RawC kx X L) : ∀ e ∈ entsRaw kx X L, EntOk Tryz.prog e := by
  intro e he
  simp only [entsRaw, List.mem_cons, List.not_mem_nil, or_false] at he
  rcases he with rfl | rfl | rfl
  all_goals
    intro A R ms h hm
    simp only at h
    split at h
    all_goals first | (cases h; done) | cases h
  · obtain ⟨h1, h2, h3, h4⟩ := all_one hm
    subst h1
    subst h2
    subst h3
    exact hra.args (fun G Args hr => by
      cases hr with
      | cons k0 hr =>
        cases k0 with
        | agg k0 =>
          cases k0 with
          | cons a0 k0 =>
            cases k0 with
            | cons a1 k0 =>
              cases k0
              exact .cons (.agg (.cons a0 (.cons (a1.rows h4) .nil))) hr)
  · obtain ⟨h1, h2, h3, h4, h5⟩ := all_one hm
    subst h3
    exact PureC.imp (same_pure _ _ (by rw [consR_len]; exact h5)) (.cons (.agg (.cons .same (.cons (.con h1) .nil))) (.cons (.agg (.cons .same (.cons (by rw [h4]; exact .con h2) .nil))) .nil))
  · exact awake_pure
noncomputable def entsAw2 : List OEnt := [
  ⟨17, tabs, fun A => match A with
    | [] => some (.bool true, [])
    | _ => none⟩]
theorem entsAw2_ok : ∀ e ∈ entsAw2, EntOk Tryz.prog e := by
  intro e he
  rw [List.mem_singleton.1 he]
  intro A R ms h hm
  simp only at h
  split at h
  · cases h; exact awake_pure
  · cases h
end Go.Proofs.YtcfdaddablojlaaGreatDoor.S

/- Plain: fusing and walking, as package train does it: row by row over the list as it is. -/
set_option linter.unusedSimpArgs false
set_option linter.unusedVariables false
namespace Go.Proofs.YtcfdaddablojlaaGreatDoor.S
open Go.QfSy Go.RowKit

theorem at_setO {L : List Con} {i t : Int} {k : Nat} (h : k ≠ i.toNat) : at_ (setO L i t) k = at_ L k := by
  unfold setO
  rw [at_set, if_neg]
  intro e; exact h e.1.symm
theorem at_zeroP {k : Nat} : ∀ {l : List Int} {L : List Con}, (∀ x ∈ l, k ≠ x.toNat) → at_ (zeroP L l) k = at_ L k
  | [], _, _ => rfl
  | i :: l, L, h => by
    simp only [zeroP]
    rw [at_zeroP (fun x hx => h x (by simp [hx])), at_setO (h i (by simp))]
theorem at_fuseP {L0 L : List Con} {l : List Int} {k : Nat} (hne : l ≠ []) (h : ∀ x ∈ l, k ≠ x.toNat) : at_ (fuseP L0 L l) k = at_ L k := by
  unfold fuseP
  rw [at_setO, at_zeroP h]
  refine h _ ?_
  cases l with
  | nil => exact absurd rfl hne
  | cons a l => simp

/- the sum that is read while the row is emptied -/
def sumT (L : List Con) : List Int → Int
  | [] => 0
  | i :: l => (at_ L i.toNat).oddity + sumT (setO L i 0) l
theorem sumO_set {t : Int} {i : Int} (hi : 0 ≤ i) : ∀ {l : List Int} {L : List Con}, (∀ x ∈ l, 0 ≤ x ∧ x ≠ i) → sumO (setO L i t) l = sumO L l
  | [], _, _ => rfl
  | x :: l, L, h => by
    have h1 := h x (by simp)
    simp only [sumO]
    rw [sumO_set hi (fun y hy => h y (by simp [hy])), at_setO (by omega)]
theorem sumT_eq : ∀ {l : List Int} {L : List Con}, l.Nodup → (∀ x ∈ l, 0 ≤ x) → sumT L l = sumO L l
  | [], _, _, _ => rfl
  | i :: l, L, hn, h => by
    have hn' := List.nodup_cons.1 hn
    simp only [sumT, sumO]
    rw [sumT_eq hn'.2 (fun x hx => h x (by simp [hx])), sumO_set (h i (by simp)) (fun x hx => ⟨h x (by simp [hx]), fun e => hn'.1 (e ▸ hx)⟩)]
def fuseT (L : List Con) : List (List Int) → List Con
  | [] => L
  | l :: P => fuseT (setO (zeroP L l) (l.getD 0 0) (sumT L l % 8)) P
theorem sumO_agree {L M : List Con} : ∀ {l : List Int}, (∀ x ∈ l, at_ M x.toNat = at_ L x.toNat) → sumO M l = sumO L l
  | [], _ => rfl
  | x :: l, h => by simp only [sumO]; rw [h x (by simp), sumO_agree (fun y hy => h y (by simp [hy]))]
theorem fuseT_eq {L0 : List Con} : ∀ {P : List (List Int)} {L : List Con}, P.flatten.Nodup → (∀ l ∈ P, l ≠ []) → (∀ x ∈ P.flatten, 0 ≤ x ∧ at_ L x.toNat = at_ L0 x.toNat) → fuseT L P = fuseG L0 L P
  | [], _, _, _, _ => rfl
  | l :: P, L, hn, hne, h => by
    simp only [List.flatten_cons] at hn h
    have hd := List.nodup_append.1 hn
    have e : setO (zeroP L l) (l.getD 0 0) (sumT L l % 8) = fuseP L0 L l := by
      unfold fuseP totM
      rw [sumT_eq hd.1 (fun x hx => (h x (by simp [hx])).1), sumO_agree (fun x hx => (h x (by simp [hx])).2)]
    simp only [fuseT, fuseG]
    rw [e]
    refine fuseT_eq hd.2.1 (fun m hm => hne m (by simp [hm])) (fun x hx => ?_)
    have h1 := h x (by simp [hx])
    refine ⟨h1.1, ?_⟩
    rw [at_fuseP (hne l (by simp)) (fun y hy e2 => ?_), h1.2]
    have h2 := h y (by simp [hy])
    have : x = y := by omega
    exact hd.2.2 y hy x hx this.symm
theorem fuseT_parts {L : List Con} : fuseT L (partsM L) = fuseM L := by
  refine fuseT_eq (parts_nodup L) (fun l hl => (parts_rows l hl).1) (fun x hx => ⟨?_, rfl⟩)
  obtain ⟨l, h1, h2⟩ := List.mem_flatten.1 hx
  exact ((parts_rows l h1).2.1 x h2).1

/- walking -/
theorem set_comm {L : List Con} {i k : Nat} {a b : Con} (h : i ≠ k) : (L.set i a).set k b = (L.set k b).set i a := List.set_comm a b h
theorem flip_comm {L : List Con} {i k : Nat} (h : i ≠ k) : flipS (flipS L i) k = flipS (flipS L k) i := by
  unfold flipS
  rw [at_set, if_neg (by intro e; exact h e.1), at_set, if_neg (by intro e; exact h e.1.symm), set_comm h]
theorem add4_comm {L : List Con} {i k : Int} (h : i.toNat ≠ k.toNat) : add4 (add4 L i) k = add4 (add4 L k) i := by
  have e1 : at_ (add4 L i) k.toNat = at_ L k.toNat := by unfold add4; exact at_setO (fun e => h e.symm)
  have e2 : at_ (add4 L k) i.toNat = at_ L i.toNat := by unfold add4; exact at_setO h
  have f1 : add4 (add4 L i) k = (add4 L i).set k.toNat { at_ L k.toNat with oddity := ((at_ L k.toNat).oddity + 4) % 8 } := by
    show (add4 L i).set k.toNat { at_ (add4 L i) k.toNat with oddity := ((at_ (add4 L i) k.toNat).oddity + 4) % 8 } = _
    rw [e1]
  have f2 : add4 (add4 L k) i = (add4 L k).set i.toNat { at_ L i.toNat with oddity := ((at_ L i.toNat).oddity + 4) % 8 } := by
    show (add4 L k).set i.toNat { at_ (add4 L k) i.toNat with oddity := ((at_ (add4 L k) i.toNat).oddity + 4) % 8 } = _
    rw [e2]
  rw [f1, f2]
  exact set_comm h
def walkG (x y : Int) : List Con → List (List Int) → List Con
  | L, [] => L
  | L, l :: P => walkG x y (bif hasI x l || hasI y l then add4 L (l.getD 0 0) else L) P
theorem walkG_none {x y : Int} : ∀ {P : List (List Int)} {L : List Con}, x ∉ P.flatten → y ∉ P.flatten → walkG x y L P = L
  | [], _, _, _ => rfl
  | l :: P, L, hx, hy => by
    simp only [List.flatten_cons, List.mem_append, not_or] at hx hy
    have h1 : hasI x l = false := by cases h : hasI x l with | false => rfl | true => exact absurd (hasI_iff.1 h) hx.1
    have h2 : hasI y l = false := by cases h : hasI y l with | false => rfl | true => exact absurd (hasI_iff.1 h) hy.1
    simp only [walkG, h1, h2, Bool.or_false, cond_false]
    exact walkG_none hx.2 hy.2
end Go.Proofs.YtcfdaddablojlaaGreatDoor.S

/- quadformref26.step and Canonical. -/
set_option linter.unusedSimpArgs false
set_option linter.unusedVariables false
namespace Go.Proofs.YtcfdaddablojlaaGreatDoor.S
open Go.QfSy Go.RowKit

theorem flip_raw {L : List Con} (hL : okL L) {k : Nat} (hk : k < L.length) : updS L k (IntKind.i64.wrap (0 - (L.getD k Con.zero).sign)) = flipS L k := by
  have h := (hL.at hk).2.2.1
  have e : IntKind.i64.wrap (0 - (L.getD k Con.zero).sign) = -(L.getD k Con.zero).sign := by
    simp only [at_] at h
    rw [w64 (by omega) (by omega)]; omega
  rw [e]; rfl
theorem add4_raw {L : List Con} (hL : okL L) {i : Int} (hi : 0 ≤ i ∧ i < (L.length : Int)) : updT L i.toNat ((IntKind.i64.wrap ((L.getD i.toNat Con.zero).oddity + 4)).tmod 8) = add4 L i := by
  have h := (hL.at (k := i.toNat) (by omega)).2.2.2
  have e : (IntKind.i64.wrap ((L.getD i.toNat Con.zero).oddity + 4)).tmod 8 = ((L.getD i.toNat Con.zero).oddity + 4) % 8 := by
    simp only [at_] at h
    rw [w64 (by omega) (by omega)]; exact Int.tmod_eq_emod_of_nonneg (by omega)
  rw [e]; rfl
theorem part0 {L : List Con} (h : 0 < L.length) (a : Int) : 0 ≤ (partM L a).getD 0 0 ∧ (partM L a).getD 0 0 < (L.length : Int) := by
  rcases Nat.eq_zero_or_pos (partM L a).length with h0 | h0
  · rw [List.length_eq_zero_iff.1 h0]; simp; omega
  · exact (partM_ok (L := L) (i := a)).1.at h0
theorem st1 {L : List Con} {k : Nat} (h1 : 0 < (partM L ((k : Int) - 1)).length) (h2 : 0 < (partM L k).length) (h3 : ¬ (partM L ((k : Int) - 1)).getD 0 0 = (partM L k).getD 0 0) : stepM L k = add4 (add4 (flipS (flipS L k) (k - 1)) ((partM L ((k : Int) - 1)).getD 0 0)) ((partM L k).getD 0 0) := by
  unfold stepM
  have h4 : ((partM L ((k : Int) - 1)).getD 0 0 == (partM L k).getD 0 0) = false := by rw [beq_eq_false_iff_ne]; exact h3
  simp only [h1, h2, h4, decide_true, Bool.not_false, Bool.or_true, Bool.and_true, cond_true]
theorem st2 {L : List Con} {k : Nat} (h1 : 0 < (partM L ((k : Int) - 1)).length) (h3 : (partM L ((k : Int) - 1)).getD 0 0 = (partM L k).getD 0 0) : stepM L k = add4 (flipS (flipS L k) (k - 1)) ((partM L ((k : Int) - 1)).getD 0 0) := by
  unfold stepM
  have h4 : ((partM L ((k : Int) - 1)).getD 0 0 == (partM L k).getD 0 0) = true := by rw [beq_iff_eq]; exact h3
  have h5 : ((partM L ((k : Int) - 1)).length == 0) = false := by rw [beq_eq_false_iff_ne]; omega
  simp only [h1, h4, h5, decide_true, Bool.not_true, Bool.or_false, Bool.and_false, cond_true, cond_false]
theorem st3 {L : List Con} {k : Nat} (h1 : 0 < (partM L ((k : Int) - 1)).length) (h2 : ¬ 0 < (partM L k).length) : stepM L k = add4 (flipS (flipS L k) (k - 1)) ((partM L ((k : Int) - 1)).getD 0 0) := by
  unfold stepM
  simp only [h1, h2, decide_true, decide_false, Bool.false_and, cond_true, cond_false]
theorem st4 {L : List Con} {k : Nat} (h1 : ¬ 0 < (partM L ((k : Int) - 1)).length) (h2 : 0 < (partM L k).length) : stepM L k = add4 (flipS (flipS L k) (k - 1)) ((partM L k).getD 0 0) := by
  unfold stepM
  have h5 : ((partM L ((k : Int) - 1)).length == 0) = true := by rw [beq_iff_eq]; omega
  simp only [h1, h2, h5, decide_true, decide_false, Bool.true_or, Bool.and_true, cond_true, cond_false]
theorem st5 {L : List Con} {k : Nat} (h1 : ¬ 0 < (partM L ((k : Int) - 1)).length) (h2 : ¬ 0 < (partM L k).length) : stepM L k = flipS (flipS L k) (k - 1) := by
  unfold stepM
  simp only [h1, h2, decide_false, Bool.false_and, cond_false]

end Go.Proofs.YtcfdaddablojlaaGreatDoor.S

/- Plain: a walk as package train does it is a step of the reference. -/
set_option linter.unusedSimpArgs false
set_option linter.unusedVariables false
namespace Go.Proofs.YtcfdaddablojlaaGreatDoor.S
open Go.QfSy Go.RowKit

theorem hasI_no {x : Int} {l : List Int} (h : x ∉ l) : hasI x l = false := by
  cases h1 : hasI x l with
  | false => rfl
  | true => exact absurd (hasI_iff.1 h1) h
theorem walk_one {x y : Int} : ∀ {P : List (List Int)} {L : List Con}, P.flatten.Nodup → x ∈ P.flatten → y ∉ P.flatten → walkG x y L P = add4 L ((findR x P).getD 0 0) ∧ walkG y x L P = add4 L ((findR x P).getD 0 0)
  | [], _, _, h, _ => by simp at h
  | l :: P, L, hn, hx, hy => by
    simp only [List.flatten_cons] at hn hx hy
    have hd := List.nodup_append.1 hn
    simp only [List.mem_append, not_or] at hy
    have h2 := hasI_no hy.1
    by_cases hl : x ∈ l
    · have h1 := hasI_iff.2 hl
      have h3 : x ∉ P.flatten := fun h => hd.2.2 x hl x h rfl
      simp only [walkG, findR, h1, h2, Bool.or_false, Bool.true_or, Bool.false_or, cond_true]
      exact ⟨walkG_none h3 hy.2, walkG_none hy.2 h3⟩
    · have h1 := hasI_no hl
      have h3 : x ∈ P.flatten := by
        rcases List.mem_append.1 hx with h | h
        · exact absurd h hl
        · exact h
      simp only [walkG, findR, h1, h2, Bool.or_false, cond_false]
      exact walk_one hd.2.1 h3 hy.2
theorem walk_same {x y : Int} : ∀ {P : List (List Int)} {L : List Con}, P.flatten.Nodup → x ∈ P.flatten → y ∈ P.flatten → findR x P = findR y P → walkG x y L P = add4 L ((findR x P).getD 0 0)
  | [], _, _, h, _, _ => by simp at h
  | l :: P, L, hn, hx, hy, he => by
    have hsx := findR_spec hx
    have hsy := findR_spec hy
    simp only [List.flatten_cons] at hn hx hy
    have hd := List.nodup_append.1 hn
    by_cases hl : x ∈ l
    · have e : findR x (l :: P) = l := by simp only [findR, hasI_iff.2 hl, cond_true]
      have hyl : y ∈ l := by rw [← he, e] at hsy; exact hsy.2
      rw [e]
      simp only [walkG, hasI_iff.2 hl, Bool.true_or, cond_true]
      exact walkG_none (fun h => hd.2.2 x hl x h rfl) (fun h => hd.2.2 y hyl y h rfl)
    · have hyl : y ∉ l := by
        intro h
        have e : findR y (l :: P) = l := by simp only [findR, hasI_iff.2 h, cond_true]
        rw [he, e] at hsx
        exact hl hsx.2
      have h1 := hasI_no hl
      have h2 := hasI_no hyl
      simp only [findR, h1, h2, cond_false] at he
      simp only [walkG, findR, h1, h2, Bool.or_false, cond_false]
      refine walk_same hd.2.1 ?_ ?_ he
      · rcases List.mem_append.1 hx with h | h
        · exact absurd h hl
        · exact h
      · rcases List.mem_append.1 hy with h | h
        · exact absurd h hyl
        · exact h
theorem walk_two {x y : Int} : ∀ {P : List (List Int)} {L : List Con}, P.flatten.Nodup → x ∈ P.flatten → y ∈ P.flatten → ((findR x P).getD 0 0).toNat ≠ ((findR y P).getD 0 0).toNat → walkG x y L P = add4 (add4 L ((findR x P).getD 0 0)) ((findR y P).getD 0 0)
  | [], _, _, h, _, _ => by simp at h
  | l :: P, L, hn, hx, hy, he => by
    simp only [List.flatten_cons] at hn hx hy
    have hd := List.nodup_append.1 hn
    by_cases hl : x ∈ l
    · have hyl : y ∉ l := by
        intro h
        apply he
        simp only [findR, hasI_iff.2 hl, hasI_iff.2 h, cond_true]
      have h1 := hasI_iff.2 hl
      have h2 := hasI_no hyl
      simp only [walkG, findR, h1, h2, Bool.true_or, cond_true, cond_false]
      refine (walk_one hd.2.1 ?_ (fun h => hd.2.2 x hl x h rfl)).2
      rcases List.mem_append.1 hy with h | h
      · exact absurd h hyl
      · exact h
    · have h1 := hasI_no hl
      have h3 : x ∈ P.flatten := by
        rcases List.mem_append.1 hx with h | h
        · exact absurd h hl
        · exact h
      by_cases hyl : y ∈ l
      · have h2 := hasI_iff.2 hyl
        simp only [findR, h1, h2, cond_true, cond_false] at he
        simp only [walkG, findR, h1, h2, Bool.false_or, cond_true, cond_false]
        rw [(walk_one hd.2.1 h3 (fun h => hd.2.2 y hyl y h rfl)).1]
        exact add4_comm (fun e => he e.symm)
      · have h2 := hasI_no hyl
        simp only [findR, h1, h2, cond_false] at he
        simp only [walkG, findR, h1, h2, Bool.or_false, cond_false]
        refine walk_two hd.2.1 h3 ?_ he
        rcases List.mem_append.1 hy with h | h
        · exact absurd h hyl
        · exact h

def walkM (L : List Con) (i : Nat) : List Con := walkG ((i : Int) - 1) i (flipS (flipS L (i - 1)) i) (partsM L)
theorem pos_of_mem {x : Int} {l : List Int} (h : x ∈ l) : 0 < l.length := by cases l with | nil => simp at h | cons a l => simp
theorem walkM_eq {L : List Con} {i : Nat} (h1 : 1 ≤ i) (h2 : i < L.length) : walkM L i = stepM L i := by
  have e0 : ((i - 1 : Nat) : Int) = (i : Int) - 1 := by omega
  have hf : flipS (flipS L (i - 1)) i = flipS (flipS L i) (i - 1) := flip_comm (by omega)
  have hmi := mem_parts (L := L) (i := i)
  have hmp := mem_parts (L := L) (i := i - 1)
  rw [e0] at hmp
  unfold walkM
  rw [hf]
  cases hp : oddB L (i - 1) with
  | false =>
    have np : ((i : Int) - 1) ∉ (partsM L).flatten := fun h => by rw [(hmp.1 h).2] at hp; cases hp
    have ep : partM L ((i : Int) - 1) = [] := by have := partM_even (L := L) (i := i - 1) (fun h => by rw [h.2] at hp; cases hp); rwa [e0] at this
    cases hq : oddB L i with
    | false =>
      have nq : (i : Int) ∉ (partsM L).flatten := fun h => by rw [(hmi.1 h).2] at hq; cases hq
      have eq : partM L (i : Int) = [] := partM_even (fun h => by rw [h.2] at hq; cases hq)
      rw [walkG_none np nq, st5 (by rw [ep]; simp) (by rw [eq]; simp)]
    | true =>
      have mq : (i : Int) ∈ (partsM L).flatten := hmi.2 ⟨h2, hq⟩
      rw [(walk_one (parts_nodup L) mq np).2, st4 (by rw [ep]; simp) (pos_of_mem (partM_odd h2 hq).2)]
      rfl
  | true =>
    have mp : ((i : Int) - 1) ∈ (partsM L).flatten := hmp.2 ⟨by omega, hp⟩
    have pp : 0 < (partM L ((i : Int) - 1)).length := by have := (partM_odd (L := L) (i := i - 1) (by omega) hp).2; rw [e0] at this; exact pos_of_mem this
    cases hq : oddB L i with
    | false =>
      have nq : (i : Int) ∉ (partsM L).flatten := fun h => by rw [(hmi.1 h).2] at hq; cases hq
      have eq : partM L (i : Int) = [] := partM_even (fun h => by rw [h.2] at hq; cases hq)
      rw [(walk_one (parts_nodup L) mp nq).1, st3 pp (by rw [eq]; simp)]
      rfl
    | true =>
      have mq : (i : Int) ∈ (partsM L).flatten := hmi.2 ⟨h2, hq⟩
      have pq : 0 < (partM L (i : Int)).length := pos_of_mem (partM_odd h2 hq).2
      cases hj : joinB L i with
      | true =>
        have e := join_part h2 hq hj
        rw [walk_same (parts_nodup L) mp mq e, st2 pp (by rw [e])]
        rfl
      | false =>
        have hne := apart_part h2 hq hj (by omega) hp
        have b1 := (part0 (L := L) (by omega) ((i : Int) - 1)).1
        have b2 := (part0 (L := L) (by omega) (i : Int)).1
        have hn2 : ((findR ((i : Int) - 1) (partsM L)).getD 0 0).toNat ≠ ((findR (i : Int) (partsM L)).getD 0 0).toNat := by
          intro e
          apply hne
          show (findR ((i : Int) - 1) (partsM L)).getD 0 0 = (findR (i : Int) (partsM L)).getD 0 0
          have b1 : 0 ≤ (findR ((i : Int) - 1) (partsM L)).getD 0 0 := b1
          have b2 : 0 ≤ (findR (i : Int) (partsM L)).getD 0 0 := b2
          omega
        rw [walk_two (parts_nodup L) mp mq hn2, st1 pp pq hne]
        rfl
end Go.Proofs.YtcfdaddablojlaaGreatDoor.S

/- Plain: what a step changes; links are kept; a step and the same step again lead back. -/
set_option linter.unusedSimpArgs false
set_option linter.unusedVariables false
namespace Go.Proofs.YtcfdaddablojlaaGreatDoor.S
open Go.QfSy Go.RowKit

theorem list_ext {L M : List Con} (h : L.length = M.length) (k : ∀ i, i < L.length → at_ L i = at_ M i) : L = M := by
  refine List.ext_getElem h (fun i h1 h2 => ?_)
  have := k i h1
  simpa [at_, h1, h2] using this
theorem at_flip {L : List Con} {i k : Nat} : at_ (flipS L i) k = if i = k ∧ k < L.length then { at_ L k with sign := -(at_ L k).sign } else at_ L k := by
  unfold flipS
  rw [at_set]
  split
  · rename_i h; rw [h.1]
  · rfl
theorem at_add4 {L : List Con} {x : Int} {k : Nat} : at_ (add4 L x) k = if x.toNat = k ∧ k < L.length then { at_ L k with oddity := ((at_ L k).oddity + 4) % 8 } else at_ L k := by
  unfold add4 setO
  rw [at_set]
  split
  · rename_i h; rw [h.1]
  · rfl
/- whether a step of i changes the oddity at k -/
def hitB (L : List Con) (i k : Nat) : Bool := (decide (0 < (partM L ((i : Int) - 1)).length) && (((partM L ((i : Int) - 1)).getD 0 0).toNat == k)) || (decide (0 < (partM L (i : Int)).length) && (((partM L (i : Int)).getD 0 0).toNat == k))
def stepC (L : List Con) (i k : Nat) : Con := ⟨(at_ L k).exp, (at_ L k).dim, (bif k == i || k == i - 1 then -(at_ L k).sign else (at_ L k).sign), (at_ L k).odd, (bif hitB L i k then ((at_ L k).oddity + 4) % 8 else (at_ L k).oddity)⟩
theorem flips_at {L : List Con} {i k : Nat} (h1 : 1 ≤ i) (hk : k < L.length) : at_ (flipS (flipS L i) (i - 1)) k = { at_ L k with sign := bif k == i || k == i - 1 then -(at_ L k).sign else (at_ L k).sign } := by
  rw [at_flip, at_flip, flipS_len]
  by_cases e1 : k = i
  · have e2 : ¬ (i - 1 = k ∧ k < L.length) := by omega
    rw [if_neg e2, if_pos ⟨e1.symm, hk⟩]
    simp [e1]
  · by_cases e2 : k = i - 1
    · rw [if_pos ⟨e2.symm, hk⟩, if_neg (by omega)]
      have e3 : (k == i) = false := by simpa using e1
      have e4 : (k == i - 1) = true := by simpa using e2
      simp only [e3, e4, Bool.or_true, cond_true]
    · rw [if_neg (by omega), if_neg (by omega)]
      have e3 : (k == i) = false := by simpa using e1
      have e4 : (k == i - 1) = false := by simpa using e2
      simp only [e3, e4, Bool.or_self, cond_false]
theorem step_at {L : List Con} {i k : Nat} (h1 : 1 ≤ i) (h2 : i < L.length) (hk : k < L.length) : at_ (stepM L i) k = stepC L i k := by
  have hM := flips_at h1 hk
  have hl : (flipS (flipS L i) (i - 1)).length = L.length := by simp only [flipS_len]
  have b1 := (part0 (L := L) (by omega) ((i : Int) - 1)).1
  have b2 := (part0 (L := L) (by omega) (i : Int)).1
  unfold stepC hitB
  generalize hp : (partM L ((i : Int) - 1)).getD 0 0 = x at *
  generalize hq : (partM L (i : Int)).getD 0 0 = y at *
  by_cases A : 0 < (partM L ((i : Int) - 1)).length
  · by_cases C : x = y
    · rw [st2 A (by rw [hp, hq]; exact C), hp, at_add4, hl, hM]
      simp only [A, decide_true, Bool.true_and]
      rw [← C]
      by_cases e : x.toNat = k
      · rw [if_pos ⟨e, hk⟩]
        simp [e]
      · rw [if_neg (by intro h; exact e h.1)]
        have e' : (x.toNat == k) = false := by simpa using e
        simp [e']
    · by_cases B : 0 < (partM L (i : Int)).length
      · rw [st1 A B (by rw [hp, hq]; exact C), hp, hq, at_add4, add4_len, hl, at_add4, hl, hM]
        simp only [A, B, decide_true, Bool.true_and]
        have hxy : x.toNat ≠ y.toNat := by omega
        by_cases e : x.toNat = k
        · rw [if_neg (by intro h; omega), if_pos ⟨e, hk⟩]
          have e' : (x.toNat == k) = true := by simpa using e
          simp only [e', Bool.true_or, cond_true]
        · have e' : (x.toNat == k) = false := by simpa using e
          by_cases f : y.toNat = k
          · rw [if_pos ⟨f, hk⟩, if_neg (by intro h; exact e h.1)]
            have f' : (y.toNat == k) = true := by simpa using f
            simp only [e', f', Bool.or_true, cond_true]
          · rw [if_neg (by intro h; exact f h.1), if_neg (by intro h; exact e h.1)]
            have f' : (y.toNat == k) = false := by simpa using f
            simp only [e', f', Bool.or_self, cond_false]
      · rw [st3 A B, hp, at_add4, hl, hM]
        simp only [A, B, decide_true, decide_false, Bool.true_and, Bool.false_and, Bool.or_false]
        by_cases e : x.toNat = k
        · rw [if_pos ⟨e, hk⟩]
          have e' : (x.toNat == k) = true := by simpa using e
          simp only [e', cond_true]
        · rw [if_neg (by intro h; exact e h.1)]
          have e' : (x.toNat == k) = false := by simpa using e
          simp only [e', cond_false]
  · by_cases B : 0 < (partM L (i : Int)).length
    · rw [st4 A B, hq, at_add4, hl, hM]
      simp only [A, B, decide_true, decide_false, Bool.true_and, Bool.false_and, Bool.false_or]
      by_cases e : y.toNat = k
      · rw [if_pos ⟨e, hk⟩]
        have e' : (y.toNat == k) = true := by simpa using e
        simp only [e', cond_true]
      · rw [if_neg (by intro h; exact e h.1)]
        have e' : (y.toNat == k) = false := by simpa using e
        simp only [e', cond_false]
    · rw [st5 A B, hM]
      simp only [A, B, decide_false, Bool.false_and, Bool.or_self, cond_false]

/- compartments hang on exponents and types alone -/
def sameT (L M : List Con) : Prop := L.length = M.length ∧ ∀ k, k < L.length → (at_ L k).exp = (at_ M k).exp ∧ (at_ L k).odd = (at_ M k).odd ∧ (at_ L k).dim = (at_ M k).dim
theorem grpA_congr {b j b' j' : Nat → Bool} : ∀ {k : Nat}, (∀ i, i < k → b i = b' i ∧ j i = j' i) → grpA b j k = grpA b' j' k
  | 0, _ => rfl
  | k + 1, h => by
    simp only [grpA]
    rw [grpA_congr (fun i hi => h i (by omega)), (h k (by omega)).1, (h k (by omega)).2]
theorem parts_same {L M : List Con} (h : sameT L M) : partsM L = partsM M := by
  unfold partsM partsA
  rw [← h.1]
  congr 1
  refine grpA_congr (fun i hi => ⟨(h.2 i hi).2.1, ?_⟩)
  unfold joinB
  rw [(h.2 i hi).1, (h.2 (i - 1) (by omega)).1, (h.2 (i - 1) (by omega)).2.1]
theorem partM_same {L M : List Con} (h : sameT L M) (x : Int) : partM L x = partM M x := by unfold partM; rw [parts_same h]
theorem step_same {L : List Con} {i : Nat} (h1 : 1 ≤ i) (h2 : i < L.length) : sameT (stepM L i) L :=
  ⟨stepM_len, fun k hk => by rw [step_at h1 h2 (by rw [stepM_len] at hk; exact hk)]; exact ⟨rfl, rfl, rfl⟩⟩
/- a step and the same step again -/
end Go.Proofs.YtcfdaddablojlaaGreatDoor.S

/- Plain: links are kept by steps; fused lists stay fused. -/
set_option linter.unusedSimpArgs false
set_option linter.unusedVariables false
namespace Go.Proofs.YtcfdaddablojlaaGreatDoor.S
open Go.QfSy Go.RowKit

theorem sumO_mod {L M : List Con} {m : Int} (h : ∀ k, k < L.length → ((at_ L k).oddity - (at_ M k).oddity) % 4 = 0) : ∀ {l : List Int}, inR L.length l → (sumO L l - sumO M l) % 4 = 0
  | [], _ => rfl
  | x :: l, hl => by
    have h1 := hl x (by simp)
    have h2 := h x.toNat (by omega)
    have ih := sumO_mod (m := m) h (l := l) (fun y hy => hl y (by simp [hy]))
    simp only [sumO]
    omega
theorem bad_same {L M : List Con} (hs : sameT L M) (h : ∀ k, k < L.length → ((at_ L k).oddity - (at_ M k).oddity) % 4 = 0) {l : List Int} (hl : inR L.length l) : badM L l = badM M l := by
  have h1 := sumO_mod (m := 0) h hl
  unfold badM totM
  by_cases hn : l.length = 2
  · have a0 := hl.at (t := 0) (by omega)
    have a1 := hl.at (t := 1) (by omega)
    rw [(hs.2 (l.getD 0 0).toNat (by omega)).2.2, (hs.2 (l.getD 1 0).toNat (by omega)).2.2]
    have e : (sumO L l % 8 % 4 == 0) = (sumO M l % 8 % 4 == 0) := by
      rw [Bool.eq_iff_iff, beq_iff_eq, beq_iff_eq]
      omega
    rw [e]
  · simp [hn]
theorem link_same {L M : List Con} (hs : sameT L M) (h : ∀ k, k < L.length → ((at_ L k).oddity - (at_ M k).oddity) % 4 = 0) {k : Nat} (hk : k < L.length) : linkM L k = linkM M k := by
  unfold linkM
  rw [(hs.2 k hk).1, (hs.2 k hk).2.1, (hs.2 (k - 1) (by omega)).1, (hs.2 (k - 1) (by omega)).2.1, partM_same hs, bad_same hs h (by rw [← partM_same hs]; exact partM_ok.1)]
theorem step_mod {L : List Con} {i : Nat} (h1 : 1 ≤ i) (h2 : i < L.length) : ∀ k, k < (stepM L i).length → ((at_ (stepM L i) k).oddity - (at_ L k).oddity) % 4 = 0 := by
  intro k hk
  rw [stepM_len] at hk
  rw [step_at h1 h2 hk]
  unfold stepC
  cases hitB L i k
  · simp
  · simp only [cond_true]; omega
theorem link_step {L : List Con} {i k : Nat} (h1 : 1 ≤ i) (h2 : i < L.length) (hk : k < L.length) : linkM (stepM L i) k = linkM L k := link_same (step_same h1 h2) (step_mod h1 h2) (by rw [stepM_len]; exact hk)

/- fused lists -/
theorem shL_same : ∀ {L M : List Con} {l s : Int}, L.length = M.length → (∀ k, k < L.length → (at_ L k).exp = (at_ M k).exp ∧ (at_ L k).dim = (at_ M k).dim) → shL L l s = shL M l s
  | [], [], _, _, _, _ => rfl
  | [], _ :: _, _, _, h, _ => by simp at h
  | _ :: _, [], _, _, h, _ => by simp at h
  | a :: L, b :: M, l, s, h, hk => by
    have h0 := hk 0 (by simp)
    have e1 : a.exp = b.exp := h0.1
    have e2 : a.dim = b.dim := h0.2
    simp only [shL, shO]
    rw [e1, e2, shL_same (by simpa using h) (fun k hk2 => by have := hk (k + 1) (by simp; omega); simpa [at_] using this)]
theorem shape_same {p : Int} {L M : List Con} (hs : sameT L M) : shapeM p L = shapeM p M := by
  unfold shapeM
  rw [shL_same hs.1 (fun k hk => ⟨(hs.2 k hk).1, (hs.2 k hk).2.2⟩)]
  have : L.isEmpty = M.isEmpty := by
    have := hs.1
    cases L <;> cases M <;> simp_all
  rw [this]
theorem dimR_same {L M : List Con} (hs : sameT L M) : ∀ {l : List Int}, inR L.length l → dimR L l = dimR M l
  | [], _ => rfl
  | x :: l, hl => by
    have h1 := hl x (by simp)
    simp only [dimR]
    rw [(hs.2 x.toNat (by omega)).2.2, dimR_same hs (fun y hy => hl y (by simp [hy]))]
/- oddities are changed at the first index of a compartment alone -/
theorem hit_first {L : List Con} {i k : Nat} (h1 : 1 ≤ i) (h2 : i < L.length) (h : hitB L i k = true) : k < L.length ∧ oddB L k = true ∧ joinB L k = false := by
  have key : ∀ a : Nat, a < L.length → 0 < (partM L (a : Int)).length → ((partM L (a : Int)).getD 0 0).toNat = k → k < L.length ∧ oddB L k = true ∧ joinB L k = false := by
    intro a ha hp hk
    have ho : oddB L a = true := by
      cases ho : oddB L a with
      | true => rfl
      | false => rw [partM_even (fun h => by rw [h.2] at ho; cases ho)] at hp; simp at hp
    obtain ⟨s, n, t, e, e1, e2, e3, e4⟩ := part_iv ha ho
    rw [e, getD_ivN (by omega)] at hk
    have : k = s := by omega
    subst this
    exact ⟨by omega, by simpa using (e4 0 (by omega)).1, e3⟩
  unfold hitB at h
  rw [Bool.or_eq_true, Bool.and_eq_true, Bool.and_eq_true, decide_eq_true_eq, decide_eq_true_eq, beq_iff_eq, beq_iff_eq] at h
  rcases h with ⟨a, b⟩ | ⟨a, b⟩
  · have e0 : ((i - 1 : Nat) : Int) = (i : Int) - 1 := by omega
    exact key (i - 1) (by omega) (by rw [e0]; exact a) (by rw [e0]; exact b)
  · exact key i h2 a b
theorem fus_step {p : Int} {L : List Con} (hf : fusM p L = true) {i : Nat} (h1 : 1 ≤ i) (h2 : i < L.length) : fusM p (stepM L i) = true := by
  have hs := step_same h1 h2
  rw [← fus_eq] at hf ⊢
  unfold fusT at hf ⊢
  rw [Bool.and_eq_true, Bool.and_eq_true, all_at, List.all_eq_true] at hf ⊢
  simp only [Bool.and_eq_true] at hf ⊢
  obtain ⟨g1, g2, g3⟩ := hf
  rw [stepM_len]
  refine ⟨by rw [shape_same hs]; exact g1, fun k hk => ?_, fun l hl => ?_⟩
  · obtain ⟨a, b⟩ := g2 k hk
    rw [step_at h1 h2 hk]
    unfold sgB at a ⊢
    unfold fusC at b ⊢
    unfold stepC
    rw [decide_eq_true_eq] at a ⊢
    rw [Bool.and_eq_true, decide_eq_true_eq, Bool.or_eq_true] at b ⊢
    refine ⟨?_, ?_, ?_⟩
    · cases (k == i || k == i - 1) <;> simp only [cond_true, cond_false] <;> omega
    · cases hitB L i k <;> simp only [cond_true, cond_false] <;> omega
    · cases hh : hitB L i k with
      | false => exact b.2
      | true => exact .inl (hit_first h1 h2 hh).2.1
  · rw [parts_same hs] at hl
    obtain ⟨z, pr⟩ := g3 l hl
    have hr := part_row hl
    have hin := (parts_rows l hl).2.1
    obtain ⟨s, n, e, e3, e4⟩ := hr
    refine ⟨?_, ?_⟩
    · unfold zerR at z ⊢
      rw [List.all_eq_true] at z ⊢
      intro x hx
      have hz := z x hx
      rw [e, tail_ivN, mem_ivN] at hx
      have hx2 : x ∈ l := by rw [e, mem_ivN]; omega
      have hlt := hin x hx2
      rw [step_at h1 h2 (by omega)]
      unfold stepC
      cases hh : hitB L i x.toNat with
      | false => exact hz
      | true =>
        have := (hit_first h1 h2 hh).2.2
        have h5 := (e4 (x.toNat - s) (by omega)).2 (by omega)
        rw [show s + (x.toNat - s) = x.toNat by omega, this] at h5
        cases h5
    · unfold parR at pr ⊢
      rw [decide_eq_true_eq] at pr ⊢
      have hne : 0 < l.length := by rw [e, ivN_len]; omega
      have h0 := hin.at hne
      rw [dimR_same hs (by rw [stepM_len]; exact hin), step_at h1 h2 (by omega)]
      unfold stepC
      cases hitB L i (l.getD 0 0).toNat <;> simp only [cond_true, cond_false] <;> omega
end Go.Proofs.YtcfdaddablojlaaGreatDoor.S

/- Plain: a fused list is fused, and its compartments are those of the raw list. -/
set_option linter.unusedSimpArgs false
set_option linter.unusedVariables false
namespace Go.Proofs.YtcfdaddablojlaaGreatDoor.S
open Go.QfSy Go.RowKit

theorem sameT.refl (L : List Con) : sameT L L := ⟨rfl, fun _ _ => ⟨rfl, rfl, rfl⟩⟩
theorem sameT.trans {A B C : List Con} (h : sameT A B) (k : sameT B C) : sameT A C :=
  ⟨h.1.trans k.1, fun i hi => ⟨((h.2 i hi).1).trans (k.2 i (by rw [← h.1]; exact hi)).1, ((h.2 i hi).2.1).trans (k.2 i (by rw [← h.1]; exact hi)).2.1, ((h.2 i hi).2.2).trans (k.2 i (by rw [← h.1]; exact hi)).2.2⟩⟩
theorem at_setO' {L : List Con} {i t : Int} {k : Nat} : at_ (setO L i t) k = if i.toNat = k ∧ k < L.length then { at_ L k with oddity := t } else at_ L k := by
  unfold setO
  rw [at_set]
  split
  · rename_i h; rw [h.1]
  · rfl
theorem setO_same {L : List Con} {i t : Int} : sameT (setO L i t) L := by
  refine ⟨setO_len, fun k _ => ?_⟩
  rw [at_setO']
  split <;> exact ⟨rfl, rfl, rfl⟩
theorem zeroP_same : ∀ {l : List Int} {L : List Con}, sameT (zeroP L l) L
  | [], L => sameT.refl L
  | i :: l, L => (zeroP_same (l := l) (L := setO L i 0)).trans setO_same
theorem fuseP_same {L0 L : List Con} {l : List Int} : sameT (fuseP L0 L l) L := setO_same.trans zeroP_same
theorem fuseG_same {L0 : List Con} : ∀ {P : List (List Int)} {L : List Con}, sameT (fuseG L0 L P) L
  | [], L => sameT.refl L
  | l :: P, L => (fuseG_same (P := P) (L := fuseP L0 L l)).trans fuseP_same
theorem fuseM_same {L : List Con} : sameT (fuseM L) L := fuseG_same
theorem sign_setO {L : List Con} {i t : Int} {k : Nat} : (at_ (setO L i t) k).sign = (at_ L k).sign := by
  rw [at_setO']; split <;> rfl
theorem sign_zeroP : ∀ {l : List Int} {L : List Con} {k : Nat}, (at_ (zeroP L l) k).sign = (at_ L k).sign
  | [], _, _ => rfl
  | i :: l, L, k => by simp only [zeroP]; rw [sign_zeroP, sign_setO]
theorem sign_fuseG {L0 : List Con} : ∀ {P : List (List Int)} {L : List Con} {k : Nat}, (at_ (fuseG L0 L P) k).sign = (at_ L k).sign
  | [], _, _ => rfl
  | l :: P, L, k => by simp only [fuseG]; rw [sign_fuseG]; unfold fuseP; rw [sign_setO, sign_zeroP]
theorem sign_fuseM {L : List Con} {k : Nat} : (at_ (fuseM L) k).sign = (at_ L k).sign := sign_fuseG
/- outside the rows nothing changes -/
theorem at_fuseG {L0 : List Con} : ∀ {P : List (List Int)} {L : List Con} {k : Nat}, (∀ l ∈ P, l ≠ []) → (∀ x ∈ P.flatten, k ≠ x.toNat) → at_ (fuseG L0 L P) k = at_ L k
  | [], _, _, _, _ => rfl
  | l :: P, L, k, hne, h => by
    simp only [List.flatten_cons, List.mem_append] at h
    simp only [fuseG]
    rw [at_fuseG (fun m hm => hne m (by simp [hm])) (fun x hx => h x (.inr hx)), at_fuseP (hne l (by simp)) (fun x hx => h x (.inl hx))]
theorem zero_at : ∀ {l : List Int} {L : List Con} {k : Nat}, k < L.length → (k : Int) ∈ l → (∀ x ∈ l, 0 ≤ x) → (at_ (zeroP L l) k).oddity = 0
  | [], _, _, _, h, _ => by simp at h
  | i :: l, L, k, hk, h, h0 => by
    simp only [zeroP]
    by_cases hl : (k : Int) ∈ l
    · exact zero_at (by rw [setO_len]; exact hk) hl (fun x hx => h0 x (by simp [hx]))
    · have e : (k : Int) = i := by
        rcases List.mem_cons.1 h with h | h
        · exact h
        · exact absurd h hl
      have hx : ∀ x ∈ l, k ≠ x.toNat := by
        intro x hx e2
        have := h0 x (by simp [hx])
        exact hl (by rw [show (k : Int) = x by omega]; exact hx)
      rw [at_zeroP hx, at_setO', if_pos ⟨by omega, hk⟩]
/- in a row: the sum at its first index, nothing elsewhere -/
theorem fuse_at {L0 : List Con} : ∀ {P : List (List Int)} {L : List Con}, P.flatten.Nodup → (∀ l ∈ P, l ≠ [] ∧ inR L.length l) → ∀ l ∈ P, ∀ k : Nat, (k : Int) ∈ l → (at_ (fuseG L0 L P) k).oddity = (if (k : Int) = l.getD 0 0 then totM L0 l else 0)
  | [], _, _, _, l, hl, _, _ => by simp at hl
  | m :: P, L, hn, hr, l, hl, k, hk => by
    simp only [List.flatten_cons] at hn
    have hd := List.nodup_append.1 hn
    simp only [fuseG]
    rcases List.mem_cons.1 hl with e | hl
    · subst e
      have hlr := hr l (by simp)
      have hkl := hlr.2 _ hk
      rw [at_fuseG (fun m hm => (hr m (by simp [hm])).1) (fun x hx e2 => ?_)]
      · unfold fuseP
        rw [at_setO', zeroP_len]
        have h0 := hlr.2.at (t := 0) (List.length_pos_iff.2 hlr.1)
        by_cases e3 : (k : Int) = l.getD 0 0
        · rw [if_pos ⟨by omega, by omega⟩, if_pos e3]
        · rw [if_neg (by intro h; omega), if_neg e3, zero_at (by omega) hk (fun x hx => (hlr.2 x hx).1)]
      · obtain ⟨m, hm, hxm⟩ := List.mem_flatten.1 hx
        have := (hr m (by simp [hm])).2 x hxm
        exact hd.2.2 _ hk x hx (by omega)
    · exact fuse_at hd.2.1 (fun m hm => by rw [fuseP_len]; exact hr m (by simp [hm])) l hl k hk
theorem fuseM_at {L : List Con} {l : List Int} (hl : l ∈ partsM L) {k : Nat} (hk : (k : Int) ∈ l) : (at_ (fuseM L) k).oddity = (if (k : Int) = l.getD 0 0 then totM L l else 0) :=
  fuse_at (parts_nodup L) (fun m hm => ⟨(parts_rows m hm).1, (parts_rows m hm).2.1⟩) l hl k hk
theorem fuseM_even {L : List Con} {k : Nat} (h : oddB L k = false) (hk : k < L.length) : at_ (fuseM L) k = at_ L k := by
  refine at_fuseG (fun l hl => (parts_rows l hl).1) (fun x hx e => ?_)
  obtain ⟨l, h1, h2⟩ := List.mem_flatten.1 hx
  have h3 := (parts_rows l h1).2.1 x h2
  have : (k : Int) ∈ (partsM L).flatten := by rw [show (k : Int) = x by omega]; exact hx
  rw [(mem_parts.1 this).2] at h; cases h
end Go.Proofs.YtcfdaddablojlaaGreatDoor.S

/- Plain: the fused list of a raw list has the shape of a fused one. -/
set_option linter.unusedSimpArgs false
set_option linter.unusedVariables false
namespace Go.Proofs.YtcfdaddablojlaaGreatDoor.S
open Go.QfSy Go.RowKit

theorem sum_par {L : List Con} (h : ∀ k, k < L.length → oddB L k = true → ((at_ L k).oddity - (at_ L k).dim) % 2 = 0) : ∀ {l : List Int}, (∀ x ∈ l, 0 ≤ x ∧ x < (L.length : Int) ∧ oddB L x.toNat = true) → (sumO L l - dimR L l) % 2 = 0
  | [], _ => rfl
  | x :: l, hl => by
    have h1 := hl x (by simp)
    have h2 := h x.toNat (by omega) h1.2.2
    have ih := sum_par h (l := l) (fun y hy => hl y (by simp [hy]))
    simp only [sumO, dimR]
    omega
theorem val2_parts {L : List Con} (h : val2M 2 L = true) : shapeM 2 L = true ∧ ∀ k, k < L.length → legalP (at_ L k) := by
  rw [val2_sh, Bool.and_eq_true, all_at] at h
  exact ⟨h.1, fun k hk => of_decide_eq_true (h.2 k hk)⟩
theorem row_odd {L : List Con} {l : List Int} (hl : l ∈ partsM L) : ∀ x ∈ l, 0 ≤ x ∧ x < (L.length : Int) ∧ oddB L x.toNat = true := by
  intro x hx
  have h1 := (parts_rows l hl).2.1 x hx
  have h2 : ((x.toNat : Nat) : Int) ∈ (partsM L).flatten := by
    rw [show ((x.toNat : Nat) : Int) = x by omega]
    exact List.mem_flatten.2 ⟨l, hl, hx⟩
  exact ⟨h1.1, h1.2, (mem_parts.1 h2).2⟩
theorem fus_fuse {L : List Con} (h : val2M 2 L = true) : fusM 2 (fuseM L) = true := by
  obtain ⟨hsh, hleg⟩ := val2_parts h
  have hs := fuseM_same (L := L)
  rw [← fus_eq]
  unfold fusT
  rw [Bool.and_eq_true, Bool.and_eq_true, all_at, List.all_eq_true]
  simp only [Bool.and_eq_true]
  rw [fuseM_len, shape_same hs, parts_same hs]
  refine ⟨hsh, fun k hk => ⟨?_, ?_⟩, fun l hl => ⟨?_, ?_⟩⟩
  · unfold sgB
    rw [decide_eq_true_eq, sign_fuseM]
    exact (hleg k hk).2.2.1
  · cases ho : oddB L k with
    | false =>
      rw [fuseM_even ho hk]
      obtain ⟨_, _, _, h4, h5, _⟩ := hleg k hk
      have h6 := h5 ho
      unfold fusC
      rw [Bool.and_eq_true, decide_eq_true_eq, Bool.or_eq_true, Bool.and_eq_true, decide_eq_true_eq, decide_eq_true_eq]
      exact ⟨h4, .inr h6⟩
    | true =>
      have hm := partM_odd hk ho
      have hv := fuseM_at hm.1 hm.2
      have hb := totM_b L (partM L k)
      have hodd : (at_ (fuseM L) k).odd = true := by rw [(hs.2 k (by rw [fuseM_len]; exact hk)).2.1]; exact ho
      unfold fusC
      rw [Bool.and_eq_true, decide_eq_true_eq, Bool.or_eq_true]
      refine ⟨?_, .inl hodd⟩
      rw [hv]
      split <;> omega
  · obtain ⟨s, n, e, e3, e4⟩ := part_row hl
    unfold zerR
    rw [List.all_eq_true]
    intro x hx
    rw [e, tail_ivN, mem_ivN] at hx
    have hx2 : ((x.toNat : Nat) : Int) ∈ l := by rw [show ((x.toNat : Nat) : Int) = x by omega, e, mem_ivN]; omega
    rw [fuseM_at hl hx2, if_neg]
    · rfl
    · rw [e, getD_ivN (by omega)]; omega
  · have hne : 0 < l.length := List.length_pos_iff.2 (parts_rows l hl).1
    have hin := (parts_rows l hl).2.1
    have h0 := hin.at hne
    have hx : (((l.getD 0 0).toNat : Nat) : Int) ∈ l := by
      rw [show (((l.getD 0 0).toNat : Nat) : Int) = l.getD 0 0 by omega]
      cases l with
      | nil => simp at hne
      | cons a l => simp
    have hp := sum_par (fun k hk ho => ((hleg k hk).2.2.2.2.2 ho).1) (row_odd hl)
    unfold parR
    rw [decide_eq_true_eq, fuseM_at hl hx, if_pos (by omega), dimR_same hs (by rw [fuseM_len]; exact hin)]
    unfold totM
    omega
end Go.Proofs.YtcfdaddablojlaaGreatDoor.S

/- Plain: choosing oddities that add up, as the reference and as package train do it. -/
set_option linter.unusedSimpArgs false
set_option linter.unusedVariables false
namespace Go.Proofs.YtcfdaddablojlaaGreatDoor.S
open Go.QfSy Go.RowKit

def wO (c : Con) (t : Int) : Con := { c with oddity := t }
/- whether the constituents of l can have legal oddities with a sum -/
def canR (L : List Con) : List Int → Int → Bool
  | [] => fun tot => tot == 0
  | i :: l => fun tot => (List.range 8).any fun t => legalB (wO (at_ L i.toNat) (t : Int)) && canR L l ((tot + 8 - (t : Int)) % 8)
/- the reference: the oddities are tried one after the other -/
def tryF (g : Int → List Con → Bool × List Con) (i tot : Int) : Nat → Nat → List Con → Bool × List Con
  | 0, _, M => (false, M)
  | n + 1, t, M => bif legalB (at_ (setO M i (t : Int)) i.toNat) then
      (bif (g ((tot + 8 - (t : Int)) % 8) (setO M i (t : Int))).1 then (true, (g ((tot + 8 - (t : Int)) % 8) (setO M i (t : Int))).2) else tryF g i tot n (t + 1) (g ((tot + 8 - (t : Int)) % 8) (setO M i (t : Int))).2)
    else tryF g i tot n (t + 1) (setO M i (t : Int))
def refF : List Int → Int → List Con → Bool × List Con
  | [] => fun tot M => (tot == 0, M)
  | i :: l => fun tot M => tryF (refF l) i tot 8 0 M
/- package train: the least oddity for which the rest can have the sum that is left -/
def findT (p : Nat → Bool) : Nat → Nat → Option Nat
  | 0, _ => none
  | n + 1, t => bif p t then some t else findT p n (t + 1)
def lstP (M : List Con) (i : Int) (l : List Int) (tot : Int) (t : Nat) : Bool := legalB (wO (at_ M i.toNat) (t : Int)) && canR M l ((tot - (t : Int) + 8) % 8)
def trF : List Int → Int → List Con → Option (List Con)
  | [] => fun _ M => some M
  | i :: l => fun tot M => match findT (lstP M i l tot) 8 0 with
    | none => none
    | some t => trF l ((tot - (t : Int) + 8) % 8) (setO M i (t : Int))

/- lists that differ in the oddities of l alone -/
structure agr (l : List Int) (A B : List Con) : Prop where
  len : A.length = B.length
  eq : ∀ k, wO (at_ A k) 0 = wO (at_ B k) 0
  out : ∀ k : Nat, (k : Int) ∉ l → at_ A k = at_ B k
theorem agr.refl (l : List Int) (A : List Con) : agr l A A := ⟨rfl, fun _ => rfl, fun _ _ => rfl⟩
theorem agr.trans {l : List Int} {A B C : List Con} (h : agr l A B) (k : agr l B C) : agr l A C := ⟨h.len.trans k.len, fun j => (h.eq j).trans (k.eq j), fun j hj => (h.out j hj).trans (k.out j hj)⟩
theorem agr.symm {l : List Int} {A B : List Con} (h : agr l A B) : agr l B A := ⟨h.len.symm, fun j => (h.eq j).symm, fun j hj => (h.out j hj).symm⟩
theorem agr.mono {l l' : List Int} {A B : List Con} (h : agr l A B) (k : ∀ x ∈ l, x ∈ l') : agr l' A B := ⟨h.len, h.eq, fun j hj => h.out j (fun hm => hj (k _ hm))⟩
theorem wO_eq {c d : Con} (h : wO c 0 = wO d 0) (t : Int) : wO c t = wO d t := by
  have : wO (wO c 0) t = wO (wO d 0) t := by rw [h]
  exact this
theorem setO_agr {l : List Int} {A : List Con} {i t : Int} (h0 : 0 ≤ i) (hi : i ∈ l) : agr l (setO A i t) A := by
  refine ⟨setO_len, fun k => ?_, fun k hk => ?_⟩
  · rw [at_setO']
    split
    · rfl
    · rfl
  · exact at_setO (fun e => hk (by rw [e]; rw [Int.toNat_of_nonneg h0]; exact hi))
theorem setO_agr2 {l : List Int} {A B : List Con} {i t : Int} (h0 : 0 ≤ i) (h : agr (i :: l) A B) : agr l (setO A i t) (setO B i t) := by
  refine ⟨by rw [setO_len, setO_len]; exact h.len, fun k => ?_, fun k hk => ?_⟩
  · rw [at_setO', at_setO', h.len]
    split
    · exact h.eq k
    · exact h.eq k
  · rw [at_setO', at_setO', h.len]
    by_cases hk' : i.toNat = k
    · by_cases hl : k < B.length
      · rw [if_pos ⟨hk', hl⟩, if_pos ⟨hk', hl⟩]
        exact wO_eq (h.eq k) t
      · rw [if_neg (fun e => hl e.2), if_neg (fun e => hl e.2)]
        have e1 : at_ A k = Con.zero := by have := h.len; simp [at_, List.getD_eq_getElem?_getD, List.getElem?_eq_none (show A.length ≤ k by omega)]
        have e2 : at_ B k = Con.zero := by simp [at_, List.getD_eq_getElem?_getD, List.getElem?_eq_none (show B.length ≤ k by omega)]
        rw [e1, e2]
    · rw [if_neg (fun e => hk' e.1), if_neg (fun e => hk' e.1)]
      refine h.out k (fun hm => ?_)
      rcases List.mem_cons.1 hm with e | e
      · exact hk' (by rw [← e]; rfl)
      · exact hk e
theorem canR_agr {A B : List Con} (h : ∀ k, wO (at_ A k) 0 = wO (at_ B k) 0) : ∀ {l : List Int} {tot : Int}, canR A l tot = canR B l tot
  | [], _ => rfl
  | i :: l, tot => by
    simp only [canR]
    congr 1
    funext t
    rw [wO_eq (h i.toNat) t, canR_agr h]
theorem lstP_agr {A B : List Con} (h : ∀ k, wO (at_ A k) 0 = wO (at_ B k) 0) (i : Int) (l : List Int) (tot : Int) : lstP A i l tot = lstP B i l tot := by
  funext t
  unfold lstP
  rw [wO_eq (h i.toNat) t, canR_agr h]
theorem findT_any {p : Nat → Bool} : ∀ {n t : Nat}, (findT p n t).isSome = (List.range' t n).any p
  | 0, _ => rfl
  | n + 1, t => by
    simp only [findT, List.range'_succ, List.any_cons]
    cases p t with
    | true => rfl
    | false => simp only [cond_false, Bool.false_or]; exact findT_any
theorem lst_sum (tot : Int) (t : Nat) : (tot - (t : Int) + 8) % 8 = (tot + 8 - (t : Int)) % 8 := by congr 1; omega
theorem canR_find (M : List Con) (i : Int) (l : List Int) (tot : Int) : canR M (i :: l) tot = (findT (lstP M i l tot) 8 0).isSome := by
  rw [findT_any, ← List.range_eq_range']
  simp only [canR]
  congr 1
  funext t
  unfold lstP
  rw [lst_sum]
theorem at_own {M : List Con} {i t : Int} (hi : i.toNat < M.length) : at_ (setO M i t) i.toNat = wO (at_ M i.toNat) t := by
  rw [at_setO', if_pos ⟨rfl, hi⟩]; rfl

theorem tryF_spec {l : List Int} {i tot : Int} {M : List Con} (h0 : 0 ≤ i) (hi : i.toNat < M.length)
    (ih1 : ∀ tot M0, M0.length = M.length → (refF l tot M0).1 = canR M0 l tot) (ih2 : ∀ tot M0, M0.length = M.length → agr l (refF l tot M0).2 M0) : ∀ {n t : Nat} {M0 : List Con}, agr (i :: l) M0 M →
    agr (i :: l) (tryF (refF l) i tot n t M0).2 M ∧ (match findT (lstP M i l tot) n t with
      | none => (tryF (refF l) i tot n t M0).1 = false
      | some t0 => (tryF (refF l) i tot n t M0).1 = true ∧ ∃ M1, agr l M1 (setO M i (t0 : Int)) ∧ canR M1 l ((tot + 8 - (t0 : Int)) % 8) = true ∧ (tryF (refF l) i tot n t M0).2 = (refF l ((tot + 8 - (t0 : Int)) % 8) M1).2)
  | 0, t, M0, hM => ⟨hM, rfl⟩
  | n + 1, t, M0, hM => by
    have hi0 : i.toNat < M0.length := by rw [hM.len]; exact hi
    have hs : agr (i :: l) (setO M0 i (t : Int)) M := (setO_agr h0 List.mem_cons_self).trans hM
    have e1 : legalB (at_ (setO M0 i (t : Int)) i.toNat) = legalB (wO (at_ M i.toNat) (t : Int)) := by rw [at_own hi0, wO_eq (hM.eq _)]
    have e2 : (refF l ((tot + 8 - (t : Int)) % 8) (setO M0 i (t : Int))).1 = canR M l ((tot + 8 - (t : Int)) % 8) := by rw [ih1 _ _ hs.len, canR_agr hs.eq]
    have e3 : lstP M i l tot t = (legalB (wO (at_ M i.toNat) (t : Int)) && canR M l ((tot + 8 - (t : Int)) % 8)) := by unfold lstP; rw [lst_sum]
    have hlen : (setO M0 i (t : Int)).length = M.length := hs.len
    have h2 : agr (i :: l) (refF l ((tot + 8 - (t : Int)) % 8) (setO M0 i (t : Int))).2 M := ((ih2 _ _ hlen).mono (fun x hx => List.mem_cons_of_mem _ hx)).trans hs
    simp only [tryF, findT, e1, e2, e3]
    cases hl : legalB (wO (at_ M i.toNat) (t : Int)) with
    | false =>
      simp only [cond_false, Bool.false_and]
      exact tryF_spec h0 hi ih1 ih2 hs
    | true =>
      cases hc : canR M l ((tot + 8 - (t : Int)) % 8) with
      | false =>
        simp only [cond_false, cond_true, Bool.and_false]
        exact tryF_spec h0 hi ih1 ih2 h2
      | true =>
        simp only [cond_true, Bool.and_true]
        exact ⟨h2, by trivial, setO M0 i (t : Int), setO_agr2 h0 hM, by rw [canR_agr hs.eq]; exact hc, by trivial⟩

theorem ref_spec : ∀ {l : List Int} {n : Nat}, inR n l → (∀ tot M, M.length = n → (refF l tot M).1 = canR M l tot) ∧ (∀ tot M, M.length = n → agr l (refF l tot M).2 M) ∧
    (∀ tot M M', M.length = n → canR M l tot = true → agr l M' M → trF l tot M' = some (refF l tot M).2)
  | [], n, _ => ⟨fun _ _ _ => rfl, fun _ _ _ => .refl _ _, fun tot M M' hn _ h => by
      simp only [trF, refF]
      congr 1
      refine list_ext h.len (fun k _ => h.out k (by simp))⟩
  | i :: l, n, hl => by
    obtain ⟨a1, a2, a3⟩ := ref_spec (l := l) (n := n) (fun x hx => hl x (List.mem_cons_of_mem _ hx))
    have hi := hl i List.mem_cons_self
    have b1 : ∀ M : List Con, M.length = n → ∀ tot M0, M0.length = M.length → (refF l tot M0).1 = canR M0 l tot := fun M hM tot M0 h => a1 tot M0 (h.trans hM)
    have b2 : ∀ M : List Con, M.length = n → ∀ tot M0, M0.length = M.length → agr l (refF l tot M0).2 M0 := fun M hM tot M0 h => a2 tot M0 (h.trans hM)
    refine ⟨fun tot M hn => ?_, fun tot M hn => ?_, fun tot M M' hn hc h => ?_⟩
    · have := (tryF_spec (tot := tot) hi.1 (by omega) (b1 M hn) (b2 M hn) (n := 8) (t := 0) (agr.refl _ M)).2
      rw [canR_find]
      show (tryF (refF l) i tot 8 0 M).1 = _
      revert this
      cases findT (lstP M i l tot) 8 0 with
      | none => exact fun h => h
      | some t0 => exact fun h => h.1
    · exact (tryF_spec (tot := tot) hi.1 (by omega) (b1 M hn) (b2 M hn) (n := 8) (t := 0) (agr.refl _ M)).1
    · have := (tryF_spec (tot := tot) hi.1 (by omega) (b1 M hn) (b2 M hn) (n := 8) (t := 0) (agr.refl _ M)).2
      rw [canR_find] at hc
      simp only [trF]
      rw [lstP_agr h.eq]
      revert this hc
      cases findT (lstP M i l tot) 8 0 with
      | none => intro hc; cases hc
      | some t0 =>
        rintro _ ⟨_, M1, h1, h2, h3⟩
        show trF l ((tot - (t0 : Int) + 8) % 8) (setO M' i (t0 : Int)) = some (tryF (refF l) i tot 8 0 M).2
        rw [h3, lst_sum]
        exact a3 _ M1 _ (by rw [h1.len, setO_len]; exact hn) h2 ((setO_agr2 hi.1 h).trans h1.symm)

/- the whole list, row by row -/
def refG (L0 : List Con) : List (List Int) → List Con → Option (List Con)
  | [], M => some M
  | l :: P, M => bif (refF l (totM L0 l) M).1 then refG L0 P (refF l (totM L0 l) M).2 else none
def trG : List (List Int) → List Con → Option (List Con)
  | [], M => some M
  | l :: P, M => match trF l (at_ M (l.getD 0 0).toNat).oddity M with
    | none => none
    | some M1 => trG P M1
theorem trF_none {l : List Int} {tot : Int} {M : List Con} (hne : l ≠ []) (h : canR M l tot = false) : trF l tot M = none := by
  cases l with
  | nil => exact absurd rfl hne
  | cons i l =>
    rw [canR_find] at h
    simp only [trF]
    cases hf : findT (lstP M i l tot) 8 0 with
    | none => rfl
    | some t => rw [hf] at h; cases h
theorem trG_eq {L0 : List Con} : ∀ {P : List (List Int)} {M : List Con}, M.length = L0.length → P.flatten.Nodup → (∀ l ∈ P, l ≠ [] ∧ inR L0.length l ∧ totM L0 l = (at_ L0 (l.getD 0 0).toNat).oddity) → (∀ x ∈ P.flatten, at_ M x.toNat = at_ L0 x.toNat) → trG P M = refG L0 P M
  | [], M, _, _, _, _ => rfl
  | l :: P, M, hn, hd, hP, hM => by
    obtain ⟨h1, h2, h3⟩ := hP l List.mem_cons_self
    obtain ⟨a1, a2, a3⟩ := ref_spec (l := l) (n := L0.length) h2
    have hmem : l.getD 0 0 ∈ l := by cases l with | nil => exact absurd rfl h1 | cons a l => simp
    have e : (at_ M (l.getD 0 0).toNat).oddity = totM L0 l := by rw [h3, hM _ (by simp only [List.flatten_cons, List.mem_append]; exact .inl hmem)]
    simp only [trG, refG]
    rw [e, a1 _ _ hn]
    cases hc : canR M l (totM L0 l) with
    | false => rw [trF_none h1 hc]; rfl
    | true =>
      rw [a3 _ M M hn hc (.refl _ _)]
      simp only [cond_true]
      simp only [List.flatten_cons, List.nodup_append] at hd
      have g := a2 (totM L0 l) M hn
      refine trG_eq (g.len.trans hn) hd.2.1 (fun x hx => hP x (List.mem_cons_of_mem _ hx)) (fun x hx => ?_)
      have hx0 : 0 ≤ x := by
        obtain ⟨q, hq, hxq⟩ := List.mem_flatten.1 hx
        exact ((hP q (List.mem_cons_of_mem _ hq)).2.1 x hxq).1
      rw [g.out x.toNat (fun hm => by rw [Int.toNat_of_nonneg hx0] at hm; exact hd.2.2 x hm x hx rfl)]
      exact hM x (by simp only [List.flatten_cons, List.mem_append]; exact .inr hx)
theorem sumO_zero {L : List Con} : ∀ {l : List Int}, (l.all fun i => (at_ L i.toNat).oddity == 0) = true → sumO L l = 0
  | [], _ => rfl
  | i :: l, h => by
    simp only [List.all_cons, Bool.and_eq_true, beq_iff_eq] at h
    simp only [sumO, h.1, sumO_zero h.2]; rfl
/- in a fused list the total of a compartment lies at its first index -/
theorem fus_tot {p : Int} {L : List Con} (h : fusM p L = true) : ∀ l ∈ partsM L, l ≠ [] ∧ inR L.length l ∧ totM L l = (at_ L (l.getD 0 0).toNat).oddity := by
  intro l hl
  obtain ⟨h1, h2, _⟩ := parts_rows l hl
  refine ⟨h1, h2, ?_⟩
  rw [← fus_eq] at h
  simp only [fusT, Bool.and_eq_true] at h
  obtain ⟨_, h3, h4⟩ := h
  have h5 := List.all_eq_true.1 h4 l hl
  simp only [Bool.and_eq_true] at h5
  cases l with
  | nil => exact absurd rfl h1
  | cons i l =>
    have hz : sumO L l = 0 := sumO_zero h5.1
    have hi := h2 i List.mem_cons_self
    have hf := (all_at _).1 h3 i.toNat (by omega)
    simp only [Bool.and_eq_true, fusC, decide_eq_true_eq] at hf
    show (sumO L (i :: l)) % 8 = (at_ L i.toNat).oddity
    simp only [sumO, hz]
    have := hf.2.1
    omega
def refM (L : List Con) : Option (List Con) := refG L (partsM L) L
theorem trG_refM {p : Int} {L : List Con} (h : fusM p L = true) : trG (partsM L) L = refM L :=
  trG_eq rfl (parts_nodup L) (fus_tot h) (fun _ _ => rfl)
end Go.Proofs.YtcfdaddablojlaaGreatDoor.S

/- Plain: the sums that the oddities of some constituents can have, as package train finds them. -/
set_option linter.unusedSimpArgs false
set_option linter.unusedVariables false
namespace Go.Proofs.YtcfdaddablojlaaGreatDoor.S
open Go.QfSy Go.RowKit

/- one constituent more -/
def stepS (S : Nat → Bool) (c : Con) (q : Nat) : Bool := (List.range 8).any fun o => legalB (wO c (o : Int)) && S ((q + 8 - o) % 8)
def smF (M : List Con) : List Int → (Nat → Bool) → Nat → Bool
  | [], S => S
  | i :: l, S => smF M l (stepS S (at_ M i.toNat))
/- the oddities below o -/
def midS (S : Nat → Bool) (c : Con) (o q : Nat) : Bool := (List.range o).any fun a => legalB (wO c (a : Int)) && S ((q + 8 - a) % 8)
theorem midS_succ (S : Nat → Bool) (c : Con) (o q : Nat) : midS S c (o + 1) q = (midS S c o q || (legalB (wO c (o : Int)) && S ((q + 8 - o) % 8))) := by
  unfold midS
  rw [List.range_succ, List.any_append]
  simp
/- the sums below s -/
def innS (g : Bool) (S n : Nat → Bool) (o s q : Nat) : Bool := n q || (g && (Nat.blt ((q + 8 - o) % 8) s && S ((q + 8 - o) % 8)))
theorem innS_zero (g : Bool) (S n : Nat → Bool) (o q : Nat) : innS g S n o 0 q = n q := by
  unfold innS
  have : Nat.blt ((q + 8 - o) % 8) 0 = false := by
    cases h : Nat.blt ((q + 8 - o) % 8) 0 with
    | false => rfl
    | true => have := Nat.le_of_ble_eq_true h; omega
  rw [this]; simp
theorem innS_last (g : Bool) (S n : Nat → Bool) (o q : Nat) : innS g S n o 8 q = (n q || (g && S ((q + 8 - o) % 8))) := by
  unfold innS
  have : Nat.blt ((q + 8 - o) % 8) 8 = true := Nat.ble_eq_true_of_le (by omega)
  rw [this, Bool.true_and]
theorem blt_iff {a b : Nat} : Nat.blt a b = decide (a < b) := by
  cases h : Nat.blt a b with
  | true => have : a + 1 ≤ b := Nat.le_of_ble_eq_true h; simp; omega
  | false =>
    cases h2 : decide (a < b) with
    | false => rfl
    | true =>
      have : Nat.blt a b = true := Nat.ble_eq_true_of_le (of_decide_eq_true h2)
      rw [h] at this; cases this
theorem innS_yes {g : Bool} {S n : Nat → Bool} {o s q : Nat} (hq : q < 8) (ho : o ≤ 8) (hs : s < 8) (h1 : S s = true) (h2 : g = true) : (bif Nat.beq q ((s + o) % 8) then true else innS g S n o s q) = innS g S n o (s + 1) q := by
  unfold innS
  rw [blt_iff, blt_iff, h2]
  cases h : Nat.beq q ((s + o) % 8) with
  | true =>
    have e := Nat.eq_of_beq_eq_true h
    have e2 : (q + 8 - o) % 8 = s := by omega
    rw [e2, h1]; simp
  | false =>
    have e : q ≠ (s + o) % 8 := fun e => by rw [← e, Nat.beq_refl] at h; cases h
    have e2 : (q + 8 - o) % 8 ≠ s := by omega
    have e3 : decide ((q + 8 - o) % 8 < s + 1) = decide ((q + 8 - o) % 8 < s) := by
      rw [decide_eq_decide]; omega
    rw [e3]; rfl
theorem innS_no {g : Bool} {S n : Nat → Bool} {o s q : Nat} (h : S s = false ∨ g = false) : innS g S n o s q = innS g S n o (s + 1) q := by
  unfold innS
  rw [blt_iff, blt_iff]
  rcases h with h | h
  · by_cases e : (q + 8 - o) % 8 = s
    · rw [e, h]; simp
    · have e3 : decide ((q + 8 - o) % 8 < s + 1) = decide ((q + 8 - o) % 8 < s) := by
        rw [decide_eq_decide]; omega
      rw [e3]
  · rw [h]; rfl

/- choosing from the front and from behind comes to the same -/
theorem any_iff {p : Nat → Bool} {n : Nat} : (List.range n).any p = true ↔ ∃ a, a < n ∧ p a = true := by
  rw [List.any_eq_true]
  constructor
  · rintro ⟨a, h1, h2⟩; exact ⟨a, List.mem_range.1 h1, h2⟩
  · rintro ⟨a, h1, h2⟩; exact ⟨a, List.mem_range.2 h1, h2⟩
theorem canR_tot {M : List Con} {l : List Int} {a b : Int} (h : a = b) : canR M l a = canR M l b := by rw [h]
theorem smF_any {M : List Con} : ∀ {l : List Int} {S : Nat → Bool} {q : Nat}, q < 8 → (smF M l S q = true ↔ ∃ a, a < 8 ∧ S a = true ∧ canR M l (((q + 8 - a) % 8 : Nat) : Int) = true)
  | [], S, q, hq => by
    show S q = true ↔ _
    constructor
    · intro h
      refine ⟨q, hq, h, ?_⟩
      have : (q + 8 - q) % 8 = 0 := by omega
      rw [this]; rfl
    · rintro ⟨a, h1, h2, h3⟩
      have h3 : ((((q + 8 - a) % 8 : Nat) : Int) == 0) = true := h3
      rw [beq_iff_eq] at h3
      have : a = q := by omega
      rw [← this]; exact h2
  | i :: l, S, q, hq => by
    show smF M l (stepS S (at_ M i.toNat)) q = true ↔ _
    rw [smF_any hq]
    constructor
    · rintro ⟨a, h1, h2, h3⟩
      obtain ⟨o, ho, h4⟩ := any_iff.1 h2
      rw [Bool.and_eq_true] at h4
      refine ⟨(a + 8 - o) % 8, by omega, h4.2, ?_⟩
      simp only [canR]
      refine any_iff.2 ⟨o, ho, ?_⟩
      rw [Bool.and_eq_true]
      refine ⟨h4.1, ?_⟩
      rw [← h3]
      exact canR_tot (by omega)
    · rintro ⟨a, h1, h2, h3⟩
      simp only [canR] at h3
      obtain ⟨o, ho, h4⟩ := any_iff.1 h3
      rw [Bool.and_eq_true] at h4
      refine ⟨(a + o) % 8, by omega, any_iff.2 ⟨o, ho, ?_⟩, ?_⟩
      · rw [Bool.and_eq_true]
        refine ⟨h4.1, ?_⟩
        have : ((a + o) % 8 + 8 - o) % 8 = a := by omega
        rw [this]; exact h2
      · rw [← h4.2]
        exact canR_tot (by omega)
def s0F (q : Nat) : Bool := Nat.beq q 0
theorem smF_canR {M : List Con} {l : List Int} {q : Nat} (hq : q < 8) : smF M l s0F q = canR M l (q : Int) := by
  have h := smF_any (M := M) (l := l) (S := s0F) hq
  have e : (∃ a, a < 8 ∧ s0F a = true ∧ canR M l (((q + 8 - a) % 8 : Nat) : Int) = true) ↔ canR M l (q : Int) = true := by
    constructor
    · rintro ⟨a, h1, h2, h3⟩
      have h2 : a = 0 := Nat.eq_of_beq_eq_true h2
      subst h2
      rw [← h3]; exact canR_tot (by omega)
    · intro h
      refine ⟨0, by omega, rfl, ?_⟩
      rw [← h]; exact canR_tot (by omega)
  rw [e] at h
  cases h1 : smF M l s0F q <;> cases h2 : canR M l (q : Int) <;> simp_all
theorem smF_append {M : List Con} : ∀ {a b : List Int} {S : Nat → Bool}, smF M (a ++ b) S = smF M b (smF M a S)
  | [], _, _ => rfl
  | i :: a, b, S => by show smF M (a ++ b) _ = smF M b (smF M a _); rw [smF_append]
end Go.Proofs.YtcfdaddablojlaaGreatDoor.S

/- train.least. -/
set_option linter.unusedSimpArgs false
set_option linter.unusedVariables false
namespace Go.Proofs.YtcfdaddablojlaaGreatDoor.S
open Go.QfSy Go.RowKit

def b8 (n : Nat → Bool) : List AV := [.vbool (n 0), .vbool (n 1), .vbool (n 2), .vbool (n 3), .vbool (n 4), .vbool (n 5), .vbool (n 6), .vbool (n 7)]
theorem b8_get {n : Nat → Bool} {s : Nat} (h : s < 8) : [n 0, n 1, n 2, n 3, n 4, n 5, n 6, n 7].getD s false = n s := by
  rcases s with _ | _ | _ | _ | _ | _ | _ | _ | s
  all_goals first | rfl | omega
def cAv (c : Con) (o : AV) : List AV := [.vint .i64 c.exp, .vint .i64 c.dim, .vint .i64 c.sign, .vbool c.odd, o]
def lstC (c : Con) (M : List Con) (l : List Int) (tot : Int) (t : Nat) : Bool := legalB (wO c (t : Int)) && canR M l ((tot - (t : Int) + 8) % 8)
theorem lstC_P (M : List Con) (i : Int) (l : List Int) (tot : Int) : lstP M i l tot = lstC (at_ M i.toNat) M l tot := rfl
def lsF (c : Con) (M : List Con) (l : List Int) (tot : Int) : Option Nat := findT (lstC c M l tot) 8 0

noncomputable def leT (M : List Con) (l : List Int) (tot : Int) (j : AV) : List (Nat × AV) := [(1, (roC M).av), (3, .vint .i64 tot), (4, .ptr 1000 0), (8, .int .i64 0), (9, .bool false), (10, .ptr 1001 0), (18, (rI .i64 l).av), (19, .vint .i64 l.length), (20, j)]
noncomputable def leH (c : Con) (Sg : Nat → Bool) : List (Nat × Blk) := [(1000, ⟨.plain (cAv c (.vint .i64 c.oddity)), 49, 0, false, true⟩), (1001, ⟨.plain (b8 Sg), 89, 0, false, true⟩)]
noncomputable def leT2 (M : List Con) (l : List Int) (tot : Int) (j : Nat) : List (Nat × AV) := leT M l tot (.vint .i64 (j : Int)) ++ [(13, .ptr 1010 0), (14, .ptr 1011 0)]
noncomputable def leH2 (c : Con) (Sg n : Nat → Bool) (cc : Con) (o : AV) : List (Nat × Blk) := leH c Sg ++ [(1010, ⟨.plain (b8 n), 89, 0, false, true⟩), (1011, ⟨.plain (cAv cc o), 49, 0, false, true⟩)]

/- the sums -/
noncomputable def leC (c : Con) (M : List Con) (l : List Int) (tot : Int) (j : Nat) (Sg n : Nat → Bool) (cc : Con) (o : Nat) : Ann := ⟨⟨leT2 M l tot j ++ [(36, .agg (b8 Sg)), (37, .int .i64 0)], leH2 c Sg n cc (.vint .i64 (o : Int)), 1020⟩, none, fun _ =>
  (.exit 4, ⟨leT2 M l tot j, leH2 c Sg (innS (legalB (wO cc (o : Int))) Sg n o 8) cc (.vint .i64 (o : Int)), 1020⟩)⟩
theorem le_idx {s o : Nat} (hs : s < 8) (ho : o ≤ 8) : ((IntKind.i64.wrap ((s : Int) + (o : Int))).tmod 8).toNat = (s + o) % 8 := by
  rw [w64 (by omega) (by omega), Int.tmod_eq_emod_of_nonneg (by omega)]
  omega
set_option maxRecDepth 100000 in
theorem le_c (c : Con) (M : List Con) (l : List Int) (tot : Int) (j : Nat) (Sg n : Nat → Bool) (cc : Con) (o : Nat) (ho : o ≤ 8) : AnnOk Tryz.prog EV.ng (Nat.max 4 Tryz.f61.ntmps) (bodyAt Tryz.f61 [0, 1, 0, 0, 1, 0, 0, 1, 0, 1, 1, 1, 0, 0, 1, 1, 0, 0, 1, 0, 1, 1]) (leC c M l tot j Sg n cc o) := by
  refine ann_of evOk (callF_ok evOk (orcOf_ok entsVS_ok) 8) none_ann (by kernel_rfl) (by kernel_rfl) (fun i : Nat => (fun (s : Nat) => (⟨leT2 M l tot j ++ [(36, .agg (b8 Sg)), (37, .vint .i64 (s : Int))], leH2 c Sg (innS (legalB (wO cc (o : Int))) Sg n o s) cc (.vint .i64 (o : Int)), 1020⟩ : St)) i) (fun i : Nat => (fun (s : Nat) => (8 - s : Nat)) i) (fun (d : Bool) (i : Nat) => (fun (s : Nat) => (s ≤ 8 : Prop)) i) ?_ ?_
  · intro d hd
    exact ⟨(0), [M.length = M.length ∧ (fun i => (M.getD i Con.zero).rvs) = fun i => (M.getD i Con.zero).rvs, tot = tot, l.length = l.length ∧ (fun j => [RV.int IntKind.i64 (l.getD j (0 : Int))]) = fun j => [RV.int IntKind.i64 (l.getD j (0 : Int))], (↑l.length : Int) = (↑l.length : Int), (↑j : Int) = (↑j : Int), Sg (0 : Nat) = Sg (0 : Nat), Sg (1 : Nat) = Sg (1 : Nat), Sg (2 : Nat) = Sg (2 : Nat), Sg (3 : Nat) = Sg (3 : Nat), Sg (4 : Nat) = Sg (4 : Nat), Sg (5 : Nat) = Sg (5 : Nat), Sg (6 : Nat) = Sg (6 : Nat), Sg (7 : Nat) = Sg (7 : Nat), (0 : Int) = (↑(0 : Nat) : Int), c.exp = c.exp, c.dim = c.dim, c.sign = c.sign, c.odd = c.odd, c.oddity = c.oddity, Sg (0 : Nat) = Sg (0 : Nat), Sg (1 : Nat) = Sg (1 : Nat), Sg (2 : Nat) = Sg (2 : Nat), Sg (3 : Nat) = Sg (3 : Nat), Sg (4 : Nat) = Sg (4 : Nat), Sg (5 : Nat) = Sg (5 : Nat), Sg (6 : Nat) = Sg (6 : Nat), Sg (7 : Nat) = Sg (7 : Nat), n (0 : Nat) = innS (legalB (wO cc (↑o : Int))) Sg n o (0 : Nat) (0 : Nat), n (1 : Nat) = innS (legalB (wO cc (↑o : Int))) Sg n o (0 : Nat) (1 : Nat), n (2 : Nat) = innS (legalB (wO cc (↑o : Int))) Sg n o (0 : Nat) (2 : Nat), n (3 : Nat) = innS (legalB (wO cc (↑o : Int))) Sg n o (0 : Nat) (3 : Nat), n (4 : Nat) = innS (legalB (wO cc (↑o : Int))) Sg n o (0 : Nat) (4 : Nat), n (5 : Nat) = innS (legalB (wO cc (↑o : Int))) Sg n o (0 : Nat) (5 : Nat), n (6 : Nat) = innS (legalB (wO cc (↑o : Int))) Sg n o (0 : Nat) (6 : Nat), n (7 : Nat) = innS (legalB (wO cc (↑o : Int))) Sg n o (0 : Nat) (7 : Nat), cc.exp = cc.exp, cc.dim = cc.dim, cc.sign = cc.sign, cc.odd = cc.odd, (↑o : Int) = (↑o : Int)], by kernel_rfl, (by refine ⟨?_, ?_, ?_, ?_, ?_, ?_, ?_, ?_, ?_, ?_, ?_, ?_, ?_, ?_, ?_, ?_, ?_, ?_, ?_, ?_, ?_, ?_, ?_, ?_, ?_, ?_, ?_, ?_, ?_, ?_, ?_, ?_, ?_, ?_, ?_, ?_, ?_, ?_, ?_, (?_ : (↑o : Int) = (↑o : Int))⟩ <;> (first | (with_reducible rfl) | exact ⟨rfl, rfl⟩ | rfl | exact (innS_zero _ _ _ _ _).symm)), (by exact Nat.zero_le _)⟩
  · rintro d hd s hI
    cases d
    · -- d = false
      exact Bool.noConfusion (show false = true from hd)
    · -- d = true
      have hs : s ≤ 8 := hI
      have ek : IntKind.i64.wrap ((s : Int) + 1) = ((s + 1 : Nat) : Int) := by rw [w64 (by omega) (by omega)]; omega
      refine Or.elim (Bool.eq_false_or_eq_true (decide ((↑s : Int) < (8 : Int)))) (fun d1 => Or.elim (Bool.eq_false_or_eq_true ([Sg (0 : Nat), Sg (1 : Nat), Sg (2 : Nat), Sg (3 : Nat), Sg (4 : Nat), Sg (5 : Nat), Sg (6 : Nat), Sg (7 : Nat)].getD s false)) (fun d2 => Or.elim (Bool.eq_false_or_eq_true (legalB (Con.mk cc.exp cc.dim cc.sign cc.odd (↑o : Int)))) (fun d3 => ⟨[true, true, true], .inl ⟨(s + 1), [M.length = M.length ∧ (fun i => (M.getD i Con.zero).rvs) = fun i => (M.getD i Con.zero).rvs, tot = tot, l.length = l.length ∧ (fun j => [RV.int IntKind.i64 (l.getD j (0 : Int))]) = fun j => [RV.int IntKind.i64 (l.getD j (0 : Int))], (↑l.length : Int) = (↑l.length : Int), (↑j : Int) = (↑j : Int), Sg (0 : Nat) = Sg (0 : Nat), Sg (1 : Nat) = Sg (1 : Nat), Sg (2 : Nat) = Sg (2 : Nat), Sg (3 : Nat) = Sg (3 : Nat), Sg (4 : Nat) = Sg (4 : Nat), Sg (5 : Nat) = Sg (5 : Nat), Sg (6 : Nat) = Sg (6 : Nat), Sg (7 : Nat) = Sg (7 : Nat), IntKind.i64.wrap ((↑s : Int) + (1 : Int)) = (↑(s + (1 : Nat)) : Int), c.exp = c.exp, c.dim = c.dim, c.sign = c.sign, c.odd = c.odd, c.oddity = c.oddity, Sg (0 : Nat) = Sg (0 : Nat), Sg (1 : Nat) = Sg (1 : Nat), Sg (2 : Nat) = Sg (2 : Nat), Sg (3 : Nat) = Sg (3 : Nat), Sg (4 : Nat) = Sg (4 : Nat), Sg (5 : Nat) = Sg (5 : Nat), Sg (6 : Nat) = Sg (6 : Nat), Sg (7 : Nat) = Sg (7 : Nat), (bif Nat.beq (0 : Nat) (((IntKind.i64.wrap ((↑s : Int) + (↑o : Int))).tmod (8 : Int)).toNat + (0 : Nat)) then true else innS (legalB (wO cc (↑o : Int))) Sg n o s (0 : Nat)) = innS (legalB (wO cc (↑o : Int))) Sg n o (s + (1 : Nat)) (0 : Nat), (bif ((0 : Nat) + (1 : Nat)).beq (((IntKind.i64.wrap ((↑s : Int) + (↑o : Int))).tmod (8 : Int)).toNat + (0 : Nat)) then true else innS (legalB (wO cc (↑o : Int))) Sg n o s (1 : Nat)) = innS (legalB (wO cc (↑o : Int))) Sg n o (s + (1 : Nat)) (1 : Nat), (bif ((0 : Nat) + (1 : Nat) + (1 : Nat)).beq (((IntKind.i64.wrap ((↑s : Int) + (↑o : Int))).tmod (8 : Int)).toNat + (0 : Nat)) then true else innS (legalB (wO cc (↑o : Int))) Sg n o s (2 : Nat)) = innS (legalB (wO cc (↑o : Int))) Sg n o (s + (1 : Nat)) (2 : Nat), (bif ((0 : Nat) + (1 : Nat) + (1 : Nat) + (1 : Nat)).beq (((IntKind.i64.wrap ((↑s : Int) + (↑o : Int))).tmod (8 : Int)).toNat + (0 : Nat)) then true else innS (legalB (wO cc (↑o : Int))) Sg n o s (3 : Nat)) = innS (legalB (wO cc (↑o : Int))) Sg n o (s + (1 : Nat)) (3 : Nat), (bif ((0 : Nat) + (1 : Nat) + (1 : Nat) + (1 : Nat) + (1 : Nat)).beq (((IntKind.i64.wrap ((↑s : Int) + (↑o : Int))).tmod (8 : Int)).toNat + (0 : Nat)) then true else innS (legalB (wO cc (↑o : Int))) Sg n o s (4 : Nat)) = innS (legalB (wO cc (↑o : Int))) Sg n o (s + (1 : Nat)) (4 : Nat), (bif ((0 : Nat) + (1 : Nat) + (1 : Nat) + (1 : Nat) + (1 : Nat) + (1 : Nat)).beq (((IntKind.i64.wrap ((↑s : Int) + (↑o : Int))).tmod (8 : Int)).toNat + (0 : Nat)) then true else innS (legalB (wO cc (↑o : Int))) Sg n o s (5 : Nat)) = innS (legalB (wO cc (↑o : Int))) Sg n o (s + (1 : Nat)) (5 : Nat), (bif ((0 : Nat) + (1 : Nat) + (1 : Nat) + (1 : Nat) + (1 : Nat) + (1 : Nat) + (1 : Nat)).beq (((IntKind.i64.wrap ((↑s : Int) + (↑o : Int))).tmod (8 : Int)).toNat + (0 : Nat)) then true else innS (legalB (wO cc (↑o : Int))) Sg n o s (6 : Nat)) = innS (legalB (wO cc (↑o : Int))) Sg n o (s + (1 : Nat)) (6 : Nat), (bif ((0 : Nat) + (1 : Nat) + (1 : Nat) + (1 : Nat) + (1 : Nat) + (1 : Nat) + (1 : Nat) + (1 : Nat)).beq (((IntKind.i64.wrap ((↑s : Int) + (↑o : Int))).tmod (8 : Int)).toNat + (0 : Nat)) then true else innS (legalB (wO cc (↑o : Int))) Sg n o s (7 : Nat)) = innS (legalB (wO cc (↑o : Int))) Sg n o (s + (1 : Nat)) (7 : Nat), cc.exp = cc.exp, cc.dim = cc.dim, cc.sign = cc.sign, cc.odd = cc.odd, (↑o : Int) = (↑o : Int), ((IntKind.i64.wrap ((↑s : Int) + (↑o : Int))).tmod (8 : Int)).toNat + (0 : Nat) < [innS (legalB (wO cc (↑o : Int))) Sg n o s (0 : Nat), innS (legalB (wO cc (↑o : Int))) Sg n o s (1 : Nat), innS (legalB (wO cc (↑o : Int))) Sg n o s (2 : Nat), innS (legalB (wO cc (↑o : Int))) Sg n o s (3 : Nat), innS (legalB (wO cc (↑o : Int))) Sg n o s (4 : Nat), innS (legalB (wO cc (↑o : Int))) Sg n o s (5 : Nat), innS (legalB (wO cc (↑o : Int))) Sg n o s (6 : Nat), innS (legalB (wO cc (↑o : Int))) Sg n o s (7 : Nat)].length, (0 : Int) ≤ (IntKind.i64.wrap ((↑s : Int) + (↑o : Int))).tmod (8 : Int) ∧ (IntKind.i64.wrap ((↑s : Int) + (↑o : Int))).tmod (8 : Int) < (↑(8 : Nat) : Int), (8 : Int) ≠ (0 : Int), Dec (legalB (Con.mk cc.exp cc.dim cc.sign cc.odd (↑o : Int))) true, Dec ([Sg (0 : Nat), Sg (1 : Nat), Sg (2 : Nat), Sg (3 : Nat), Sg (4 : Nat), Sg (5 : Nat), Sg (6 : Nat), Sg (7 : Nat)].getD s false) true, (0 : Int) ≤ (↑s : Int) ∧ (↑s : Int) < (↑(8 : Nat) : Int) ∧ s < [Sg (0 : Nat), Sg (1 : Nat), Sg (2 : Nat), Sg (3 : Nat), Sg (4 : Nat), Sg (5 : Nat), Sg (6 : Nat), Sg (7 : Nat)].length, Dec (decide ((↑s : Int) < (8 : Int))) true], by kernel_rfl, ⟨?_, ?_, ?_, ?_, ?_, ?_, ?_, ?_, ?_, ?_, ?_, ?_, ?_, ?_, ?_, ?_, ?_, ?_, ?_, ?_, ?_, ?_, ?_, ?_, ?_, ?_, ?_, ?_, ?_, ?_, ?_, ?_, ?_, ?_, ?_, ?_, ?_, ?_, ?_, ?_, ?_, ?_, ?_, d3, d2, ?_, d1⟩, MuG.out ?_, InG.out ?_⟩⟩)
           (fun d3 => ⟨[true, true, false], .inl ⟨(s + 1), [M.length = M.length ∧ (fun i => (M.getD i Con.zero).rvs) = fun i => (M.getD i Con.zero).rvs, tot = tot, l.length = l.length ∧ (fun j => [RV.int IntKind.i64 (l.getD j (0 : Int))]) = fun j => [RV.int IntKind.i64 (l.getD j (0 : Int))], (↑l.length : Int) = (↑l.length : Int), (↑j : Int) = (↑j : Int), Sg (0 : Nat) = Sg (0 : Nat), Sg (1 : Nat) = Sg (1 : Nat), Sg (2 : Nat) = Sg (2 : Nat), Sg (3 : Nat) = Sg (3 : Nat), Sg (4 : Nat) = Sg (4 : Nat), Sg (5 : Nat) = Sg (5 : Nat), Sg (6 : Nat) = Sg (6 : Nat), Sg (7 : Nat) = Sg (7 : Nat), IntKind.i64.wrap ((↑s : Int) + (1 : Int)) = (↑(s + (1 : Nat)) : Int), c.exp = c.exp, c.dim = c.dim, c.sign = c.sign, c.odd = c.odd, c.oddity = c.oddity, Sg (0 : Nat) = Sg (0 : Nat), Sg (1 : Nat) = Sg (1 : Nat), Sg (2 : Nat) = Sg (2 : Nat), Sg (3 : Nat) = Sg (3 : Nat), Sg (4 : Nat) = Sg (4 : Nat), Sg (5 : Nat) = Sg (5 : Nat), Sg (6 : Nat) = Sg (6 : Nat), Sg (7 : Nat) = Sg (7 : Nat), innS (legalB (wO cc (↑o : Int))) Sg n o s (0 : Nat) = innS (legalB (wO cc (↑o : Int))) Sg n o (s + (1 : Nat)) (0 : Nat), innS (legalB (wO cc (↑o : Int))) Sg n o s (1 : Nat) = innS (legalB (wO cc (↑o : Int))) Sg n o (s + (1 : Nat)) (1 : Nat), innS (legalB (wO cc (↑o : Int))) Sg n o s (2 : Nat) = innS (legalB (wO cc (↑o : Int))) Sg n o (s + (1 : Nat)) (2 : Nat), innS (legalB (wO cc (↑o : Int))) Sg n o s (3 : Nat) = innS (legalB (wO cc (↑o : Int))) Sg n o (s + (1 : Nat)) (3 : Nat), innS (legalB (wO cc (↑o : Int))) Sg n o s (4 : Nat) = innS (legalB (wO cc (↑o : Int))) Sg n o (s + (1 : Nat)) (4 : Nat), innS (legalB (wO cc (↑o : Int))) Sg n o s (5 : Nat) = innS (legalB (wO cc (↑o : Int))) Sg n o (s + (1 : Nat)) (5 : Nat), innS (legalB (wO cc (↑o : Int))) Sg n o s (6 : Nat) = innS (legalB (wO cc (↑o : Int))) Sg n o (s + (1 : Nat)) (6 : Nat), innS (legalB (wO cc (↑o : Int))) Sg n o s (7 : Nat) = innS (legalB (wO cc (↑o : Int))) Sg n o (s + (1 : Nat)) (7 : Nat), cc.exp = cc.exp, cc.dim = cc.dim, cc.sign = cc.sign, cc.odd = cc.odd, (↑o : Int) = (↑o : Int), Dec (legalB (Con.mk cc.exp cc.dim cc.sign cc.odd (↑o : Int))) false, Dec ([Sg (0 : Nat), Sg (1 : Nat), Sg (2 : Nat), Sg (3 : Nat), Sg (4 : Nat), Sg (5 : Nat), Sg (6 : Nat), Sg (7 : Nat)].getD s false) true, (0 : Int) ≤ (↑s : Int) ∧ (↑s : Int) < (↑(8 : Nat) : Int) ∧ s < [Sg (0 : Nat), Sg (1 : Nat), Sg (2 : Nat), Sg (3 : Nat), Sg (4 : Nat), Sg (5 : Nat), Sg (6 : Nat), Sg (7 : Nat)].length, Dec (decide ((↑s : Int) < (8 : Int))) true], by kernel_rfl, ⟨?_, ?_, ?_, ?_, ?_, ?_, ?_, ?_, ?_, ?_, ?_, ?_, ?_, ?_, ?_, ?_, ?_, ?_, ?_, ?_, ?_, ?_, ?_, ?_, ?_, ?_, ?_, ?_, ?_, ?_, ?_, ?_, ?_, ?_, ?_, ?_, ?_, ?_, ?_, ?_, d3, d2, ?_, d1⟩, MuG.out ?_, InG.out ?_⟩⟩))
           (fun d2 => ⟨[true, false], .inl ⟨(s + 1), [M.length = M.length ∧ (fun i => (M.getD i Con.zero).rvs) = fun i => (M.getD i Con.zero).rvs, tot = tot, l.length = l.length ∧ (fun j => [RV.int IntKind.i64 (l.getD j (0 : Int))]) = fun j => [RV.int IntKind.i64 (l.getD j (0 : Int))], (↑l.length : Int) = (↑l.length : Int), (↑j : Int) = (↑j : Int), Sg (0 : Nat) = Sg (0 : Nat), Sg (1 : Nat) = Sg (1 : Nat), Sg (2 : Nat) = Sg (2 : Nat), Sg (3 : Nat) = Sg (3 : Nat), Sg (4 : Nat) = Sg (4 : Nat), Sg (5 : Nat) = Sg (5 : Nat), Sg (6 : Nat) = Sg (6 : Nat), Sg (7 : Nat) = Sg (7 : Nat), IntKind.i64.wrap ((↑s : Int) + (1 : Int)) = (↑(s + (1 : Nat)) : Int), c.exp = c.exp, c.dim = c.dim, c.sign = c.sign, c.odd = c.odd, c.oddity = c.oddity, Sg (0 : Nat) = Sg (0 : Nat), Sg (1 : Nat) = Sg (1 : Nat), Sg (2 : Nat) = Sg (2 : Nat), Sg (3 : Nat) = Sg (3 : Nat), Sg (4 : Nat) = Sg (4 : Nat), Sg (5 : Nat) = Sg (5 : Nat), Sg (6 : Nat) = Sg (6 : Nat), Sg (7 : Nat) = Sg (7 : Nat), innS (legalB (wO cc (↑o : Int))) Sg n o s (0 : Nat) = innS (legalB (wO cc (↑o : Int))) Sg n o (s + (1 : Nat)) (0 : Nat), innS (legalB (wO cc (↑o : Int))) Sg n o s (1 : Nat) = innS (legalB (wO cc (↑o : Int))) Sg n o (s + (1 : Nat)) (1 : Nat), innS (legalB (wO cc (↑o : Int))) Sg n o s (2 : Nat) = innS (legalB (wO cc (↑o : Int))) Sg n o (s + (1 : Nat)) (2 : Nat), innS (legalB (wO cc (↑o : Int))) Sg n o s (3 : Nat) = innS (legalB (wO cc (↑o : Int))) Sg n o (s + (1 : Nat)) (3 : Nat), innS (legalB (wO cc (↑o : Int))) Sg n o s (4 : Nat) = innS (legalB (wO cc (↑o : Int))) Sg n o (s + (1 : Nat)) (4 : Nat), innS (legalB (wO cc (↑o : Int))) Sg n o s (5 : Nat) = innS (legalB (wO cc (↑o : Int))) Sg n o (s + (1 : Nat)) (5 : Nat), innS (legalB (wO cc (↑o : Int))) Sg n o s (6 : Nat) = innS (legalB (wO cc (↑o : Int))) Sg n o (s + (1 : Nat)) (6 : Nat), innS (legalB (wO cc (↑o : Int))) Sg n o s (7 : Nat) = innS (legalB (wO cc (↑o : Int))) Sg n o (s + (1 : Nat)) (7 : Nat), cc.exp = cc.exp, cc.dim = cc.dim, cc.sign = cc.sign, cc.odd = cc.odd, (↑o : Int) = (↑o : Int), Dec ([Sg (0 : Nat), Sg (1 : Nat), Sg (2 : Nat), Sg (3 : Nat), Sg (4 : Nat), Sg (5 : Nat), Sg (6 : Nat), Sg (7 : Nat)].getD s false) false, (0 : Int) ≤ (↑s : Int) ∧ (↑s : Int) < (↑(8 : Nat) : Int) ∧ s < [Sg (0 : Nat), Sg (1 : Nat), Sg (2 : Nat), Sg (3 : Nat), Sg (4 : Nat), Sg (5 : Nat), Sg (6 : Nat), Sg (7 : Nat)].length, Dec (decide ((↑s : Int) < (8 : Int))) true], by kernel_rfl, ⟨?_, ?_, ?_, ?_, ?_, ?_, ?_, ?_, ?_, ?_, ?_, ?_, ?_, ?_, ?_, ?_, ?_, ?_, ?_, ?_, ?_, ?_, ?_, ?_, ?_, ?_, ?_, ?_, ?_, ?_, ?_, ?_, ?_, ?_, ?_, ?_, ?_, ?_, ?_, ?_, d2, ?_, d1⟩, MuG.out ?_, InG.out ?_⟩⟩))
           (fun d1 => ⟨[false], .inr ⟨[M.length = M.length ∧ (fun i => (M.getD i Con.zero).rvs) = fun i => (M.getD i Con.zero).rvs, tot = tot, l.length = l.length ∧ (fun j => [RV.int IntKind.i64 (l.getD j (0 : Int))]) = fun j => [RV.int IntKind.i64 (l.getD j (0 : Int))], (↑l.length : Int) = (↑l.length : Int), (↑j : Int) = (↑j : Int), c.exp = c.exp, c.dim = c.dim, c.sign = c.sign, c.odd = c.odd, c.oddity = c.oddity, Sg (0 : Nat) = Sg (0 : Nat), Sg (1 : Nat) = Sg (1 : Nat), Sg (2 : Nat) = Sg (2 : Nat), Sg (3 : Nat) = Sg (3 : Nat), Sg (4 : Nat) = Sg (4 : Nat), Sg (5 : Nat) = Sg (5 : Nat), Sg (6 : Nat) = Sg (6 : Nat), Sg (7 : Nat) = Sg (7 : Nat), innS (legalB (wO cc (↑o : Int))) Sg n o s (0 : Nat) = innS (legalB (wO cc (↑o : Int))) Sg n o (8 : Nat) (0 : Nat), innS (legalB (wO cc (↑o : Int))) Sg n o s (1 : Nat) = innS (legalB (wO cc (↑o : Int))) Sg n o (8 : Nat) (1 : Nat), innS (legalB (wO cc (↑o : Int))) Sg n o s (2 : Nat) = innS (legalB (wO cc (↑o : Int))) Sg n o (8 : Nat) (2 : Nat), innS (legalB (wO cc (↑o : Int))) Sg n o s (3 : Nat) = innS (legalB (wO cc (↑o : Int))) Sg n o (8 : Nat) (3 : Nat), innS (legalB (wO cc (↑o : Int))) Sg n o s (4 : Nat) = innS (legalB (wO cc (↑o : Int))) Sg n o (8 : Nat) (4 : Nat), innS (legalB (wO cc (↑o : Int))) Sg n o s (5 : Nat) = innS (legalB (wO cc (↑o : Int))) Sg n o (8 : Nat) (5 : Nat), innS (legalB (wO cc (↑o : Int))) Sg n o s (6 : Nat) = innS (legalB (wO cc (↑o : Int))) Sg n o (8 : Nat) (6 : Nat), innS (legalB (wO cc (↑o : Int))) Sg n o s (7 : Nat) = innS (legalB (wO cc (↑o : Int))) Sg n o (8 : Nat) (7 : Nat), cc.exp = cc.exp, cc.dim = cc.dim, cc.sign = cc.sign, cc.odd = cc.odd, (↑o : Int) = (↑o : Int), Dec (decide ((↑s : Int) < (8 : Int))) false], by kernel_rfl, ⟨?_, ?_, ?_, ?_, ?_, ?_, ?_, ?_, ?_, ?_, ?_, ?_, ?_, ?_, ?_, ?_, ?_, ?_, ?_, ?_, ?_, ?_, ?_, ?_, ?_, ?_, ?_, ?_, ?_, ?_, ?_, d1⟩, rfl⟩⟩)
      all_goals first | (refine MuG.mk ?_; (simp only [decide_eq_true_eq] at *; show 8 - (s + 1) < 8 - s; omega)) | (refine InG.mk ?_; (simp only [decide_eq_true_eq] at *; show s + 1 ≤ 8; omega)) | (refine CtG.mk ?_; (simp_all)) | (first | (with_reducible rfl) | exact ⟨rfl, rfl⟩ | decide | ((try simp only [ek, Int.toNat_natCast, decide_eq_true_eq, decide_eq_false_iff_not] at *) <;> first | omega | (have h8 : s = 8 := (by omega); subst h8; rfl) | (have h7 : s < 8 := (by omega); have hx := le_idx h7 ho; first | (rw [hx]; first | exact innS_yes (by decide) ho h7 ((b8_get h7).symm.trans d2) d3 | (have h0 := Nat.mod_lt (s + o) (show 0 < 8 by decide); simp only [List.length_cons, List.length_nil]; omega)) | exact innS_no (.inl ((b8_get h7).symm.trans d2)) | exact innS_no (.inr d3) | (have h1 := w64 (n := (s : Int) + (o : Int)) (by omega) (by omega); rw [h1, Int.tmod_eq_emod_of_nonneg (by omega)]; omega) | (simp only [List.length_cons, List.length_nil]; omega))))

/- one constituent more -/
noncomputable def leB (c : Con) (M : List Con) (l : List Int) (tot : Int) (j : Nat) (Sg : Nat → Bool) (cc : Con) : Ann := ⟨⟨leT2 M l tot j, leH2 c Sg (midS Sg cc 0) cc (.int .i64 0), 1020⟩, none, fun _ =>
  (.exit 2, ⟨leT2 M l tot j, leH2 c Sg (stepS Sg cc) cc (.int .i64 8), 1020⟩)⟩
theorem le_mid {Sg : Nat → Bool} {cc : Con} {o q : Nat} : innS (legalB (wO cc (o : Int))) Sg (midS Sg cc o) o 8 q = midS Sg cc (o + 1) q := by
  rw [innS_last, midS_succ]
set_option maxRecDepth 100000 in
theorem le_b (c : Con) (M : List Con) (l : List Int) (tot : Int) (j : Nat) (Sg : Nat → Bool) (cc : Con) : AnnOk Tryz.prog EV.ng (Nat.max 4 Tryz.f61.ntmps) (bodyAt Tryz.f61 [0, 1, 0, 1, 1, 1, 0, 0, 1, 1, 0, 0, 1, 0, 1, 1]) (leB c M l tot j Sg cc) := by
  refine ann_ofI evOk (callF_ok evOk (orcOf_ok entsVS_ok) 8) (by kernel_rfl) (by kernel_rfl) (fun i : Nat => (fun (o : Nat) => (⟨leT2 M l tot j, leH2 c Sg (midS Sg cc o) cc (.vint .i64 (o : Int)), 1020⟩ : St)) i) (fun i : Nat => (fun (o : Nat) => (8 - o : Nat)) i) (fun (d : Bool) (i : Nat) => (fun (o : Nat) => (o ≤ 8 : Prop)) i) (fun i : Nat => (fun (o : Nat) => ([([0, 1, 0, 0, 1, 0, 0, 1, 0, 1, 1, 1, 0, 0, 1, 1, 0, 0, 1, 0, 1, 1], leC c M l tot j Sg (midS Sg cc o) cc o)] : List (List Nat × Ann))) i) ?_ ?_ ?_
  · rintro d hd o hI
    exact one_ann (le_c c M l tot j Sg (midS Sg cc o) cc o hI)
  · intro d hd
    exact ⟨(0), [M.length = M.length ∧ (fun i => (M.getD i Con.zero).rvs) = fun i => (M.getD i Con.zero).rvs, tot = tot, l.length = l.length ∧ (fun j => [RV.int IntKind.i64 (l.getD j (0 : Int))]) = fun j => [RV.int IntKind.i64 (l.getD j (0 : Int))], (↑l.length : Int) = (↑l.length : Int), (↑j : Int) = (↑j : Int), c.exp = c.exp, c.dim = c.dim, c.sign = c.sign, c.odd = c.odd, c.oddity = c.oddity, Sg (0 : Nat) = Sg (0 : Nat), Sg (1 : Nat) = Sg (1 : Nat), Sg (2 : Nat) = Sg (2 : Nat), Sg (3 : Nat) = Sg (3 : Nat), Sg (4 : Nat) = Sg (4 : Nat), Sg (5 : Nat) = Sg (5 : Nat), Sg (6 : Nat) = Sg (6 : Nat), Sg (7 : Nat) = Sg (7 : Nat), false = false, false = false, false = false, false = false, false = false, false = false, false = false, false = false, cc.exp = cc.exp, cc.dim = cc.dim, cc.sign = cc.sign, cc.odd = cc.odd, (0 : Int) = (↑(0 : Nat) : Int)], by kernel_rfl, (by refine ⟨?_, ?_, ?_, ?_, ?_, ?_, ?_, ?_, ?_, ?_, ?_, ?_, ?_, ?_, ?_, ?_, ?_, ?_, ?_, ?_, ?_, ?_, ?_, ?_, ?_, ?_, ?_, ?_, ?_, ?_, (?_ : (0 : Int) = (↑(0 : Nat) : Int))⟩ <;> (first | rfl | assumption | omega | simp_all)), (by exact Nat.zero_le _)⟩
  · rintro d hd o hI
    cases d
    · -- d = false
      exact Bool.noConfusion (show false = true from hd)
    · -- d = true
      have hs : o ≤ 8 := hI
      have ek : IntKind.i64.wrap ((o : Int) + 1) = ((o + 1 : Nat) : Int) := by rw [w64 (by omega) (by omega)]; omega
      refine Or.elim (Bool.eq_false_or_eq_true (decide ((↑o : Int) < (8 : Int)))) (fun d1 => ⟨[true], .inl ⟨(o + 1), [M.length = M.length ∧ (fun i => (M.getD i Con.zero).rvs) = fun i => (M.getD i Con.zero).rvs, tot = tot, l.length = l.length ∧ (fun j => [RV.int IntKind.i64 (l.getD j (0 : Int))]) = fun j => [RV.int IntKind.i64 (l.getD j (0 : Int))], (↑l.length : Int) = (↑l.length : Int), (↑j : Int) = (↑j : Int), c.exp = c.exp, c.dim = c.dim, c.sign = c.sign, c.odd = c.odd, c.oddity = c.oddity, Sg (0 : Nat) = Sg (0 : Nat), Sg (1 : Nat) = Sg (1 : Nat), Sg (2 : Nat) = Sg (2 : Nat), Sg (3 : Nat) = Sg (3 : Nat), Sg (4 : Nat) = Sg (4 : Nat), Sg (5 : Nat) = Sg (5 : Nat), Sg (6 : Nat) = Sg (6 : Nat), Sg (7 : Nat) = Sg (7 : Nat), innS (legalB (wO cc (↑o : Int))) Sg (midS Sg cc o) o (8 : Nat) (0 : Nat) = midS Sg cc (o + (1 : Nat)) (0 : Nat), innS (legalB (wO cc (↑o : Int))) Sg (midS Sg cc o) o (8 : Nat) (1 : Nat) = midS Sg cc (o + (1 : Nat)) (1 : Nat), innS (legalB (wO cc (↑o : Int))) Sg (midS Sg cc o) o (8 : Nat) (2 : Nat) = midS Sg cc (o + (1 : Nat)) (2 : Nat), innS (legalB (wO cc (↑o : Int))) Sg (midS Sg cc o) o (8 : Nat) (3 : Nat) = midS Sg cc (o + (1 : Nat)) (3 : Nat), innS (legalB (wO cc (↑o : Int))) Sg (midS Sg cc o) o (8 : Nat) (4 : Nat) = midS Sg cc (o + (1 : Nat)) (4 : Nat), innS (legalB (wO cc (↑o : Int))) Sg (midS Sg cc o) o (8 : Nat) (5 : Nat) = midS Sg cc (o + (1 : Nat)) (5 : Nat), innS (legalB (wO cc (↑o : Int))) Sg (midS Sg cc o) o (8 : Nat) (6 : Nat) = midS Sg cc (o + (1 : Nat)) (6 : Nat), innS (legalB (wO cc (↑o : Int))) Sg (midS Sg cc o) o (8 : Nat) (7 : Nat) = midS Sg cc (o + (1 : Nat)) (7 : Nat), cc.exp = cc.exp, cc.dim = cc.dim, cc.sign = cc.sign, cc.odd = cc.odd, IntKind.i64.wrap ((↑o : Int) + (1 : Int)) = (↑(o + (1 : Nat)) : Int), M.length = M.length ∧ (fun i => (M.getD i Con.zero).rvs) = fun i => (M.getD i Con.zero).rvs, tot = tot, l.length = l.length ∧ (fun j => [RV.int IntKind.i64 (l.getD j (0 : Int))]) = fun j => [RV.int IntKind.i64 (l.getD j (0 : Int))], (↑l.length : Int) = (↑l.length : Int), (↑j : Int) = (↑j : Int), Sg (0 : Nat) = Sg (0 : Nat), Sg (1 : Nat) = Sg (1 : Nat), Sg (2 : Nat) = Sg (2 : Nat), Sg (3 : Nat) = Sg (3 : Nat), Sg (4 : Nat) = Sg (4 : Nat), Sg (5 : Nat) = Sg (5 : Nat), Sg (6 : Nat) = Sg (6 : Nat), Sg (7 : Nat) = Sg (7 : Nat), c.exp = c.exp, c.dim = c.dim, c.sign = c.sign, c.odd = c.odd, c.oddity = c.oddity, Sg (0 : Nat) = Sg (0 : Nat), Sg (1 : Nat) = Sg (1 : Nat), Sg (2 : Nat) = Sg (2 : Nat), Sg (3 : Nat) = Sg (3 : Nat), Sg (4 : Nat) = Sg (4 : Nat), Sg (5 : Nat) = Sg (5 : Nat), Sg (6 : Nat) = Sg (6 : Nat), Sg (7 : Nat) = Sg (7 : Nat), midS Sg cc o (0 : Nat) = midS Sg cc o (0 : Nat), midS Sg cc o (1 : Nat) = midS Sg cc o (1 : Nat), midS Sg cc o (2 : Nat) = midS Sg cc o (2 : Nat), midS Sg cc o (3 : Nat) = midS Sg cc o (3 : Nat), midS Sg cc o (4 : Nat) = midS Sg cc o (4 : Nat), midS Sg cc o (5 : Nat) = midS Sg cc o (5 : Nat), midS Sg cc o (6 : Nat) = midS Sg cc o (6 : Nat), midS Sg cc o (7 : Nat) = midS Sg cc o (7 : Nat), cc.exp = cc.exp, cc.dim = cc.dim, cc.sign = cc.sign, cc.odd = cc.odd, (↑o : Int) = (↑o : Int), Dec (decide ((↑o : Int) < (8 : Int))) true], by kernel_rfl, ⟨?_, ?_, ?_, ?_, ?_, ?_, ?_, ?_, ?_, ?_, ?_, ?_, ?_, ?_, ?_, ?_, ?_, ?_, ?_, ?_, ?_, ?_, ?_, ?_, ?_, ?_, ?_, ?_, ?_, ?_, ?_, ?_, ?_, ?_, ?_, ?_, ?_, ?_, ?_, ?_, ?_, ?_, ?_, ?_, ?_, ?_, ?_, ?_, ?_, ?_, ?_, ?_, ?_, ?_, ?_, ?_, ?_, ?_, ?_, ?_, ?_, ?_, ?_, ?_, ?_, ?_, ?_, ?_, ?_, ?_, d1⟩, MuG.out ?_, InG.out ?_⟩⟩)
           (fun d1 => ⟨[false], .inr ⟨[M.length = M.length ∧ (fun i => (M.getD i Con.zero).rvs) = fun i => (M.getD i Con.zero).rvs, tot = tot, l.length = l.length ∧ (fun j => [RV.int IntKind.i64 (l.getD j (0 : Int))]) = fun j => [RV.int IntKind.i64 (l.getD j (0 : Int))], (↑l.length : Int) = (↑l.length : Int), (↑j : Int) = (↑j : Int), c.exp = c.exp, c.dim = c.dim, c.sign = c.sign, c.odd = c.odd, c.oddity = c.oddity, Sg (0 : Nat) = Sg (0 : Nat), Sg (1 : Nat) = Sg (1 : Nat), Sg (2 : Nat) = Sg (2 : Nat), Sg (3 : Nat) = Sg (3 : Nat), Sg (4 : Nat) = Sg (4 : Nat), Sg (5 : Nat) = Sg (5 : Nat), Sg (6 : Nat) = Sg (6 : Nat), Sg (7 : Nat) = Sg (7 : Nat), midS Sg cc o (0 : Nat) = stepS Sg cc (0 : Nat), midS Sg cc o (1 : Nat) = stepS Sg cc (1 : Nat), midS Sg cc o (2 : Nat) = stepS Sg cc (2 : Nat), midS Sg cc o (3 : Nat) = stepS Sg cc (3 : Nat), midS Sg cc o (4 : Nat) = stepS Sg cc (4 : Nat), midS Sg cc o (5 : Nat) = stepS Sg cc (5 : Nat), midS Sg cc o (6 : Nat) = stepS Sg cc (6 : Nat), midS Sg cc o (7 : Nat) = stepS Sg cc (7 : Nat), cc.exp = cc.exp, cc.dim = cc.dim, cc.sign = cc.sign, cc.odd = cc.odd, (↑o : Int) = (8 : Int), Dec (decide ((↑o : Int) < (8 : Int))) false], by kernel_rfl, ⟨?_, ?_, ?_, ?_, ?_, ?_, ?_, ?_, ?_, ?_, ?_, ?_, ?_, ?_, ?_, ?_, ?_, ?_, ?_, ?_, ?_, ?_, ?_, ?_, ?_, ?_, ?_, ?_, ?_, ?_, ?_, d1⟩, rfl⟩⟩)
      all_goals first | (refine MuG.mk ?_; (simp only [decide_eq_true_eq] at *; show 8 - (o + 1) < 8 - o; omega)) | (refine InG.mk ?_; (simp only [decide_eq_true_eq] at *; show o + 1 ≤ 8; omega)) | (refine CtG.mk ?_; (simp_all)) | (first | (with_reducible rfl) | exact ⟨rfl, rfl⟩ | decide | ((try simp only [ek, Int.toNat_natCast, decide_eq_true_eq, decide_eq_false_iff_not] at *) <;> first | omega | (have h8 : o = 8 := (by omega); subst h8; rfl) | exact le_mid))

/- all of them -/
noncomputable def leA (c : Con) (M : List Con) (l : List Int) (tot : Int) : Ann := ⟨⟨leT M l tot (.int .i64 0), leH c s0F, 1010⟩, none, fun _ =>
  (.exit 0, ⟨leT M l tot (.vint .i64 (l.length : Int)), leH c (smF M l s0F), 1010⟩)⟩
theorem smF_take {M : List Con} {l : List Int} {j : Nat} (hj : j < l.length) {S : Nat → Bool} : smF M (l.take (j + 1)) S = stepS (smF M (l.take j) S) (at_ M (l.getD j 0).toNat) := by
  rw [take_int hj, smF_append]; rfl
set_option maxRecDepth 100000 in
theorem le_a (c : Con) (M : List Con) (l : List Int) (tot : Int) (hl : l.length ≤ 1000) (hr : inR M.length l) : AnnOk Tryz.prog EV.ng (Nat.max 4 Tryz.f61.ntmps) (bodyAt Tryz.f61 [0, 1, 0, 1, 1]) (leA c M l tot) := by
  refine ann_ofI evOk (callF_ok evOk (orcOf_ok entsVS_ok) 8) (by kernel_rfl) (by kernel_rfl) (fun i : Nat => (fun (j : Nat) => (⟨leT M l tot (.vint .i64 (j : Int)), leH c (smF M (l.take j) s0F), 1010⟩ : St)) i) (fun i : Nat => (fun (j : Nat) => (l.length - j : Nat)) i) (fun (d : Bool) (i : Nat) => (fun (j : Nat) => (j ≤ l.length : Prop)) i) (fun i : Nat => (fun (j : Nat) => ([([0, 1, 0, 1, 1, 1, 0, 0, 1, 1, 0, 0, 1, 0, 1, 1], leB c M l tot j (smF M (l.take j) s0F) (at_ M (l.getD j 0).toNat))] : List (List Nat × Ann))) i) ?_ ?_ ?_
  · rintro d hd j hI
    exact one_ann (le_b c M l tot j (smF M (l.take j) s0F) (at_ M (l.getD j 0).toNat))
  · intro d hd
    exact ⟨(0), [M.length = M.length ∧ (fun i => (M.getD i Con.zero).rvs) = fun i => (M.getD i Con.zero).rvs, tot = tot, l.length = l.length ∧ (fun j => [RV.int IntKind.i64 (l.getD j (0 : Int))]) = fun j => [RV.int IntKind.i64 (l.getD j (0 : Int))], (↑l.length : Int) = (↑l.length : Int), (0 : Int) = (↑(0 : Nat) : Int), c.exp = c.exp, c.dim = c.dim, c.sign = c.sign, c.odd = c.odd, c.oddity = c.oddity, true = true, false = false, false = false, false = false, false = false, false = false, false = false, false = false], by kernel_rfl, (by refine ⟨?_, ?_, ?_, ?_, ?_, ?_, ?_, ?_, ?_, ?_, ?_, ?_, ?_, ?_, ?_, ?_, ?_, (?_ : false = false)⟩ <;> (first | (with_reducible rfl) | exact ⟨rfl, rfl⟩ | rfl)), (by exact Nat.zero_le _)⟩
  · rintro d hd j hI
    cases d
    · -- d = false
      exact Bool.noConfusion (show false = true from hd)
    · -- d = true
      have hs : j ≤ l.length := hI
      have ek : IntKind.i64.wrap ((j : Int) + 1) = ((j + 1 : Nat) : Int) := by rw [w64 (by omega) (by omega)]; omega
      refine Or.elim (Bool.eq_false_or_eq_true (decide ((↑j : Int) < (↑l.length : Int)))) (fun d1 => ⟨[true], .inl ⟨(j + 1), [M.length = M.length ∧ (fun i => (M.getD i Con.zero).rvs) = fun i => (M.getD i Con.zero).rvs, tot = tot, l.length = l.length ∧ (fun j => [RV.int IntKind.i64 (l.getD j (0 : Int))]) = fun j => [RV.int IntKind.i64 (l.getD j (0 : Int))], (↑l.length : Int) = (↑l.length : Int), IntKind.i64.wrap ((↑j : Int) + (1 : Int)) = (↑(j + (1 : Nat)) : Int), c.exp = c.exp, c.dim = c.dim, c.sign = c.sign, c.odd = c.odd, c.oddity = c.oddity, stepS (smF M (List.take j l) s0F) (at_ M (l.getD j (0 : Int)).toNat) (0 : Nat) = smF M (List.take (j + (1 : Nat)) l) s0F (0 : Nat), stepS (smF M (List.take j l) s0F) (at_ M (l.getD j (0 : Int)).toNat) (1 : Nat) = smF M (List.take (j + (1 : Nat)) l) s0F (1 : Nat), stepS (smF M (List.take j l) s0F) (at_ M (l.getD j (0 : Int)).toNat) (2 : Nat) = smF M (List.take (j + (1 : Nat)) l) s0F (2 : Nat), stepS (smF M (List.take j l) s0F) (at_ M (l.getD j (0 : Int)).toNat) (3 : Nat) = smF M (List.take (j + (1 : Nat)) l) s0F (3 : Nat), stepS (smF M (List.take j l) s0F) (at_ M (l.getD j (0 : Int)).toNat) (4 : Nat) = smF M (List.take (j + (1 : Nat)) l) s0F (4 : Nat), stepS (smF M (List.take j l) s0F) (at_ M (l.getD j (0 : Int)).toNat) (5 : Nat) = smF M (List.take (j + (1 : Nat)) l) s0F (5 : Nat), stepS (smF M (List.take j l) s0F) (at_ M (l.getD j (0 : Int)).toNat) (6 : Nat) = smF M (List.take (j + (1 : Nat)) l) s0F (6 : Nat), stepS (smF M (List.take j l) s0F) (at_ M (l.getD j (0 : Int)).toNat) (7 : Nat) = smF M (List.take (j + (1 : Nat)) l) s0F (7 : Nat), M.length = M.length ∧ (fun i => (M.getD i Con.zero).rvs) = fun i => (M.getD i Con.zero).rvs, tot = tot, l.length = l.length ∧ (fun j => [RV.int IntKind.i64 (l.getD j (0 : Int))]) = fun j => [RV.int IntKind.i64 (l.getD j (0 : Int))], (↑l.length : Int) = (↑l.length : Int), (↑j : Int) = (↑j : Int), c.exp = c.exp, c.dim = c.dim, c.sign = c.sign, c.odd = c.odd, c.oddity = c.oddity, smF M (List.take j l) s0F (0 : Nat) = smF M (List.take j l) s0F (0 : Nat), smF M (List.take j l) s0F (1 : Nat) = smF M (List.take j l) s0F (1 : Nat), smF M (List.take j l) s0F (2 : Nat) = smF M (List.take j l) s0F (2 : Nat), smF M (List.take j l) s0F (3 : Nat) = smF M (List.take j l) s0F (3 : Nat), smF M (List.take j l) s0F (4 : Nat) = smF M (List.take j l) s0F (4 : Nat), smF M (List.take j l) s0F (5 : Nat) = smF M (List.take j l) s0F (5 : Nat), smF M (List.take j l) s0F (6 : Nat) = smF M (List.take j l) s0F (6 : Nat), smF M (List.take j l) s0F (7 : Nat) = smF M (List.take j l) s0F (7 : Nat), false = false, false = false, false = false, false = false, false = false, false = false, false = false, false = false, (M.getD (l.getD j (0 : Int)).toNat Con.zero).exp = (at_ M (l.getD j (0 : Int)).toNat).exp, (M.getD (l.getD j (0 : Int)).toNat Con.zero).dim = (at_ M (l.getD j (0 : Int)).toNat).dim, (M.getD (l.getD j (0 : Int)).toNat Con.zero).sign = (at_ M (l.getD j (0 : Int)).toNat).sign, (M.getD (l.getD j (0 : Int)).toNat Con.zero).odd = (at_ M (l.getD j (0 : Int)).toNat).odd, (0 : Int) ≤ l.getD j (0 : Int) ∧ l.getD j (0 : Int) < (↑M.length : Int), (0 : Int) ≤ (↑j : Int) ∧ (↑j : Int) < (↑l.length : Int), Dec (decide ((↑j : Int) < (↑l.length : Int))) true], by kernel_rfl, ⟨?_, ?_, ?_, ?_, ?_, ?_, ?_, ?_, ?_, ?_, ?_, ?_, ?_, ?_, ?_, ?_, ?_, ?_, ?_, ?_, ?_, ?_, ?_, ?_, ?_, ?_, ?_, ?_, ?_, ?_, ?_, ?_, ?_, ?_, ?_, ?_, ?_, ?_, ?_, ?_, ?_, ?_, ?_, ?_, ?_, ?_, ?_, ?_, ?_, ?_, d1⟩, MuG.out ?_, InG.out ?_⟩⟩)
           (fun d1 => ⟨[false], .inr ⟨[M.length = M.length ∧ (fun i => (M.getD i Con.zero).rvs) = fun i => (M.getD i Con.zero).rvs, tot = tot, l.length = l.length ∧ (fun j => [RV.int IntKind.i64 (l.getD j (0 : Int))]) = fun j => [RV.int IntKind.i64 (l.getD j (0 : Int))], (↑l.length : Int) = (↑l.length : Int), (↑j : Int) = (↑l.length : Int), c.exp = c.exp, c.dim = c.dim, c.sign = c.sign, c.odd = c.odd, c.oddity = c.oddity, smF M (List.take j l) s0F (0 : Nat) = smF M l s0F (0 : Nat), smF M (List.take j l) s0F (1 : Nat) = smF M l s0F (1 : Nat), smF M (List.take j l) s0F (2 : Nat) = smF M l s0F (2 : Nat), smF M (List.take j l) s0F (3 : Nat) = smF M l s0F (3 : Nat), smF M (List.take j l) s0F (4 : Nat) = smF M l s0F (4 : Nat), smF M (List.take j l) s0F (5 : Nat) = smF M l s0F (5 : Nat), smF M (List.take j l) s0F (6 : Nat) = smF M l s0F (6 : Nat), smF M (List.take j l) s0F (7 : Nat) = smF M l s0F (7 : Nat), Dec (decide ((↑j : Int) < (↑l.length : Int))) false], by kernel_rfl, ⟨?_, ?_, ?_, ?_, ?_, ?_, ?_, ?_, ?_, ?_, ?_, ?_, ?_, ?_, ?_, ?_, ?_, ?_, d1⟩, rfl⟩⟩)
      all_goals first | (refine MuG.mk ?_; (simp only [decide_eq_true_eq] at *; show l.length - (j + 1) < l.length - j; omega)) | (refine InG.mk ?_; (simp only [decide_eq_true_eq] at *; show j + 1 ≤ l.length; omega)) | (refine CtG.mk ?_; (simp_all)) | (first | (with_reducible rfl) | exact ⟨rfl, rfl⟩ | decide | ((try simp only [ek, Int.toNat_natCast, decide_eq_true_eq, decide_eq_false_iff_not] at *) <;> first | omega | (have h1 := hr.at (t := j) (by omega); omega) | (rw [smF_take (by omega)]; done) | (rw [List.take_of_length_le (by omega)]; done) | (congr 1; omega) | rfl))

/- the least one -/
noncomputable def leDH (c : Con) (F : Nat → Bool) (o : AV) : List (Nat × Blk) := [(1000, ⟨.plain (cAv c o), 49, 0, false, true⟩), (1001, ⟨.plain (b8 F), 89, 0, false, true⟩)]
noncomputable def leDT (tot : Int) : List (Nat × AV) := [(3, .vint .i64 tot), (4, .ptr 1000 0), (10, .ptr 1001 0)]
noncomputable def leD (c : Con) (M : List Con) (l : List Int) (tot : Int) : Ann := ⟨⟨leDT tot, leDH c (smF M l s0F) (.int .i64 0), 1010⟩, some (lsF c M l tot).isSome, fun d => match d with
  | true => (.ret, ⟨[(8, .vint .i64 (((lsF c M l tot).getD 0 : Nat) : Int)), (9, .bool true)], [], 1010⟩)
  | false => (.exit 6, ⟨[], [], 1010⟩)⟩
theorem le_tot {tot : Int} {t : Nat} (h0 : 0 ≤ tot) (h1 : tot ≤ 7) (ht : t < 8) : (IntKind.i64.wrap (IntKind.i64.wrap (tot - (t : Int)) + 8)).tmod 8 = (tot - (t : Int) + 8) % 8 := by
  rw [w64 (n := tot - (t : Int)) (by omega) (by omega), w64 (by omega) (by omega), Int.tmod_eq_emod_of_nonneg (by omega)]
theorem le_can {M : List Con} {l : List Int} {x : Int} (h0 : 0 ≤ x) (h1 : x < 8) : [smF M l s0F 0, smF M l s0F 1, smF M l s0F 2, smF M l s0F 3, smF M l s0F 4, smF M l s0F 5, smF M l s0F 6, smF M l s0F 7].getD (x.toNat + 0) false = canR M l x := by
  rw [Nat.add_zero, b8_get (n := smF M l s0F) (by omega), smF_canR (by omega), Int.toNat_of_nonneg h0]
theorem findT_yes {p : Nat → Bool} {t : Nat} (ht : t < 8) (h : p t = true) : findT p (8 - t) t = some t := by
  rw [show 8 - t = (8 - (t + 1)) + 1 by omega]
  simp only [findT, h, cond_true]
theorem findT_no {p : Nat → Bool} {t : Nat} (ht : t < 8) (h : p t = false) : findT p (8 - t) t = findT p (8 - (t + 1)) (t + 1) := by
  rw [show 8 - t = (8 - (t + 1)) + 1 by omega]
  simp only [findT, h, cond_false]
theorem lst_yes {c : Con} {M : List Con} {l : List Int} {tot : Int} {t : Nat} (h1 : legalB (wO c (t : Int)) = true) (h2 : canR M l ((tot - (t : Int) + 8) % 8) = true) : lstC c M l tot t = true := by unfold lstC; rw [h1, h2]; rfl
theorem lst_no1 {c : Con} {M : List Con} {l : List Int} {tot : Int} {t : Nat} (h1 : legalB (wO c (t : Int)) = false) : lstC c M l tot t = false := by unfold lstC; rw [h1]; rfl
theorem lst_no2 {c : Con} {M : List Con} {l : List Int} {tot : Int} {t : Nat} (h2 : canR M l ((tot - (t : Int) + 8) % 8) = false) : lstC c M l tot t = false := by unfold lstC; rw [h2, Bool.and_false]
set_option maxRecDepth 100000 in
theorem le_d (c : Con) (M : List Con) (l : List Int) (tot : Int) (h0 : 0 ≤ tot) (h1 : tot ≤ 7) : AnnOk Tryz.prog EV.ng (Nat.max 4 Tryz.f61.ntmps) (bodyAt Tryz.f61 [0, 1, 0, 1, 1, 1]) (leD c M l tot) := by
  refine ann_of evOk (callF_ok evOk (orcOf_ok entsVS_ok) 8) none_ann (by kernel_rfl) (by kernel_rfl) (fun i : Nat => (fun (t : Nat) => (⟨leDT tot, leDH c (smF M l s0F) (.vint .i64 (t : Int)), 1010⟩ : St)) i) (fun i : Nat => (fun (t : Nat) => (8 - t : Nat)) i) (fun (d : Bool) (i : Nat) => (fun (t : Nat) => (t ≤ 8 ∧ findT (lstC c M l tot) (8 - t) t = lsF c M l tot ∧ (lsF c M l tot).isSome = d : Prop)) i) ?_ ?_
  · intro d hd
    exact ⟨(0), [tot = tot, c.exp = c.exp, c.dim = c.dim, c.sign = c.sign, c.odd = c.odd, (0 : Int) = (↑(0 : Nat) : Int), smF M l s0F (0 : Nat) = smF M l s0F (0 : Nat), smF M l s0F (1 : Nat) = smF M l s0F (1 : Nat), smF M l s0F (2 : Nat) = smF M l s0F (2 : Nat), smF M l s0F (3 : Nat) = smF M l s0F (3 : Nat), smF M l s0F (4 : Nat) = smF M l s0F (4 : Nat), smF M l s0F (5 : Nat) = smF M l s0F (5 : Nat), smF M l s0F (6 : Nat) = smF M l s0F (6 : Nat), smF M l s0F (7 : Nat) = smF M l s0F (7 : Nat)], by kernel_rfl, (by refine ⟨?_, ?_, ?_, ?_, ?_, ?_, ?_, ?_, ?_, ?_, ?_, ?_, ?_, (?_ : smF M l s0F (7 : Nat) = smF M l s0F (7 : Nat))⟩ <;> (first | rfl | assumption | omega | simp_all)), (by exact ⟨Nat.zero_le _, rfl, hd⟩)⟩
  · rintro d hd t hI
    cases d
    · -- d = false
      obtain ⟨ht, hf, hs⟩ := hI
      have ht : t ≤ 8 := ht
      have hf : findT (lstC c M l tot) (8 - t) t = lsF c M l tot := hf
      have ek : IntKind.i64.wrap ((t : Int) + 1) = ((t + 1 : Nat) : Int) := by rw [w64 (by omega) (by omega)]; omega
      refine Or.elim (Bool.eq_false_or_eq_true (decide ((↑t : Int) < (8 : Int)))) (fun d1 => Or.elim (Bool.eq_false_or_eq_true (legalB (Con.mk c.exp c.dim c.sign c.odd (↑t : Int)))) (fun d2 => Or.elim (Bool.eq_false_or_eq_true ([smF M l s0F (0 : Nat), smF M l s0F (1 : Nat), smF M l s0F (2 : Nat), smF M l s0F (3 : Nat), smF M l s0F (4 : Nat), smF M l s0F (5 : Nat), smF M l s0F (6 : Nat), smF M l s0F (7 : Nat)].getD (((IntKind.i64.wrap (IntKind.i64.wrap (tot - (↑t : Int)) + (8 : Int))).tmod (8 : Int)).toNat + (0 : Nat)) false)) (fun d3 => CtG.no ?_)
           (fun d3 => ⟨[true, true, false], .inl ⟨(t + 1), [tot = tot, c.exp = c.exp, c.dim = c.dim, c.sign = c.sign, c.odd = c.odd, IntKind.i64.wrap ((↑t : Int) + (1 : Int)) = (↑(t + (1 : Nat)) : Int), smF M l s0F (0 : Nat) = smF M l s0F (0 : Nat), smF M l s0F (1 : Nat) = smF M l s0F (1 : Nat), smF M l s0F (2 : Nat) = smF M l s0F (2 : Nat), smF M l s0F (3 : Nat) = smF M l s0F (3 : Nat), smF M l s0F (4 : Nat) = smF M l s0F (4 : Nat), smF M l s0F (5 : Nat) = smF M l s0F (5 : Nat), smF M l s0F (6 : Nat) = smF M l s0F (6 : Nat), smF M l s0F (7 : Nat) = smF M l s0F (7 : Nat), Dec ([smF M l s0F (0 : Nat), smF M l s0F (1 : Nat), smF M l s0F (2 : Nat), smF M l s0F (3 : Nat), smF M l s0F (4 : Nat), smF M l s0F (5 : Nat), smF M l s0F (6 : Nat), smF M l s0F (7 : Nat)].getD (((IntKind.i64.wrap (IntKind.i64.wrap (tot - (↑t : Int)) + (8 : Int))).tmod (8 : Int)).toNat + (0 : Nat)) false) false, ((IntKind.i64.wrap (IntKind.i64.wrap (tot - (↑t : Int)) + (8 : Int))).tmod (8 : Int)).toNat + (0 : Nat) < [smF M l s0F (0 : Nat), smF M l s0F (1 : Nat), smF M l s0F (2 : Nat), smF M l s0F (3 : Nat), smF M l s0F (4 : Nat), smF M l s0F (5 : Nat), smF M l s0F (6 : Nat), smF M l s0F (7 : Nat)].length, (0 : Int) ≤ (IntKind.i64.wrap (IntKind.i64.wrap (tot - (↑t : Int)) + (8 : Int))).tmod (8 : Int) ∧ (IntKind.i64.wrap (IntKind.i64.wrap (tot - (↑t : Int)) + (8 : Int))).tmod (8 : Int) < (↑(8 : Nat) : Int), (8 : Int) ≠ (0 : Int), Dec (legalB (Con.mk c.exp c.dim c.sign c.odd (↑t : Int))) true, Dec (decide ((↑t : Int) < (8 : Int))) true], by kernel_rfl, ⟨?_, ?_, ?_, ?_, ?_, ?_, ?_, ?_, ?_, ?_, ?_, ?_, ?_, ?_, d3, ?_, ?_, ?_, d2, d1⟩, MuG.out ?_, InG.out ?_⟩⟩))
           (fun d2 => ⟨[true, false], .inl ⟨(t + 1), [tot = tot, c.exp = c.exp, c.dim = c.dim, c.sign = c.sign, c.odd = c.odd, IntKind.i64.wrap ((↑t : Int) + (1 : Int)) = (↑(t + (1 : Nat)) : Int), smF M l s0F (0 : Nat) = smF M l s0F (0 : Nat), smF M l s0F (1 : Nat) = smF M l s0F (1 : Nat), smF M l s0F (2 : Nat) = smF M l s0F (2 : Nat), smF M l s0F (3 : Nat) = smF M l s0F (3 : Nat), smF M l s0F (4 : Nat) = smF M l s0F (4 : Nat), smF M l s0F (5 : Nat) = smF M l s0F (5 : Nat), smF M l s0F (6 : Nat) = smF M l s0F (6 : Nat), smF M l s0F (7 : Nat) = smF M l s0F (7 : Nat), Dec (legalB (Con.mk c.exp c.dim c.sign c.odd (↑t : Int))) false, Dec (decide ((↑t : Int) < (8 : Int))) true], by kernel_rfl, ⟨?_, ?_, ?_, ?_, ?_, ?_, ?_, ?_, ?_, ?_, ?_, ?_, ?_, ?_, d2, d1⟩, MuG.out ?_, InG.out ?_⟩⟩))
           (fun d1 => ⟨[false], .inr ⟨[Dec (decide ((↑t : Int) < (8 : Int))) false], by kernel_rfl, d1, rfl⟩⟩)
      all_goals first | (refine MuG.mk ?_; (simp only [decide_eq_true_eq] at *; show 8 - (t + 1) < 8 - t; omega)) | (refine InG.mk ?_; (simp only [decide_eq_true_eq] at *; have h7 : t < 8 := (by omega); have hx := le_tot h0 h1 h7; refine ⟨h7, ?_, hs⟩; first | (rw [← hf, findT_no h7 (lst_no1 d2)]; done) | (rw [hx, le_can (by omega) (by omega)] at d3; rw [← hf, findT_no h7 (lst_no2 d3)]; done))) | (refine CtG.mk ?_; (simp only [decide_eq_true_eq, decide_eq_false_iff_not] at *; first | (have h8 : t = 8 := (by omega); subst h8; rw [← hf] at hs; cases hs; done) | (have h7 : t < 8 := (by omega); have hx := le_tot h0 h1 h7; rw [hx, le_can (by omega) (by omega)] at d3; rw [← hf, findT_yes h7 (lst_yes d2 d3)] at hs; cases hs; done))) | (first | (with_reducible rfl) | exact ⟨rfl, rfl⟩ | decide | ((try simp only [ek, Int.toNat_natCast, decide_eq_true_eq, decide_eq_false_iff_not] at *) <;> first | omega | (have h7 : t < 8 := (by omega); have hx := le_tot h0 h1 h7; rw [hx]; first | omega | (simp only [List.length_cons, List.length_nil]; omega)) | (have h7 : t < 8 := (by omega); have hx := le_tot h0 h1 h7; rw [hx, le_can (by omega) (by omega)] at d3; rw [← hf, findT_yes h7 (lst_yes d2 d3)]; rfl)))
    · -- d = true
      obtain ⟨ht, hf, hs⟩ := hI
      have ht : t ≤ 8 := ht
      have hf : findT (lstC c M l tot) (8 - t) t = lsF c M l tot := hf
      have ek : IntKind.i64.wrap ((t : Int) + 1) = ((t + 1 : Nat) : Int) := by rw [w64 (by omega) (by omega)]; omega
      refine Or.elim (Bool.eq_false_or_eq_true (decide ((↑t : Int) < (8 : Int)))) (fun d1 => Or.elim (Bool.eq_false_or_eq_true (legalB (Con.mk c.exp c.dim c.sign c.odd (↑t : Int)))) (fun d2 => Or.elim (Bool.eq_false_or_eq_true ([smF M l s0F (0 : Nat), smF M l s0F (1 : Nat), smF M l s0F (2 : Nat), smF M l s0F (3 : Nat), smF M l s0F (4 : Nat), smF M l s0F (5 : Nat), smF M l s0F (6 : Nat), smF M l s0F (7 : Nat)].getD (((IntKind.i64.wrap (IntKind.i64.wrap (tot - (↑t : Int)) + (8 : Int))).tmod (8 : Int)).toNat + (0 : Nat)) false)) (fun d3 => ⟨[true, true, true], .inr ⟨[(↑t : Int) = (↑((lsF c M l tot).getD (0 : Nat)) : Int), Dec ([smF M l s0F (0 : Nat), smF M l s0F (1 : Nat), smF M l s0F (2 : Nat), smF M l s0F (3 : Nat), smF M l s0F (4 : Nat), smF M l s0F (5 : Nat), smF M l s0F (6 : Nat), smF M l s0F (7 : Nat)].getD (((IntKind.i64.wrap (IntKind.i64.wrap (tot - (↑t : Int)) + (8 : Int))).tmod (8 : Int)).toNat + (0 : Nat)) false) true, ((IntKind.i64.wrap (IntKind.i64.wrap (tot - (↑t : Int)) + (8 : Int))).tmod (8 : Int)).toNat + (0 : Nat) < [smF M l s0F (0 : Nat), smF M l s0F (1 : Nat), smF M l s0F (2 : Nat), smF M l s0F (3 : Nat), smF M l s0F (4 : Nat), smF M l s0F (5 : Nat), smF M l s0F (6 : Nat), smF M l s0F (7 : Nat)].length, (0 : Int) ≤ (IntKind.i64.wrap (IntKind.i64.wrap (tot - (↑t : Int)) + (8 : Int))).tmod (8 : Int) ∧ (IntKind.i64.wrap (IntKind.i64.wrap (tot - (↑t : Int)) + (8 : Int))).tmod (8 : Int) < (↑(8 : Nat) : Int), (8 : Int) ≠ (0 : Int), Dec (legalB (Con.mk c.exp c.dim c.sign c.odd (↑t : Int))) true, Dec (decide ((↑t : Int) < (8 : Int))) true], by kernel_rfl, ⟨?_, d3, ?_, ?_, ?_, d2, d1⟩, rfl⟩⟩)
           (fun d3 => ⟨[true, true, false], .inl ⟨(t + 1), [tot = tot, c.exp = c.exp, c.dim = c.dim, c.sign = c.sign, c.odd = c.odd, IntKind.i64.wrap ((↑t : Int) + (1 : Int)) = (↑(t + (1 : Nat)) : Int), smF M l s0F (0 : Nat) = smF M l s0F (0 : Nat), smF M l s0F (1 : Nat) = smF M l s0F (1 : Nat), smF M l s0F (2 : Nat) = smF M l s0F (2 : Nat), smF M l s0F (3 : Nat) = smF M l s0F (3 : Nat), smF M l s0F (4 : Nat) = smF M l s0F (4 : Nat), smF M l s0F (5 : Nat) = smF M l s0F (5 : Nat), smF M l s0F (6 : Nat) = smF M l s0F (6 : Nat), smF M l s0F (7 : Nat) = smF M l s0F (7 : Nat), Dec ([smF M l s0F (0 : Nat), smF M l s0F (1 : Nat), smF M l s0F (2 : Nat), smF M l s0F (3 : Nat), smF M l s0F (4 : Nat), smF M l s0F (5 : Nat), smF M l s0F (6 : Nat), smF M l s0F (7 : Nat)].getD (((IntKind.i64.wrap (IntKind.i64.wrap (tot - (↑t : Int)) + (8 : Int))).tmod (8 : Int)).toNat + (0 : Nat)) false) false, ((IntKind.i64.wrap (IntKind.i64.wrap (tot - (↑t : Int)) + (8 : Int))).tmod (8 : Int)).toNat + (0 : Nat) < [smF M l s0F (0 : Nat), smF M l s0F (1 : Nat), smF M l s0F (2 : Nat), smF M l s0F (3 : Nat), smF M l s0F (4 : Nat), smF M l s0F (5 : Nat), smF M l s0F (6 : Nat), smF M l s0F (7 : Nat)].length, (0 : Int) ≤ (IntKind.i64.wrap (IntKind.i64.wrap (tot - (↑t : Int)) + (8 : Int))).tmod (8 : Int) ∧ (IntKind.i64.wrap (IntKind.i64.wrap (tot - (↑t : Int)) + (8 : Int))).tmod (8 : Int) < (↑(8 : Nat) : Int), (8 : Int) ≠ (0 : Int), Dec (legalB (Con.mk c.exp c.dim c.sign c.odd (↑t : Int))) true, Dec (decide ((↑t : Int) < (8 : Int))) true], by kernel_rfl, ⟨?_, ?_, ?_, ?_, ?_, ?_, ?_, ?_, ?_, ?_, ?_, ?_, ?_, ?_, d3, ?_, ?_, ?_, d2, d1⟩, MuG.out ?_, InG.out ?_⟩⟩))
           (fun d2 => ⟨[true, false], .inl ⟨(t + 1), [tot = tot, c.exp = c.exp, c.dim = c.dim, c.sign = c.sign, c.odd = c.odd, IntKind.i64.wrap ((↑t : Int) + (1 : Int)) = (↑(t + (1 : Nat)) : Int), smF M l s0F (0 : Nat) = smF M l s0F (0 : Nat), smF M l s0F (1 : Nat) = smF M l s0F (1 : Nat), smF M l s0F (2 : Nat) = smF M l s0F (2 : Nat), smF M l s0F (3 : Nat) = smF M l s0F (3 : Nat), smF M l s0F (4 : Nat) = smF M l s0F (4 : Nat), smF M l s0F (5 : Nat) = smF M l s0F (5 : Nat), smF M l s0F (6 : Nat) = smF M l s0F (6 : Nat), smF M l s0F (7 : Nat) = smF M l s0F (7 : Nat), Dec (legalB (Con.mk c.exp c.dim c.sign c.odd (↑t : Int))) false, Dec (decide ((↑t : Int) < (8 : Int))) true], by kernel_rfl, ⟨?_, ?_, ?_, ?_, ?_, ?_, ?_, ?_, ?_, ?_, ?_, ?_, ?_, ?_, d2, d1⟩, MuG.out ?_, InG.out ?_⟩⟩))
           (fun d1 => CtG.no ?_)
      all_goals first | (refine MuG.mk ?_; (simp only [decide_eq_true_eq] at *; show 8 - (t + 1) < 8 - t; omega)) | (refine InG.mk ?_; (simp only [decide_eq_true_eq] at *; have h7 : t < 8 := (by omega); have hx := le_tot h0 h1 h7; refine ⟨h7, ?_, hs⟩; first | (rw [← hf, findT_no h7 (lst_no1 d2)]; done) | (rw [hx, le_can (by omega) (by omega)] at d3; rw [← hf, findT_no h7 (lst_no2 d3)]; done))) | (refine CtG.mk ?_; (simp only [decide_eq_true_eq, decide_eq_false_iff_not] at *; first | (have h8 : t = 8 := (by omega); subst h8; rw [← hf] at hs; cases hs; done) | (have h7 : t < 8 := (by omega); have hx := le_tot h0 h1 h7; rw [hx, le_can (by omega) (by omega)] at d3; rw [← hf, findT_yes h7 (lst_yes d2 d3)] at hs; cases hs; done))) | (first | (with_reducible rfl) | exact ⟨rfl, rfl⟩ | decide | ((try simp only [ek, Int.toNat_natCast, decide_eq_true_eq, decide_eq_false_iff_not] at *) <;> first | omega | (have h7 : t < 8 := (by omega); have hx := le_tot h0 h1 h7; rw [hx]; first | omega | (simp only [List.length_cons, List.length_nil]; omega)) | (have h7 : t < 8 := (by omega); have hx := le_tot h0 h1 h7; rw [hx, le_can (by omega) (by omega)] at d3; rw [← hf, findT_yes h7 (lst_yes d2 d3)]; rfl)))
theorem ls_none {o : Option Nat} (h : o.isSome = false) : (0 : Int) = ((o.getD 0 : Nat) : Int) := by cases o with | none => rfl | some v => cases h
theorem two_ann {P : Program} {ng N : Nat} {fn : Func} {p q : List Nat} {A B : Ann} (h : AnnOk P ng N (bodyAt fn p) A) (k : AnnOk P ng N (bodyAt fn q) B) : ∀ x ∈ [(p, A), (q, B)], AnnOk P ng N (bodyAt fn x.1) x.2 := fun x hx => by
  rcases List.mem_cons.1 hx with rfl | hx
  · exact h
  · rw [List.mem_singleton.1 hx]; exact k
set_option maxRecDepth 100000 in
theorem least_pure (c : Con) (M : List Con) (l : List Int) (tot : Int) (hl : l.length ≤ 1000) (hr : inR M.length l) (h0 : 0 ≤ tot) (h1 : tot ≤ 7) : PureC Tryz.prog [] 61 [.agg c.rvs, roC M, rI .i64 l, .int .i64 tot] (.tup [.int .i64 (((lsF c M l tot).getD 0 : Nat) : Int), .bool (lsF c M l tot).isSome]) := by
  have rr := fun (tp : List Bool) (ms : List Prop) h hm => pure_run evOk (callF_ok evOk (orcOf_ok entsVS_ok) 8) Tryz.func61 (A := [.agg c.rvs, roC M, rI .i64 l, .int .i64 tot]) (N := Nat.max 4 Tryz.f61.ntmps) rfl (two_ann (le_a c M l tot hl hr) (le_d c M l tot h0 h1)) rfl rfl evNg (tabs := []) (R := .tup [.int .i64 (((lsF c M l tot).getD 0 : Nat) : Int), .bool (lsF c M l tot).isSome]) (tp := tp) (ms := ms) h hm
  refine Or.elim (Bool.eq_false_or_eq_true ((lsF c M l tot).isSome)) (fun d1 => rr [true] [(↑((lsF c M l tot).getD (0 : Nat)) : Int) = (↑((lsF c M l tot).getD (0 : Nat)) : Int), true = (lsF c M l tot).isSome, tot = tot, c.exp = c.exp, c.dim = c.dim, c.sign = c.sign, c.odd = c.odd, smF M l s0F (0 : Nat) = smF M l s0F (0 : Nat), smF M l s0F (1 : Nat) = smF M l s0F (1 : Nat), smF M l s0F (2 : Nat) = smF M l s0F (2 : Nat), smF M l s0F (3 : Nat) = smF M l s0F (3 : Nat), smF M l s0F (4 : Nat) = smF M l s0F (4 : Nat), smF M l s0F (5 : Nat) = smF M l s0F (5 : Nat), smF M l s0F (6 : Nat) = smF M l s0F (6 : Nat), smF M l s0F (7 : Nat) = smF M l s0F (7 : Nat), Dec (lsF c M l tot).isSome true, M.length = M.length ∧ (fun i => (M.getD i Con.zero).rvs) = fun i => (M.getD i Con.zero).rvs, tot = tot, l.length = l.length ∧ (fun j => [RV.int IntKind.i64 (l.getD j (0 : Int))]) = fun j => [RV.int IntKind.i64 (l.getD j (0 : Int))], (↑l.length : Int) = (↑l.length : Int), c.exp = c.exp, c.dim = c.dim, c.sign = c.sign, c.odd = c.odd, c.oddity = c.oddity, true = true, false = false, false = false, false = false, false = false, false = false, false = false, false = false] (by kernel_rfl) ⟨?_, ?_, ?_, ?_, ?_, ?_, ?_, ?_, ?_, ?_, ?_, ?_, ?_, ?_, ?_, d1, ?_, ?_, ?_, ?_, ?_, ?_, ?_, ?_, ?_, ?_, ?_, ?_, ?_, ?_, ?_, ?_, (?_ : false = false)⟩)
           (fun d1 => rr [false] [(0 : Int) = (↑((lsF c M l tot).getD (0 : Nat)) : Int), false = (lsF c M l tot).isSome, tot = tot, c.exp = c.exp, c.dim = c.dim, c.sign = c.sign, c.odd = c.odd, smF M l s0F (0 : Nat) = smF M l s0F (0 : Nat), smF M l s0F (1 : Nat) = smF M l s0F (1 : Nat), smF M l s0F (2 : Nat) = smF M l s0F (2 : Nat), smF M l s0F (3 : Nat) = smF M l s0F (3 : Nat), smF M l s0F (4 : Nat) = smF M l s0F (4 : Nat), smF M l s0F (5 : Nat) = smF M l s0F (5 : Nat), smF M l s0F (6 : Nat) = smF M l s0F (6 : Nat), smF M l s0F (7 : Nat) = smF M l s0F (7 : Nat), Dec (lsF c M l tot).isSome false, M.length = M.length ∧ (fun i => (M.getD i Con.zero).rvs) = fun i => (M.getD i Con.zero).rvs, tot = tot, l.length = l.length ∧ (fun j => [RV.int IntKind.i64 (l.getD j (0 : Int))]) = fun j => [RV.int IntKind.i64 (l.getD j (0 : Int))], (↑l.length : Int) = (↑l.length : Int), c.exp = c.exp, c.dim = c.dim, c.sign = c.sign, c.odd = c.odd, c.oddity = c.oddity, true = true, false = false, false = false, false = false, false = false, false = false, false = false, false = false] (by kernel_rfl) ⟨?_, ?_, ?_, ?_, ?_, ?_, ?_, ?_, ?_, ?_, ?_, ?_, ?_, ?_, ?_, d1, ?_, ?_, ?_, ?_, ?_, ?_, ?_, ?_, ?_, ?_, ?_, ?_, ?_, ?_, ?_, ?_, (?_ : false = false)⟩)
  all_goals first | (first | (with_reducible rfl) | exact ⟨rfl, rfl⟩ | rfl | exact ls_none d1 | exact d1.symm)
end Go.Proofs.YtcfdaddablojlaaGreatDoor.S

/- quadformref26.refine: the oddities of a compartment. -/
set_option linter.unusedSimpArgs false
set_option linter.unusedVariables false
namespace Go.Proofs.YtcfdaddablojlaaGreatDoor.S
open Go.QfSy Go.RowKit

/- the calls of refine for the rest of the compartment -/
theorem inR.drop {N : Nat} {l : List Int} (h : inR N l) (k : Nat) : inR N (l.drop k) := fun x hx => h x (List.mem_of_mem_drop hx)
theorem refF_len {N : Nat} {l : List Int} (h : inR N l) {tot : Int} {M : List Con} (hM : M.length = N) : (refF l tot M).2.length = N := ((ref_spec h).2.1 tot M hM).len.trans hM
end Go.Proofs.YtcfdaddablojlaaGreatDoor.S

/- train.Fuse, walk and Canonical. -/
set_option linter.unusedSimpArgs false
set_option linter.unusedVariables false
namespace Go.Proofs.YtcfdaddablojlaaGreatDoor.S
open Go.QfSy Go.RowKit

noncomputable def entsVW : List OEnt := entsVC ++ [
  ⟨38, [], fun A => match A with
    | [.agg [.int .i64 p, .sl n 5 row]] => some (.bool (val2M p (consR n row)), [(∀ i, i < n → row i = (Con.ofR (row i)).rvs) ∧ n ≤ 1000])
    | _ => none⟩]
theorem entsVW_ok : ∀ e ∈ entsVW, EntOk Tryz.prog e := by
  intro e he
  rcases List.mem_append.1 he with he | he
  · exact entsVC_ok e he
  · rw [List.mem_singleton.1 he]
    intro A R ms h hm
    simp only at h
    split at h
    · cases h
      obtain ⟨h1, h3⟩ := all_one hm
      exact PureC.imp (tvalid_pure _ _ (by rw [consR_len]; exact h3)) (.cons (.agg (.cons .same (.cons (.con h1) .nil))) .nil)
    · cases h
theorem sumT_append : ∀ {a b : List Int} {L : List Con}, sumT L (a ++ b) = sumT L a + sumT (zeroP L a) b
  | [], _, _ => by simp [sumT, zeroP]
  | i :: a, b, L => by simp only [List.cons_append, sumT, zeroP]; rw [sumT_append]; omega
theorem sumT_take {L : List Con} {l : List Int} {t : Nat} (ht : t < l.length) : sumT L (l.take (t + 1)) = sumT L (l.take t) + (at_ (zeroP L (l.take t)) (l.getD t 0).toNat).oddity := by
  rw [take_int ht, sumT_append]; simp [sumT]
theorem sumT_b : ∀ {l : List Int} {L : List Con}, okL L → inR L.length l → 0 ≤ sumT L l ∧ sumT L l ≤ 7 * l.length
  | [], _, _, _ => by simp [sumT]
  | i :: l, L, hL, h => by
    have h1 := h i (by simp)
    have h2 := (hL.at (k := i.toNat) (by omega)).2.2.2
    have ih := sumT_b (setO_ok hL h1 (by decide : (0 : Int) ≤ 0 ∧ (0 : Int) ≤ 7)) (l := l) (by rw [setO_len]; exact fun x hx => h x (by simp [hx]))
    simp only [sumT, List.length_cons]
    omega
def fuT (M : List Con) (l : List Int) : List Con := setO (zeroP M l) (l.getD 0 0) (sumT M l % 8)
theorem fuT_len {M : List Con} {l : List Int} : (fuT M l).length = M.length := by unfold fuT; rw [setO_len, zeroP_len]
theorem fuT_ok {M : List Con} (h : okL M) {l : List Int} (hl : inR M.length l) (hne : l ≠ []) : okL (fuT M l) := by
  unfold fuT
  refine setO_ok (zeroP_ok h hl) ?_ (by omega)
  rw [zeroP_len]
  exact hl.at (List.length_pos_iff.2 hne)
theorem fuseT_drop {M : List Con} {P : List (List Int)} {j : Nat} (hj : j < P.length) : fuseT M (P.drop j) = fuseT (fuT M (rowAt P j)) (P.drop (j + 1)) := by
  rw [drop_row hj]; rfl
noncomputable def tfH (n : Nat) (M : List Con) : List (Nat × Blk) := [(1001, ⟨.plain [.int .i64 0, .nils], 24, 0, false, true⟩), (1003, ⟨.con M, 49, 5, true, true⟩)]
noncomputable def tfT (n : Nat) (P : List (List Int)) (j : Nat) : List (Nat × AV) := [(2, .ptr 1001 0), (4, .lo 1003 n), (18, (roR .i64 P).av), (19, .vint .i64 P.length), (20, .vint .i64 (j : Int)), (6, (rI .i64 (rowAt P j)).av)]
noncomputable def tfIn (n : Nat) (M : List Con) (P : List (List Int)) (j : Nat) : Ann := ⟨⟨tfT n P j ++ [(7, .int .i64 0), (24, (rI .i64 (rowAt P j)).av), (25, .vint .i64 (rowAt P j).length), (26, .int .i64 0)], tfH n M, 1030⟩, none, fun _ =>
  (.exit 2, ⟨tfT n P j ++ [(7, .vint .i64 (sumT M (rowAt P j)))], tfH n (zeroP M (rowAt P j)), 1030⟩)⟩
theorem odd_z {M : List Con} {l : List Int} {t : Nat} (hL : okL M) (hl : inR M.length l) (ht : t < l.length) : 0 ≤ (at_ (zeroP M (l.take t)) (l.getD t 0).toNat).oddity ∧ (at_ (zeroP M (l.take t)) (l.getD t 0).toNat).oddity ≤ 7 := by
  have h1 := hl.at ht
  have h2 := zeroP_ok hL (l := l.take t) (fun x hx => hl x (List.mem_of_mem_take hx))
  exact (h2.at (k := (l.getD t 0).toNat) (by rw [zeroP_len]; omega)).2.2.2
set_option maxRecDepth 100000 in
theorem tf_in (n : Nat) (M : List Con) (P : List (List Int)) (j : Nat) (hM : okL M) (hn : M.length = n) (hr : inR n (rowAt P j)) (hr2 : (rowAt P j).length ≤ 1000) : AnnOk Tryz.prog EV.ng (Nat.max 1 Tryz.f19.ntmps) (bodyAt Tryz.f19 [0, 1, 0, 1, 1, 0, 0, 1, 1, 0, 0, 1, 0, 1, 1, 1]) (tfIn n M P j) := by
  refine ann_of evOk (callF_ok evOk (noOrc_ok _ _) 8) none_ann (by kernel_rfl) (by kernel_rfl) (fun i : Nat × Int => (fun (t : Nat) (s : Int) => (⟨tfT n P j ++ [(7, .vint .i64 s), (24, (rI .i64 (rowAt P j)).av), (25, .vint .i64 (rowAt P j).length), (26, .vint .i64 (t : Int))], tfH n (zeroP M ((rowAt P j).take t)), 1030⟩ : St)) i.1 i.2) (fun i : Nat × Int => (fun (t : Nat) (s : Int) => ((rowAt P j).length - t : Nat)) i.1 i.2) (fun (d : Bool) (i : Nat × Int) => (fun (t : Nat) (s : Int) => (t ≤ (rowAt P j).length ∧ s = sumT M ((rowAt P j).take t) : Prop)) i.1 i.2) ?_ ?_
  · intro d hd
    exact ⟨(0, 0), [n = n, P.length = P.length ∧ (fun i => [rI IntKind.i64 (P.getD i [])]) = fun i => [rI IntKind.i64 (P.getD i [])], (↑P.length : Int) = (↑P.length : Int), (↑j : Int) = (↑j : Int), (rowAt P j).length = (rowAt P j).length ∧ (fun j_1 => [RV.int IntKind.i64 ((rowAt P j).getD j_1 (0 : Int))]) = fun j_1 => [RV.int IntKind.i64 ((rowAt P j).getD j_1 (0 : Int))], (0 : Int) = (0 : Int), (rowAt P j).length = (rowAt P j).length ∧ (fun j_1 => [RV.int IntKind.i64 ((rowAt P j).getD j_1 (0 : Int))]) = fun j_1 => [RV.int IntKind.i64 ((rowAt P j).getD j_1 (0 : Int))], (↑(rowAt P j).length : Int) = (↑(rowAt P j).length : Int), (0 : Int) = (↑(0 : Nat) : Int), M = zeroP M (List.take (0 : Nat) (rowAt P j))], by kernel_rfl, (by refine ⟨?_, ?_, ?_, ?_, ?_, ?_, ?_, ?_, ?_, (?_ : M = zeroP M (List.take (0 : Nat) (rowAt P j)))⟩ <;> (first | rfl | assumption | omega | simp_all)), (by exact ⟨Nat.zero_le _, rfl⟩)⟩
  · rintro d hd ⟨t, s⟩ hI
    cases d
    · -- d = false
      exact Bool.noConfusion (show false = true from hd)
    · -- d = true
      obtain ⟨ht, hs⟩ := hI
      have ht : t ≤ (rowAt P j).length := ht
      have hs : s = sumT M ((rowAt P j).take t) := hs
      have ek : IntKind.i64.wrap ((t : Int) + 1) = ((t + 1 : Nat) : Int) := by rw [w64 (by omega) (by omega)]; omega
      have hz : (zeroP M ((rowAt P j).take t)).length = n := by rw [zeroP_len, hn]
      have hl1 := hM.1
      have hr' : inR M.length (rowAt P j) := by rw [hn]; exact hr
      have hb := sumT_b hM (l := (rowAt P j).take t) (fun x hx => hr' x (List.mem_of_mem_take hx))
      have hb2 : (((rowAt P j).take t).length : Int) ≤ 1000 := by simp only [List.length_take]; omega
      refine Or.elim (Bool.eq_false_or_eq_true (decide ((↑t : Int) < (↑(rowAt P j).length : Int)))) (fun d1 => ⟨[true], .inl ⟨(t + 1, s + (at_ (zeroP M ((rowAt P j).take t)) ((rowAt P j).getD t 0).toNat).oddity), [n = n, P.length = P.length ∧ (fun i => [rI IntKind.i64 (P.getD i [])]) = fun i => [rI IntKind.i64 (P.getD i [])], (↑P.length : Int) = (↑P.length : Int), (↑j : Int) = (↑j : Int), (rowAt P j).length = (rowAt P j).length ∧ (fun j_1 => [RV.int IntKind.i64 ((rowAt P j).getD j_1 (0 : Int))]) = fun j_1 => [RV.int IntKind.i64 ((rowAt P j).getD j_1 (0 : Int))], IntKind.i64.wrap (s + ((zeroP M (List.take t (rowAt P j))).getD ((rowAt P j).getD t (0 : Int)).toNat Con.zero).oddity) = s + (at_ (zeroP M (List.take t (rowAt P j))) ((rowAt P j).getD t (0 : Int)).toNat).oddity, (rowAt P j).length = (rowAt P j).length ∧ (fun j_1 => [RV.int IntKind.i64 ((rowAt P j).getD j_1 (0 : Int))]) = fun j_1 => [RV.int IntKind.i64 ((rowAt P j).getD j_1 (0 : Int))], (↑(rowAt P j).length : Int) = (↑(rowAt P j).length : Int), IntKind.i64.wrap ((↑t : Int) + (1 : Int)) = (↑(t + (1 : Nat)) : Int), updT (zeroP M (List.take t (rowAt P j))) ((rowAt P j).getD t (0 : Int)).toNat (0 : Int) = zeroP M (List.take (t + (1 : Nat)) (rowAt P j)), ((rowAt P j).getD t (0 : Int)).toNat < (zeroP M (List.take t (rowAt P j))).length, (0 : Int) ≤ (rowAt P j).getD t (0 : Int) ∧ (rowAt P j).getD t (0 : Int) < (↑n : Int), ((rowAt P j).getD t (0 : Int)).toNat < (zeroP M (List.take t (rowAt P j))).length, (0 : Int) ≤ (rowAt P j).getD t (0 : Int) ∧ (rowAt P j).getD t (0 : Int) < (↑n : Int), (0 : Int) ≤ (↑t : Int) ∧ (↑t : Int) < (↑(rowAt P j).length : Int), Dec (decide ((↑t : Int) < (↑(rowAt P j).length : Int))) true], by kernel_rfl, ⟨?_, ?_, ?_, ?_, ?_, ?_, ?_, ?_, ?_, ?_, ?_, ?_, ?_, ?_, ?_, d1⟩, MuG.out ?_, InG.out ?_⟩⟩)
           (fun d1 => ⟨[false], .inr ⟨[n = n, P.length = P.length ∧ (fun i => [rI IntKind.i64 (P.getD i [])]) = fun i => [rI IntKind.i64 (P.getD i [])], (↑P.length : Int) = (↑P.length : Int), (↑j : Int) = (↑j : Int), (rowAt P j).length = (rowAt P j).length ∧ (fun j_1 => [RV.int IntKind.i64 ((rowAt P j).getD j_1 (0 : Int))]) = fun j_1 => [RV.int IntKind.i64 ((rowAt P j).getD j_1 (0 : Int))], s = sumT M (rowAt P j), zeroP M (List.take t (rowAt P j)) = zeroP M (rowAt P j), Dec (decide ((↑t : Int) < (↑(rowAt P j).length : Int))) false], by kernel_rfl, ⟨?_, ?_, ?_, ?_, ?_, ?_, ?_, d1⟩, rfl⟩⟩)
      all_goals first | (refine MuG.mk ?_; (simp only [decide_eq_true_eq] at *; show (rowAt P j).length - (t + 1) < (rowAt P j).length - t; omega)) | (refine InG.mk ?_; (simp only [decide_eq_true_eq] at *; exact ⟨by omega, by rw [sumT_take (by omega), hs]⟩)) | (refine CtG.mk ?_; (simp_all)) | (first | (with_reducible rfl) | exact ⟨rfl, rfl⟩ | ((try simp only [ek, Int.toNat_natCast, decide_eq_true_eq, decide_eq_false_iff_not] at *) <;> first | omega | (have h0 := hr.at (t := t) (by omega); omega) | (have h2 := odd_z (t := t) hM hr' (by omega); simp only [at_] at h2 ⊢; exact w64 (by omega) (by omega)) | (rw [zeroP_take (by omega)]; rfl) | (rw [hs, List.take_of_length_le (by omega)]; done) | (rw [List.take_of_length_le (by omega)]; done)))
noncomputable def tfOut (L : List Con) (P : List (List Int)) : Ann := ⟨⟨[(2, .ptr 1001 0), (4, .lo 1003 L.length), (18, (roR .i64 P).av), (19, .vint .i64 P.length), (20, .int .i64 0)], tfH L.length L, 1030⟩, none, fun _ =>
  (.exit 0, ⟨[(2, .ptr 1001 0), (4, .lo 1003 L.length)], tfH L.length (fuseT L P), 1030⟩)⟩
set_option maxRecDepth 100000 in
theorem tf_out (L : List Con) (P : List (List Int)) (hL : okL L) (hP : ∀ l ∈ P, l ≠ [] ∧ inR L.length l ∧ l.length ≤ L.length) (hm : P.length ≤ 1000) : AnnOk Tryz.prog EV.ng (Nat.max 1 Tryz.f19.ntmps) (bodyAt Tryz.f19 [0, 1, 0, 1, 1, 1]) (tfOut L P) := by
  refine ann_ofI evOk (callF_ok evOk (noOrc_ok _ _) 8) (by kernel_rfl) (by kernel_rfl) (fun i : Nat × List Con => (fun (j : Nat) (M : List Con) => (⟨[(2, .ptr 1001 0), (4, .lo 1003 L.length), (18, (roR .i64 P).av), (19, .vint .i64 P.length), (20, .vint .i64 (j : Int))], tfH L.length M, 1030⟩ : St)) i.1 i.2) (fun i : Nat × List Con => (fun (j : Nat) (M : List Con) => (P.length - j : Nat)) i.1 i.2) (fun (d : Bool) (i : Nat × List Con) => (fun (j : Nat) (M : List Con) => (j ≤ P.length ∧ okL M ∧ M.length = L.length ∧ fuseT M (P.drop j) = fuseT L P : Prop)) i.1 i.2) (fun i : Nat × List Con => (fun (j : Nat) (M : List Con) => ([([0, 1, 0, 1, 1, 0, 0, 1, 1, 0, 0, 1, 0, 1, 1, 1], tfIn L.length M P j)] : List (List Nat × Ann))) i.1 i.2) ?_ ?_ ?_
  · rintro d hd ⟨j, M⟩ hI
    exact one_ann (tf_in L.length M P j hI.2.1 hI.2.2.1 (by rcases Nat.lt_or_ge j P.length with h | h; exact (hP _ (rowAt_mem h)).2.1; intro x hx; simp [rowAt, h] at hx) (by have := hL.1; rcases Nat.lt_or_ge j P.length with h | h; have := (hP _ (rowAt_mem h)).2.2; omega; simp [rowAt, h]))
  · intro d hd
    exact ⟨(0, L), [L.length = L.length, P.length = P.length ∧ (fun i => [rI IntKind.i64 (P.getD i [])]) = fun i => [rI IntKind.i64 (P.getD i [])], (↑P.length : Int) = (↑P.length : Int), (0 : Int) = (↑(0 : Nat) : Int), L = L], by kernel_rfl, (by refine ⟨?_, ?_, ?_, ?_, (?_ : L = L)⟩ <;> (first | rfl | assumption | omega | simp_all)), (by exact ⟨Nat.zero_le _, hL, rfl, rfl⟩)⟩
  · rintro d hd ⟨j, M⟩ hI
    cases d
    · -- d = false
      exact Bool.noConfusion (show false = true from hd)
    · -- d = true
      obtain ⟨ht, hM, hn, hf⟩ := hI
      have ht : j ≤ P.length := ht
      have hM : okL M := hM
      have hn : M.length = L.length := hn
      have hf : fuseT M (P.drop j) = fuseT L P := hf
      have hl1 := hL.1
      have ek : IntKind.i64.wrap ((j : Int) + 1) = ((j + 1 : Nat) : Int) := by rw [w64 (by omega) (by omega)]; omega
      have hz : (zeroP M (rowAt P j)).length = L.length := by rw [zeroP_len, hn]
      refine Or.elim (Bool.eq_false_or_eq_true (decide ((↑j : Int) < (↑P.length : Int)))) (fun d1 => ⟨[true], .inl ⟨(j + 1, fuT M (rowAt P j)), [L.length = L.length, P.length = P.length ∧ (fun i => [rI IntKind.i64 (P.getD i [])]) = fun i => [rI IntKind.i64 (P.getD i [])], (↑P.length : Int) = (↑P.length : Int), IntKind.i64.wrap ((↑j : Int) + (1 : Int)) = (↑(j + (1 : Nat)) : Int), updT (zeroP M (rowAt P j)) ((rowAt P j).getD (Int.toNat (0 : Int)) (0 : Int)).toNat ((sumT M (rowAt P j)).tmod (8 : Int)) = fuT M (rowAt P j), ((rowAt P j).getD (Int.toNat (0 : Int)) (0 : Int)).toNat < (zeroP M (rowAt P j)).length, (0 : Int) ≤ (rowAt P j).getD (Int.toNat (0 : Int)) (0 : Int) ∧ (rowAt P j).getD (Int.toNat (0 : Int)) (0 : Int) < (↑L.length : Int), (8 : Int) ≠ (0 : Int), (0 : Int) ≤ (0 : Int) ∧ (0 : Int) < (↑(rowAt P j).length : Int), L.length = L.length, P.length = P.length ∧ (fun i => [rI IntKind.i64 (P.getD i [])]) = fun i => [rI IntKind.i64 (P.getD i [])], (↑P.length : Int) = (↑P.length : Int), (↑j : Int) = (↑j : Int), (P.getD j []).length = (rowAt P j).length ∧ (fun j_1 => [RV.int IntKind.i64 ((P.getD j []).getD j_1 (0 : Int))]) = fun j_1 => [RV.int IntKind.i64 ((rowAt P j).getD j_1 (0 : Int))], (P.getD j []).length = (rowAt P j).length ∧ (fun j_1 => [RV.int IntKind.i64 ((P.getD j []).getD j_1 (0 : Int))]) = fun j_1 => [RV.int IntKind.i64 ((rowAt P j).getD j_1 (0 : Int))], (↑(P.getD j []).length : Int) = (↑(rowAt P j).length : Int), M = M, (0 : Int) ≤ (↑j : Int) ∧ (↑j : Int) < (↑P.length : Int), Dec (decide ((↑j : Int) < (↑P.length : Int))) true], by kernel_rfl, ⟨?_, ?_, ?_, ?_, ?_, ?_, ?_, ?_, ?_, ?_, ?_, ?_, ?_, ?_, ?_, ?_, ?_, ?_, d1⟩, MuG.out ?_, InG.out ?_⟩⟩)
           (fun d1 => ⟨[false], .inr ⟨[L.length = L.length, M = fuseT L P, Dec (decide ((↑j : Int) < (↑P.length : Int))) false], by kernel_rfl, ⟨?_, ?_, d1⟩, rfl⟩⟩)
      all_goals first | (refine MuG.mk ?_; (simp only [decide_eq_true_eq] at *; show P.length - (j + 1) < P.length - j; omega)) | (refine InG.mk ?_; (simp only [decide_eq_true_eq] at *; have h0 := hP _ (rowAt_mem (P := P) (t := j) (by omega)); exact ⟨by omega, fuT_ok hM (by rw [hn]; exact h0.2.1) h0.1, by rw [fuT_len, hn], by rw [← fuseT_drop (by omega)]; exact hf⟩)) | (refine CtG.mk ?_; (simp_all)) | (first | (with_reducible rfl) | exact ⟨rfl, rfl⟩ | decide | ((try simp only [ek, Int.toNat_natCast, Int.toNat_zero, decide_eq_true_eq, decide_eq_false_iff_not] at *) <;> first | omega | (have h0 := hP _ (rowAt_mem (P := P) (t := j) (by omega)); have h1 : 0 < (rowAt P j).length := List.length_pos_iff.2 h0.1; first | omega | (have h2 := h0.2.1.at (t := 0) h1; omega) | (have h3 := (sumT_b hM (l := rowAt P j) (by rw [hn]; exact h0.2.1)).1; unfold fuT; rw [← Int.tmod_eq_emod_of_nonneg h3]; rfl)) | (rw [List.drop_eq_nil_of_le (by omega)] at hf; exact hf)))
set_option maxRecDepth 100000 in
theorem tfuse_yes (L : List Con) (hL : okL L) (hv : val2M 2 L = true) (hne : 0 < L.length) : PureC Tryz.prog [] 19 [.agg [.int .i64 2, roC L]] (.tup [.agg [.int .i64 2, roC (fuseM L)], .bool true]) := by
  have hl := hL.1; have k1 : val2M 2 (consR L.length fun i => (L.getD i Con.zero).rvs) = true := (by rw [consR_ro]; exact hv); have k2 : L.length.beq 0 = false := (by cases h : L.length.beq 0 with | false => rfl | true => have := Nat.eq_of_beq_eq_true h; omega)
  have rr := fun (tp : List Bool) (ms : List Prop) h hm => pure_run evOk (callF_ok evOk (orcOf_ok entsVW_ok) 8) Tryz.func19 (A := [.agg [.int .i64 2, roC L]]) (N := Nat.max 1 Tryz.f19.ntmps) rfl (one_ann (tf_out L (partsM L) hL parts_rows (Nat.le_trans parts_len hL.1))) rfl rfl evNg (tabs := []) (R := .tup [.agg [.int .i64 2, roC (fuseM L)], .bool true]) (tp := tp) (ms := ms) h hm
  refine rr [false, false] [(2 : Int) = (2 : Int), L.length = (fuseM L).length ∧ L.length = (fuseT L (partsM L)).length ∧ ∀ (i : Nat), i < L.length → (fun i => ((fuseM L).getD i Con.zero).rvs) i = ((fuseT L (partsM L)).getD i Con.zero).rvs, true = true, L.length = L.length, (partsM (consR L.length fun i => (L.getD i Con.zero).rvs)).length = (partsM L).length ∧ (fun i => [rI IntKind.i64 ((partsM (consR L.length fun i => (L.getD i Con.zero).rvs)).getD i [])]) = fun i => [rI IntKind.i64 ((partsM L).getD i [])], (↑(partsM (consR L.length fun i => (L.getD i Con.zero).rvs)).length : Int) = (↑(partsM L).length : Int), (consR L.length fun i => (L.getD i Con.zero).rvs) = L, (∀ (i : Nat), i < L.length → (fun i => (L.getD i Con.zero).rvs) i = (Con.ofR ((fun i => (L.getD i Con.zero).rvs) i)).rvs) ∧ okE (consR L.length fun i => (L.getD i Con.zero).rvs), (0 : Nat) < L.length ∧ L.length ≤ (1000000 : Nat), ∀ (i : Nat), i < L.length → (fun i => (L.getD i Con.zero).rvs) i = (Con.ofR ((fun i => (L.getD i Con.zero).rvs) i)).rvs, Dec (L.length.beq (0 : Nat)) false, (0 : Nat) < L.length, Dec (!val2M (2 : Int) (consR L.length fun i => (L.getD i Con.zero).rvs)) false, (∀ (i : Nat), i < L.length → (fun i => (L.getD i Con.zero).rvs) i = (Con.ofR ((fun i => (L.getD i Con.zero).rvs) i)).rvs) ∧ L.length ≤ (1000 : Nat)] (by kernel_rfl) ⟨?_, ?_, ?_, ?_, ?_, ?_, ?_, ?_, ?_, ?_, k2, ?_, (dN k1), (?_ : (∀ (i : Nat), i < L.length → (fun i => (L.getD i Con.zero).rvs) i = (Con.ofR ((fun i => (L.getD i Con.zero).rvs) i)).rvs) ∧ L.length ≤ (1000 : Nat))⟩
  all_goals first | (first | (with_reducible rfl) | exact ⟨rfl, rfl⟩ | (rw [← fuseT_parts]; exact ⟨by rw [fuseT_parts, fuseM_len], by rw [fuseT_parts, fuseM_len], fun _ _ => rfl⟩) | exact consR_ro L | (rw [consR_ro]; first | done | rfl | exact ⟨rfl, rfl⟩) | exact ⟨hne, by omega⟩ | exact hne | exact fun _ _ => rfl | exact ⟨fun _ _ => rfl, by rw [consR_ro]; exact hL.e⟩ | exact ⟨fun _ _ => rfl, hl⟩)
/- walk -/
theorem walkG_drop {x y : Int} {M : List Con} {P : List (List Int)} {j : Nat} (hj : j < P.length) : walkG x y M (P.drop j) = walkG x y (bif hasI x (rowAt P j) || hasI y (rowAt P j) then add4 M ((rowAt P j).getD 0 0) else M) (P.drop (j + 1)) := by
  rw [drop_row hj]; rfl
def wkT (x y : Int) (M : List Con) (l : List Int) : List Con := bif hasI x l || hasI y l then add4 M (l.getD 0 0) else M
theorem wkT_len {x y : Int} {M : List Con} {l : List Int} : (wkT x y M l).length = M.length := by unfold wkT; cases (hasI x l || hasI y l) <;> simp only [cond_true, cond_false, add4_len]
theorem wkT_ok {x y : Int} {M : List Con} (h : okL M) {l : List Int} (hl : inR M.length l) (hne : l ≠ []) : okL (wkT x y M l) := by
  unfold wkT
  cases (hasI x l || hasI y l)
  · exact h
  · exact add4_ok h (hl.at (List.length_pos_iff.2 hne))
theorem wkT_1 {x y : Int} {M : List Con} {l : List Int} (h : hasI x l = true) : wkT x y M l = add4 M (l.getD 0 0) := by unfold wkT; rw [h]; rfl
theorem wkT_2 {x y : Int} {M : List Con} {l : List Int} (h : hasI y l = true) : wkT x y M l = add4 M (l.getD 0 0) := by unfold wkT; rw [h, Bool.or_true]; rfl
theorem wkT_3 {x y : Int} {M : List Con} {l : List Int} (h : hasI x l = false) (h2 : hasI y l = false) : wkT x y M l = M := by unfold wkT; rw [h, h2]; rfl
noncomputable def twAnn (k : Nat) (L M0 : List Con) (P : List (List Int)) : Ann := ⟨⟨[(1, .vint .i64 (k : Int)), (4, .ptr 1001 0), (5, .lo 1003 L.length), (35, (roR .i64 P).av), (36, .vint .i64 P.length), (37, .int .i64 0)], tfH L.length M0, 1030⟩, none, fun _ =>
  (.exit 0, ⟨[(4, .ptr 1001 0), (5, .lo 1003 L.length)], tfH L.length (walkG ((k : Int) - 1) k M0 P), 1030⟩)⟩
set_option maxRecDepth 100000 in
theorem tw_loop (k : Nat) (L M0 : List Con) (P : List (List Int)) (hL : okL M0) (hn0 : M0.length = L.length) (h1 : 1 ≤ k) (h2 : k < L.length) (hP : ∀ l ∈ P, l ≠ [] ∧ inR L.length l ∧ l.length ≤ L.length) (hm : P.length ≤ 1000) : AnnOk Tryz.prog EV.ng (Nat.max 2 Tryz.f54.ntmps) (bodyAt Tryz.f54 [0, 1, 0, 1, 1, 1, 1]) (twAnn k L M0 P) := by
  refine ann_of evOk (callF_ok evOk (orcOf_ok entsVC_ok) 8) none_ann (by kernel_rfl) (by kernel_rfl) (fun i : Nat × List Con => (fun (j : Nat) (M : List Con) => (⟨[(1, .vint .i64 (k : Int)), (4, .ptr 1001 0), (5, .lo 1003 L.length), (35, (roR .i64 P).av), (36, .vint .i64 P.length), (37, .vint .i64 (j : Int))], tfH L.length M, 1030⟩ : St)) i.1 i.2) (fun i : Nat × List Con => (fun (j : Nat) (M : List Con) => (P.length - j : Nat)) i.1 i.2) (fun (d : Bool) (i : Nat × List Con) => (fun (j : Nat) (M : List Con) => (j ≤ P.length ∧ okL M ∧ M.length = L.length ∧ walkG ((k : Int) - 1) k M (P.drop j) = walkG ((k : Int) - 1) k M0 P : Prop)) i.1 i.2) ?_ ?_
  · intro d hd
    exact ⟨(0, M0), [(↑k : Int) = (↑k : Int), L.length = L.length, P.length = P.length ∧ (fun i => [rI IntKind.i64 (P.getD i [])]) = fun i => [rI IntKind.i64 (P.getD i [])], (↑P.length : Int) = (↑P.length : Int), (0 : Int) = (↑(0 : Nat) : Int), M0 = M0], by kernel_rfl, (by refine ⟨?_, ?_, ?_, ?_, ?_, (?_ : M0 = M0)⟩ <;> (first | rfl | assumption | omega | simp_all)), (by exact ⟨Nat.zero_le _, hL, hn0, rfl⟩)⟩
  · rintro d hd ⟨j, M⟩ hI
    cases d
    · -- d = false
      exact Bool.noConfusion (show false = true from hd)
    · -- d = true
      obtain ⟨ht, hM, hn, hf⟩ := hI
      have ht : j ≤ P.length := ht
      have hM : okL M := hM
      have hn : M.length = L.length := hn
      have hf : walkG ((k : Int) - 1) k M (P.drop j) = walkG ((k : Int) - 1) k M0 P := hf
      have hl1 := hL.1
      have ek : IntKind.i64.wrap ((j : Int) + 1) = ((j + 1 : Nat) : Int) := by rw [w64 (by omega) (by omega)]; omega
      have em : IntKind.i64.wrap ((k : Int) - 1) = (k : Int) - 1 := w64 (by omega) (by omega)
      refine Or.elim (Bool.eq_false_or_eq_true (decide ((↑j : Int) < (↑P.length : Int)))) (fun d1 => Or.elim (Bool.eq_false_or_eq_true (hasI (IntKind.i64.wrap ((↑k : Int) - (1 : Int))) (intsR (P.getD j []).length fun j_1 => [RV.int IntKind.i64 ((P.getD j []).getD j_1 (0 : Int))]))) (fun d2 => ⟨[true, true], .inl ⟨(j + 1, wkT ((k : Int) - 1) k M (rowAt P j)), [(↑k : Int) = (↑k : Int), L.length = L.length, P.length = P.length ∧ (fun i => [rI IntKind.i64 (P.getD i [])]) = fun i => [rI IntKind.i64 (P.getD i [])], (↑P.length : Int) = (↑P.length : Int), IntKind.i64.wrap ((↑j : Int) + (1 : Int)) = (↑(j + (1 : Nat)) : Int), updT M ((P.getD j []).getD (Int.toNat (0 : Int)) (0 : Int)).toNat ((IntKind.i64.wrap ((M.getD ((P.getD j []).getD (Int.toNat (0 : Int)) (0 : Int)).toNat Con.zero).oddity + (4 : Int))).tmod (8 : Int)) = wkT ((↑k : Int) - (1 : Int)) (↑k : Int) M (rowAt P j), ((P.getD j []).getD (Int.toNat (0 : Int)) (0 : Int)).toNat < M.length, (0 : Int) ≤ (P.getD j []).getD (Int.toNat (0 : Int)) (0 : Int) ∧ (P.getD j []).getD (Int.toNat (0 : Int)) (0 : Int) < (↑L.length : Int), (8 : Int) ≠ (0 : Int), ((P.getD j []).getD (Int.toNat (0 : Int)) (0 : Int)).toNat < M.length, (0 : Int) ≤ (P.getD j []).getD (Int.toNat (0 : Int)) (0 : Int) ∧ (P.getD j []).getD (Int.toNat (0 : Int)) (0 : Int) < (↑L.length : Int), (0 : Int) ≤ (0 : Int) ∧ (0 : Int) < (↑(P.getD j []).length : Int), Dec (hasI (IntKind.i64.wrap ((↑k : Int) - (1 : Int))) (intsR (P.getD j []).length fun j_1 => [RV.int IntKind.i64 ((P.getD j []).getD j_1 (0 : Int))])) true, (∀ (i : Nat), i < (P.getD j []).length → (fun j_1 => [RV.int IntKind.i64 ((P.getD j []).getD j_1 (0 : Int))]) i = [RV.int IntKind.i64 (intR ((fun j_1 => [RV.int IntKind.i64 ((P.getD j []).getD j_1 (0 : Int))]) i))]) ∧ (P.getD j []).length ≤ (1000 : Nat), (0 : Int) ≤ (↑j : Int) ∧ (↑j : Int) < (↑P.length : Int), Dec (decide ((↑j : Int) < (↑P.length : Int))) true], by kernel_rfl, ⟨?_, ?_, ?_, ?_, ?_, ?_, ?_, ?_, ?_, ?_, ?_, ?_, d2, ?_, ?_, d1⟩, MuG.out ?_, InG.out ?_⟩⟩)
           (fun d2 => Or.elim (Bool.eq_false_or_eq_true (hasI (↑k : Int) (intsR (P.getD j []).length fun j_1 => [RV.int IntKind.i64 ((P.getD j []).getD j_1 (0 : Int))]))) (fun d3 => ⟨[true, false, true], .inl ⟨(j + 1, wkT ((k : Int) - 1) k M (rowAt P j)), [(↑k : Int) = (↑k : Int), L.length = L.length, P.length = P.length ∧ (fun i => [rI IntKind.i64 (P.getD i [])]) = fun i => [rI IntKind.i64 (P.getD i [])], (↑P.length : Int) = (↑P.length : Int), IntKind.i64.wrap ((↑j : Int) + (1 : Int)) = (↑(j + (1 : Nat)) : Int), updT M ((P.getD j []).getD (Int.toNat (0 : Int)) (0 : Int)).toNat ((IntKind.i64.wrap ((M.getD ((P.getD j []).getD (Int.toNat (0 : Int)) (0 : Int)).toNat Con.zero).oddity + (4 : Int))).tmod (8 : Int)) = wkT ((↑k : Int) - (1 : Int)) (↑k : Int) M (rowAt P j), ((P.getD j []).getD (Int.toNat (0 : Int)) (0 : Int)).toNat < M.length, (0 : Int) ≤ (P.getD j []).getD (Int.toNat (0 : Int)) (0 : Int) ∧ (P.getD j []).getD (Int.toNat (0 : Int)) (0 : Int) < (↑L.length : Int), (8 : Int) ≠ (0 : Int), ((P.getD j []).getD (Int.toNat (0 : Int)) (0 : Int)).toNat < M.length, (0 : Int) ≤ (P.getD j []).getD (Int.toNat (0 : Int)) (0 : Int) ∧ (P.getD j []).getD (Int.toNat (0 : Int)) (0 : Int) < (↑L.length : Int), (0 : Int) ≤ (0 : Int) ∧ (0 : Int) < (↑(P.getD j []).length : Int), Dec (hasI (↑k : Int) (intsR (P.getD j []).length fun j_1 => [RV.int IntKind.i64 ((P.getD j []).getD j_1 (0 : Int))])) true, (∀ (i : Nat), i < (P.getD j []).length → (fun j_1 => [RV.int IntKind.i64 ((P.getD j []).getD j_1 (0 : Int))]) i = [RV.int IntKind.i64 (intR ((fun j_1 => [RV.int IntKind.i64 ((P.getD j []).getD j_1 (0 : Int))]) i))]) ∧ (P.getD j []).length ≤ (1000 : Nat), Dec (hasI (IntKind.i64.wrap ((↑k : Int) - (1 : Int))) (intsR (P.getD j []).length fun j_1 => [RV.int IntKind.i64 ((P.getD j []).getD j_1 (0 : Int))])) false, (∀ (i : Nat), i < (P.getD j []).length → (fun j_1 => [RV.int IntKind.i64 ((P.getD j []).getD j_1 (0 : Int))]) i = [RV.int IntKind.i64 (intR ((fun j_1 => [RV.int IntKind.i64 ((P.getD j []).getD j_1 (0 : Int))]) i))]) ∧ (P.getD j []).length ≤ (1000 : Nat), (0 : Int) ≤ (↑j : Int) ∧ (↑j : Int) < (↑P.length : Int), Dec (decide ((↑j : Int) < (↑P.length : Int))) true], by kernel_rfl, ⟨?_, ?_, ?_, ?_, ?_, ?_, ?_, ?_, ?_, ?_, ?_, ?_, d3, ?_, d2, ?_, ?_, d1⟩, MuG.out ?_, InG.out ?_⟩⟩)
           (fun d3 => ⟨[true, false, false], .inl ⟨(j + 1, wkT ((k : Int) - 1) k M (rowAt P j)), [(↑k : Int) = (↑k : Int), L.length = L.length, P.length = P.length ∧ (fun i => [rI IntKind.i64 (P.getD i [])]) = fun i => [rI IntKind.i64 (P.getD i [])], (↑P.length : Int) = (↑P.length : Int), IntKind.i64.wrap ((↑j : Int) + (1 : Int)) = (↑(j + (1 : Nat)) : Int), M = wkT ((↑k : Int) - (1 : Int)) (↑k : Int) M (rowAt P j), Dec (hasI (↑k : Int) (intsR (P.getD j []).length fun j_1 => [RV.int IntKind.i64 ((P.getD j []).getD j_1 (0 : Int))])) false, (∀ (i : Nat), i < (P.getD j []).length → (fun j_1 => [RV.int IntKind.i64 ((P.getD j []).getD j_1 (0 : Int))]) i = [RV.int IntKind.i64 (intR ((fun j_1 => [RV.int IntKind.i64 ((P.getD j []).getD j_1 (0 : Int))]) i))]) ∧ (P.getD j []).length ≤ (1000 : Nat), Dec (hasI (IntKind.i64.wrap ((↑k : Int) - (1 : Int))) (intsR (P.getD j []).length fun j_1 => [RV.int IntKind.i64 ((P.getD j []).getD j_1 (0 : Int))])) false, (∀ (i : Nat), i < (P.getD j []).length → (fun j_1 => [RV.int IntKind.i64 ((P.getD j []).getD j_1 (0 : Int))]) i = [RV.int IntKind.i64 (intR ((fun j_1 => [RV.int IntKind.i64 ((P.getD j []).getD j_1 (0 : Int))]) i))]) ∧ (P.getD j []).length ≤ (1000 : Nat), (0 : Int) ≤ (↑j : Int) ∧ (↑j : Int) < (↑P.length : Int), Dec (decide ((↑j : Int) < (↑P.length : Int))) true], by kernel_rfl, ⟨?_, ?_, ?_, ?_, ?_, ?_, d3, ?_, d2, ?_, ?_, d1⟩, MuG.out ?_, InG.out ?_⟩⟩)))
           (fun d1 => ⟨[false], .inr ⟨[L.length = L.length, M = walkG ((↑k : Int) - (1 : Int)) (↑k : Int) M0 P, Dec (decide ((↑j : Int) < (↑P.length : Int))) false], by kernel_rfl, ⟨?_, ?_, d1⟩, rfl⟩⟩)
      all_goals first | (refine MuG.mk ?_; (simp only [decide_eq_true_eq] at *; show P.length - (j + 1) < P.length - j; omega)) | (refine InG.mk ?_; (simp only [decide_eq_true_eq] at *; have h0 := hP _ (rowAt_mem (P := P) (t := j) (by omega)); exact ⟨by omega, wkT_ok hM (by rw [hn]; exact h0.2.1) h0.1, by rw [wkT_len, hn], by rw [walkG_drop (by omega)] at hf; exact hf⟩)) | (refine CtG.mk ?_; (simp_all)) | (first | (with_reducible rfl) | exact ⟨rfl, rfl⟩ | decide | ((try simp only [ek, em, intsR_ro, Int.toNat_natCast, Int.toNat_zero, decide_eq_true_eq, decide_eq_false_iff_not] at *) <;> first | omega | (rw [wkT_3 (by assumption) (by assumption)]; done) | (rw [List.drop_eq_nil_of_le (by omega)] at hf; exact hf) | (have h0 := hP _ (rowAt_mem (P := P) (t := j) (by omega)); have h3 : 0 < (rowAt P j).length := List.length_pos_iff.2 h0.1; have h5 : 0 ≤ (P.getD j []).getD 0 0 ∧ (P.getD j []).getD 0 0 < (L.length : Int) := h0.2.1.at (t := 0) h3; have h6 : (P.getD j []).length ≤ L.length := h0.2.2; have h7 : 0 < (P.getD j []).length := h3; first | omega | exact ⟨fun _ _ => rfl, by omega⟩ | (have h4 := add4_raw hM (i := (rowAt P j).getD 0 0) (by rw [hn]; exact h5); first | (rw [wkT_1 (by assumption)]; exact h4) | (rw [wkT_2 (by assumption)]; exact h4)))))
set_option maxRecDepth 100000 in
theorem twalk_pure (L : List Con) (k : Nat) (hL : okL L) (h1 : 1 ≤ k) (h2 : k < L.length) : PureC Tryz.prog [] 54 [.agg [.int .i64 2, roC L], .int .i64 (k : Int)] (.agg [.int .i64 2, roC (stepM L k)]) := by
  have hl := hL.1; have k2 : L.length.beq 0 = false := (by cases h : L.length.beq 0 with | false => rfl | true => have := Nat.eq_of_beq_eq_true h; omega); have em : IntKind.i64.wrap ((k : Int) - 1) = (k : Int) - 1 := w64 (by omega) (by omega); have et : ((k : Int) - 1).toNat = k - 1 := (by omega); have e1 := flip_raw hL (k := k - 1) (by omega); have e2 := flip_raw (flipS_ok hL (i := k - 1) (by omega)) (k := k) (by rw [flipS_len]; omega); have l1 : (flipS L (k - 1)).length = L.length := flipS_len; have hw : walkG ((k : Int) - 1) (k : Int) (flipS (flipS L (k - 1)) k) (partsM L) = stepM L k := walkM_eq h1 h2
  have rr := fun (tp : List Bool) (ms : List Prop) h hm => pure_run evOk (callF_ok evOk (orcOf_ok entsVC_ok) 8) Tryz.func54 (A := [.agg [.int .i64 2, roC L], .int .i64 (k : Int)]) (N := Nat.max 1 Tryz.f54.ntmps) rfl (one_ann (tw_loop k L (flipS (flipS L (k - 1)) k) (partsM L) (flipS_ok (flipS_ok hL (by omega)) (by rw [flipS_len]; omega)) (by rw [flipS_len, flipS_len]) h1 h2 parts_rows (Nat.le_trans parts_len hL.1))) rfl rfl evNg (tabs := []) (R := .agg [.int .i64 2, roC (stepM L k)]) (tp := tp) (ms := ms) h hm
  refine rr [false] [(2 : Int) = (2 : Int), L.length = (stepM L k).length ∧ L.length = (walkG ((↑k : Int) - (1 : Int)) (↑k : Int) (flipS (flipS L (k - (1 : Nat))) k) (partsM L)).length ∧ ∀ (i : Nat), i < L.length → (fun i => ((stepM L k).getD i Con.zero).rvs) i = ((walkG ((↑k : Int) - (1 : Int)) (↑k : Int) (flipS (flipS L (k - (1 : Nat))) k) (partsM L)).getD i Con.zero).rvs, (↑k : Int) = (↑k : Int), L.length = L.length, (partsM (consR L.length fun i => (L.getD i Con.zero).rvs)).length = (partsM L).length ∧ (fun i => [rI IntKind.i64 ((partsM (consR L.length fun i => (L.getD i Con.zero).rvs)).getD i [])]) = fun i => [rI IntKind.i64 ((partsM L).getD i [])], (↑(partsM (consR L.length fun i => (L.getD i Con.zero).rvs)).length : Int) = (↑(partsM L).length : Int), updS (updS (consR L.length fun i => (L.getD i Con.zero).rvs) (IntKind.i64.wrap ((↑k : Int) - (1 : Int))).toNat (IntKind.i64.wrap ((0 : Int) - ((consR L.length fun i => (L.getD i Con.zero).rvs).getD (IntKind.i64.wrap ((↑k : Int) - (1 : Int))).toNat Con.zero).sign))) k (IntKind.i64.wrap ((0 : Int) - ((updS (consR L.length fun i => (L.getD i Con.zero).rvs) (IntKind.i64.wrap ((↑k : Int) - (1 : Int))).toNat (IntKind.i64.wrap ((0 : Int) - ((consR L.length fun i => (L.getD i Con.zero).rvs).getD (IntKind.i64.wrap ((↑k : Int) - (1 : Int))).toNat Con.zero).sign))).getD k Con.zero).sign)) = flipS (flipS L (k - (1 : Nat))) k, (∀ (i : Nat), i < L.length → (fun i => (L.getD i Con.zero).rvs) i = (Con.ofR ((fun i => (L.getD i Con.zero).rvs) i)).rvs) ∧ okE (consR L.length fun i => (L.getD i Con.zero).rvs), k < (updS (consR L.length fun i => (L.getD i Con.zero).rvs) (IntKind.i64.wrap ((↑k : Int) - (1 : Int))).toNat (IntKind.i64.wrap ((0 : Int) - ((consR L.length fun i => (L.getD i Con.zero).rvs).getD (IntKind.i64.wrap ((↑k : Int) - (1 : Int))).toNat Con.zero).sign))).length, (0 : Int) ≤ (↑k : Int) ∧ (↑k : Int) < (↑L.length : Int), k < (updS (consR L.length fun i => (L.getD i Con.zero).rvs) (IntKind.i64.wrap ((↑k : Int) - (1 : Int))).toNat (IntKind.i64.wrap ((0 : Int) - ((consR L.length fun i => (L.getD i Con.zero).rvs).getD (IntKind.i64.wrap ((↑k : Int) - (1 : Int))).toNat Con.zero).sign))).length, (0 : Int) ≤ (↑k : Int) ∧ (↑k : Int) < (↑L.length : Int), (IntKind.i64.wrap ((↑k : Int) - (1 : Int))).toNat < (consR L.length fun i => (L.getD i Con.zero).rvs).length, (0 : Int) ≤ IntKind.i64.wrap ((↑k : Int) - (1 : Int)) ∧ IntKind.i64.wrap ((↑k : Int) - (1 : Int)) < (↑L.length : Int), (IntKind.i64.wrap ((↑k : Int) - (1 : Int))).toNat < (consR L.length fun i => (L.getD i Con.zero).rvs).length, (0 : Int) ≤ IntKind.i64.wrap ((↑k : Int) - (1 : Int)) ∧ IntKind.i64.wrap ((↑k : Int) - (1 : Int)) < (↑L.length : Int), (0 : Nat) < L.length ∧ L.length ≤ (1000000 : Nat), ∀ (i : Nat), i < L.length → (fun i => (L.getD i Con.zero).rvs) i = (Con.ofR ((fun i => (L.getD i Con.zero).rvs) i)).rvs, Dec (L.length.beq (0 : Nat)) false, (0 : Nat) < L.length] (by kernel_rfl) ⟨?_, ?_, ?_, ?_, ?_, ?_, ?_, ?_, ?_, ?_, ?_, ?_, ?_, ?_, ?_, ?_, ?_, ?_, k2, (?_ : (0 : Nat) < L.length)⟩
  all_goals first | (first | (with_reducible rfl) | exact ⟨rfl, rfl⟩ | exact fun _ _ => rfl | exact ⟨by omega, by omega⟩ | ((try simp only [consR_ro, em, et, Int.toNat_natCast, e1, e2, hw]) <;> first | done | omega | exact ⟨stepM_len.symm, stepM_len.symm, fun _ _ => rfl⟩ | exact ⟨stepM_len.symm, stepM_len.symm, fun _ _ => trivial⟩ | exact ⟨rfl, rfl⟩ | exact ⟨by trivial, by trivial⟩ | exact ⟨fun _ _ => rfl, hL.e⟩ | (rw [consR_ro]; exact ⟨rfl, rfl⟩)))
end Go.Proofs.YtcfdaddablojlaaGreatDoor.S

/- Both Fuses, whatever they are given. -/
set_option linter.unusedSimpArgs false
set_option linter.unusedVariables false
namespace Go.Proofs.YtcfdaddablojlaaGreatDoor.S
open Go.QfSy Go.RowKit

def bP (v : Bool) : Int := bif v then 2 else 0
def bL (v : Bool) (M : List Con) : List Con := bif v then M else []
end Go.Proofs.YtcfdaddablojlaaGreatDoor.S

/- quadformref26.Refine. -/
set_option linter.unusedSimpArgs false
set_option linter.unusedVariables false
namespace Go.Proofs.YtcfdaddablojlaaGreatDoor.S
open Go.QfSy Go.RowKit

/- whether there is a refinement; the refinement -/
noncomputable def rfB (p : Int) (L : List Con) : Bool := fusM p L && (refM L).isSome
noncomputable def rfL (L : List Con) : List Con := (refM L).getD []
theorem refG_len {L : List Con} : ∀ {P : List (List Int)} {M R : List Con}, (∀ l ∈ P, inR L.length l) → M.length = L.length → refG L P M = some R → R.length = L.length
  | [], M, R, _, hM, h => by cases h; exact hM
  | l :: P, M, R, hP, hM, h => by
    simp only [refG] at h
    cases hc : (refF l (totM L l) M).1 with
    | false => rw [hc] at h; cases h
    | true =>
      rw [hc, cond_true] at h
      exact refG_len (fun x hx => hP x (List.mem_cons_of_mem _ hx)) (refF_len (hP l List.mem_cons_self) hM) h
theorem refM_len {L R : List Con} (h : refM L = some R) : R.length = L.length := refG_len (fun l hl => (parts_rows l hl).2.1) rfl h
end Go.Proofs.YtcfdaddablojlaaGreatDoor.S

/- Plain: which totals the oddities of a compartment can have. -/
set_option linter.unusedSimpArgs false
set_option linter.unusedVariables false
namespace Go.Proofs.YtcfdaddablojlaaGreatDoor.S
open Go.QfSy Go.RowKit

def lgB (d s t : Int) : Bool := legalB ⟨0, d, s, true, t⟩
def lgN (d : Nat) (s : Bool) (t : Nat) : Bool := Nat.beq ((t + d) % 2) 0 && (bif Nat.beq d 1 then (bif s then Nat.beq t 1 || Nat.beq t 7 else Nat.beq t 3 || Nat.beq t 5) else bif Nat.beq d 2 then (bif s then !Nat.beq t 4 else !Nat.beq t 0) else true)
def sg (s : Bool) : Int := bif s then 1 else -1
theorem lgB_tab : ((List.range 8).all fun d => [true, false].all fun s => (List.range 8).all fun t => lgB ((d + 1 : Nat) : Int) (sg s) ((t : Nat) : Int) == lgN (d + 1) s t) = true := by kernel_rfl
theorem lgN_tab : ((List.range 7).all fun d => (List.range 7).all fun e => (!Nat.ble (d + e + 2) 8) || ([true, false].all fun s => [true, false].all fun r => (List.range 8).all fun tot => ((List.range 8).any fun t => lgN (d + 1) s t && lgN (e + 1) r ((tot + 8 - t) % 8)) == lgN (d + e + 2) (s == r) tot)) = true := by kernel_rfl
theorem lgB_N {d t : Nat} {s : Bool} (h1 : 1 ≤ d) (h2 : d ≤ 8) (ht : t < 8) : lgB (d : Int) (sg s) (t : Int) = lgN d s t := by
  have h := lgB_tab
  rw [List.all_eq_true] at h
  have h := h (d - 1) (by simp; omega)
  rw [List.all_eq_true] at h
  have h := h s (by cases s <;> simp)
  rw [List.all_eq_true] at h
  have h := h t (by simp; omega)
  rw [show d - 1 + 1 = d by omega] at h
  exact beq_iff_eq.1 h
theorem lg_two {d e tot : Nat} {s r : Bool} (h1 : 1 ≤ d) (h2 : 1 ≤ e) (h3 : d + e ≤ 8) (ht : tot < 8) : ((List.range 8).any fun t => lgN d s t && lgN e r ((tot + 8 - t) % 8)) = lgN (d + e) (s == r) tot := by
  have h := lgN_tab
  rw [List.all_eq_true] at h
  have h := h (d - 1) (by simp; omega)
  rw [List.all_eq_true] at h
  have h := h (e - 1) (by simp; omega)
  have h4 : Nat.ble (d - 1 + (e - 1) + 2) 8 = true := Nat.ble_eq_true_of_le (by omega)
  rw [h4] at h
  simp only [Bool.not_true, Bool.false_or] at h
  rw [List.all_eq_true] at h
  have h := h s (by cases s <;> simp)
  rw [List.all_eq_true] at h
  have h := h r (by cases r <;> simp)
  rw [List.all_eq_true] at h
  have h := h tot (by simp; omega)
  rw [show d - 1 + 1 = d by omega, show e - 1 + 1 = e by omega, show d - 1 + (e - 1) + 2 = d + e by omega] at h
  exact beq_iff_eq.1 h
theorem sg_of {s : Int} (h : s = 1 ∨ s = -1) : ∃ b, s = sg b := by
  rcases h with h | h
  · exact ⟨true, h⟩
  · exact ⟨false, h⟩
theorem sg_mul (a b : Bool) : sg a * sg b = sg (a == b) := by cases a <;> cases b <;> rfl
theorem lgB_two {d e s r tot : Int} (hd : 1 ≤ d) (he : 1 ≤ e) (hde : d + e ≤ 8) (hs : s = 1 ∨ s = -1) (hr : r = 1 ∨ r = -1) (ht : 0 ≤ tot ∧ tot < 8) :
    ((List.range 8).any fun t => lgB d s (t : Int) && lgB e r ((tot + 8 - (t : Int)) % 8)) = lgB (d + e) (s * r) tot := by
  obtain ⟨b, rfl⟩ := sg_of hs
  obtain ⟨c, rfl⟩ := sg_of hr
  obtain ⟨D, rfl⟩ : ∃ D : Nat, d = D := ⟨d.toNat, by omega⟩
  obtain ⟨E, rfl⟩ : ∃ E : Nat, e = E := ⟨e.toNat, by omega⟩
  obtain ⟨T, rfl⟩ : ∃ T : Nat, tot = T := ⟨tot.toNat, by omega⟩
  rw [sg_mul, show (D : Int) + (E : Int) = ((D + E : Nat) : Int) by omega, lgB_N (by omega) (by omega) (by omega), ← lg_two (by omega) (by omega) (by omega) (by omega)]
  rw [Bool.eq_iff_iff, List.any_eq_true, List.any_eq_true]
  refine exists_congr fun t => and_congr_right fun hm => ?_
  have hm : t < 8 := by simpa using hm
  rw [lgB_N (by omega) (by omega) hm, show ((T : Int) + 8 - (t : Int)) % 8 = (((T + 8 - t) % 8 : Nat) : Int) by omega, lgB_N (by omega) (by omega) (by omega)]

def sgnR (L : List Con) : List Int → Int
  | [] => 1
  | i :: l => (at_ L i.toNat).sign * sgnR L l
def oddOk (c : Con) : Prop := (0 ≤ c.exp ∧ c.exp ≤ 60) ∧ 1 ≤ c.dim ∧ (c.sign = 1 ∨ c.sign = -1) ∧ c.odd = true
theorem legal_lg {c : Con} (h : oddOk c) (t : Int) : legalB (wO c t) = lgB c.dim c.sign t := by
  obtain ⟨h1, h2, h3, h4⟩ := h
  rw [Bool.eq_iff_iff]
  simp only [lgB, legalB, decide_eq_true_eq, legalP, wO, h4]
  constructor
  · rintro ⟨_, h⟩; exact ⟨by omega, h⟩
  · rintro ⟨_, h⟩; exact ⟨h1, h⟩
theorem sgnR_pm {L : List Con} : ∀ {l : List Int}, (∀ x ∈ l, oddOk (at_ L x.toNat)) → sgnR L l = 1 ∨ sgnR L l = -1
  | [], _ => .inl rfl
  | i :: l, h => by
    have h1 := (h i List.mem_cons_self).2.2.1
    have ih := sgnR_pm (l := l) (fun x hx => h x (List.mem_cons_of_mem _ hx))
    simp only [sgnR]
    rcases h1 with h1 | h1 <;> rcases ih with ih | ih <;> rw [h1, ih] <;> simp
theorem dimR_pos {L : List Con} : ∀ {l : List Int}, l ≠ [] → (∀ x ∈ l, oddOk (at_ L x.toNat)) → 1 ≤ dimR L l
  | [], h, _ => absurd rfl h
  | [i], _, h => by have := (h i List.mem_cons_self).2.1; simp only [dimR]; omega
  | i :: j :: l, _, h => by
    have h1 := (h i List.mem_cons_self).2.1
    have ih := dimR_pos (L := L) (l := j :: l) (by simp) (fun x hx => h x (List.mem_cons_of_mem _ hx))
    simp only [dimR] at ih ⊢
    omega
theorem canR_lg {L : List Con} : ∀ {l : List Int} {tot : Int}, l ≠ [] → (∀ x ∈ l, oddOk (at_ L x.toNat)) → dimR L l ≤ 8 → 0 ≤ tot ∧ tot < 8 → canR L l tot = lgB (dimR L l) (sgnR L l) tot
  | [], _, h, _, _, _ => absurd rfl h
  | [i], tot, _, h, hd, ht => by
    have h1 := h i List.mem_cons_self
    simp only [canR, dimR, sgnR, Int.mul_one, Int.add_zero]
    rw [Bool.eq_iff_iff, List.any_eq_true]
    constructor
    · rintro ⟨t, hm, h2⟩
      have hm : t < 8 := by simpa using hm
      simp only [Bool.and_eq_true, beq_iff_eq] at h2
      rw [legal_lg h1] at h2
      have : (t : Int) = tot := by omega
      rw [← this]; exact h2.1
    · intro h2
      refine ⟨tot.toNat, by simp; omega, ?_⟩
      simp only [Bool.and_eq_true, beq_iff_eq]
      rw [legal_lg h1, show ((tot.toNat : Nat) : Int) = tot by omega]
      exact ⟨h2, by omega⟩
  | i :: j :: l, tot, _, h, hd, ht => by
    have h1 := h i List.mem_cons_self
    have h2 : ∀ x ∈ j :: l, oddOk (at_ L x.toNat) := fun x hx => h x (List.mem_cons_of_mem _ hx)
    have hp := dimR_pos (l := j :: l) (by simp) h2
    have e1 : dimR L (i :: j :: l) = (at_ L i.toNat).dim + dimR L (j :: l) := rfl
    have e2 : sgnR L (i :: j :: l) = (at_ L i.toNat).sign * sgnR L (j :: l) := rfl
    have e3 : canR L (i :: j :: l) tot = (List.range 8).any fun t => legalB (wO (at_ L i.toNat) (t : Int)) && canR L (j :: l) ((tot + 8 - (t : Int)) % 8) := rfl
    have h3 := h1.2.1
    rw [e1] at hd
    rw [e1, e2, e3, ← lgB_two h3 hp hd h1.2.2.1 (sgnR_pm h2) ht]
    congr 1
    funext t
    rw [legal_lg h1, canR_lg (by simp) h2 (by omega) (by omega)]

/- what is chosen is legal and adds up -/
theorem findT_some {p : Nat → Bool} : ∀ {n t t0 : Nat}, findT p n t = some t0 → p t0 = true ∧ t ≤ t0 ∧ t0 < t + n ∧ ∀ u, t ≤ u → u < t0 → p u = false
  | 0, _, _, h => by cases h
  | n + 1, t, t0, h => by
    simp only [findT] at h
    cases hp : p t with
    | true =>
      rw [hp] at h
      cases h
      exact ⟨hp, by omega, by omega, fun u _ _ => by omega⟩
    | false =>
      rw [hp] at h
      obtain ⟨h1, h2, h3, h4⟩ := findT_some (show findT p n (t + 1) = some t0 from h)
      refine ⟨h1, by omega, by omega, fun u hu hu' => ?_⟩
      rcases Nat.lt_or_ge t u with hlt | hlt
      · exact h4 u (by omega) hu'
      · have : u = t := by omega
        rw [this]; exact hp
theorem trF_agr : ∀ {l : List Int} {tot : Int} {M R : List Con}, (∀ x ∈ l, 0 ≤ x) → trF l tot M = some R → agr l R M
  | [], tot, M, R, _, h => by cases h; exact .refl _ _
  | i :: l, tot, M, R, h0, h => by
    simp only [trF] at h
    split at h
    · cases h
    · rename_i t ht
      have := trF_agr (fun x hx => h0 x (List.mem_cons_of_mem _ hx)) h
      exact (this.mono (fun x hx => List.mem_cons_of_mem _ hx)).trans (setO_agr (h0 i List.mem_cons_self) List.mem_cons_self)
theorem trF_ok : ∀ {l : List Int} {tot : Int} {M R : List Con}, l.Nodup → inR M.length l → canR M l tot = true → trF l tot M = some R → (∀ x ∈ l, legalB (at_ R x.toNat) = true) ∧ (sumO R l - tot) % 8 = 0
  | [], tot, M, R, _, _, hc, h => by
    have : tot = 0 := by simpa [canR] using hc
    exact ⟨fun x hx => by simp at hx, by simp [sumO, this]⟩
  | i :: l, tot, M, R, hd, hl, hc, h => by
    simp only [trF] at h
    split at h
    · cases h
    · rename_i t ht
      obtain ⟨h1, _, h2, _⟩ := findT_some ht
      simp only [lstP, Bool.and_eq_true] at h1
      have hi := hl i List.mem_cons_self
      have hl' : ∀ x ∈ l, 0 ≤ x ∧ x < (M.length : Int) := fun x hx => hl x (List.mem_cons_of_mem _ hx)
      rw [List.nodup_cons] at hd
      have ha := trF_agr (fun x hx => (hl' x hx).1) h
      have hc' : canR (setO M i (t : Int)) l ((tot - (t : Int) + 8) % 8) = true := by
        rw [canR_agr (setO_agr (l := [i]) hi.1 (by simp)).eq]; exact h1.2
      obtain ⟨h3, h4⟩ := trF_ok hd.2 (by rw [setO_len]; exact hl') hc' h
      have e : at_ R i.toNat = wO (at_ M i.toNat) (t : Int) := by
        rw [ha.out i.toNat (by rw [Int.toNat_of_nonneg hi.1]; exact hd.1), at_own (by omega)]
      refine ⟨fun x hx => ?_, ?_⟩
      · rcases List.mem_cons.1 hx with rfl | hx
        · rw [e]; exact h1.1
        · exact h3 x hx
      · have e2 : (at_ R i.toNat).oddity = (t : Int) := by rw [e]; rfl
        simp only [sumO, e2]
        omega
end Go.Proofs.YtcfdaddablojlaaGreatDoor.S

/- train.Refine. -/
set_option linter.unusedSimpArgs false
set_option linter.unusedVariables false
namespace Go.Proofs.YtcfdaddablojlaaGreatDoor.S
open Go.QfSy Go.RowKit

noncomputable def entsTR : List OEnt := (entsT3 ++ entsVC) ++ [
  ⟨61, [], fun A => match A with
    | [.agg [.int .i64 a, .int .i64 b, .int .i64 c, .bool d, .int .i64 e], .sl n 5 row, .sl m 1 row', .int .i64 t] => some (.tup [.int .i64 (((lsF ⟨a, b, c, d, e⟩ (consR n row) (intsR m row') t).getD 0 : Nat) : Int), .bool (lsF ⟨a, b, c, d, e⟩ (consR n row) (intsR m row') t).isSome], [(∀ i, i < n → row i = (Con.ofR (row i)).rvs) ∧ (∀ i, i < m → row' i = [.int .i64 (intR (row' i))]) ∧ m ≤ 1000 ∧ inR n (intsR m row') ∧ 0 ≤ t ∧ t ≤ 7])
    | _ => none⟩]
theorem entsTR_ok : ∀ e ∈ entsTR, EntOk Tryz.prog e := by
  intro e he
  rcases List.mem_append.1 he with he | he
  · rcases List.mem_append.1 he with he | he
    · exact entsT3_ok e he
    · exact entsVC_ok e he
  · rw [List.mem_singleton.1 he]
    intro A R ms h hm
    simp only at h
    split at h
    · cases h
      obtain ⟨h1, h2, h3, h4, h5, h6⟩ := all_one hm
      exact PureC.imp (least_pure ⟨_, _, _, _, _⟩ _ _ _ (by rw [intsR_len]; exact h3) (by rw [consR_len]; exact h4) h5 h6) (.cons .same (.cons (.con h1) (.cons (.ints h2) (.cons .same .nil))))
    · cases h
theorem consR_ro2 {n : Nat} {L : List Con} (h : n = L.length) : consR n (fun i => (L.getD i Con.zero).rvs) = L := by subst h; exact consR_ro L
theorem at_out {M : List Con} {x : Nat} (h : M.length ≤ x) : at_ M x = Con.zero := by simp [at_, h]
theorem intsR_drop (k : IntKind) (l : List Int) (s : Nat) : intsR (l.length - s) (fun i => [.int k (l.getD (i + s) 0)]) = l.drop s := by
  apply List.ext_getElem?
  intro m
  unfold intsR
  rw [List.getElem?_map, List.getElem?_drop]
  rcases Nat.lt_or_ge m (l.length - s) with h | h
  · rw [List.getElem?_range h]
    have h2 : s + m < l.length := by omega
    simp [intR, List.getElem?_eq_getElem h2, Nat.add_comm m s]
  · rw [List.getElem?_eq_none (by simpa using h), List.getElem?_eq_none (by omega)]
    rfl
def lsV (M : List Con) (l : List Int) (k : Nat) (tot : Int) : Nat := (lsF (at_ M (l.getD k 0).toNat) M (l.drop (k + 1)) tot).getD 0
theorem lsV_b (M : List Con) (l : List Int) (k : Nat) (tot : Int) : lsV M l k tot < 8 := by
  unfold lsV
  cases h : lsF (at_ M (l.getD k 0).toNat) M (l.drop (k + 1)) tot with
  | none => decide
  | some t => have := findT_some h; simp only [Option.getD_some]; omega
theorem trF_1 {M : List Con} {l : List Int} {k : Nat} {tot : Int} (hk : k < l.length) (h : (lsF (at_ M (l.getD k 0).toNat) M (l.drop (k + 1)) tot).isSome = true) : trF (l.drop k) tot M = trF (l.drop (k + 1)) ((tot - (lsV M l k tot : Int) + 8) % 8) (setO M (l.getD k 0) (lsV M l k tot : Int)) := by
  rw [drop_int hk]
  unfold lsV
  simp only [trF, lstC_P]
  unfold lsF at h ⊢
  cases hq : findT (lstC (at_ M (l.getD k 0).toNat) M (l.drop (k + 1)) tot) 8 0 with
  | none => rw [hq] at h; cases h
  | some t => rfl
theorem trF_2 {M : List Con} {l : List Int} {k : Nat} {tot : Int} (hk : k < l.length) (h : (lsF (at_ M (l.getD k 0).toNat) M (l.drop (k + 1)) tot).isSome = false) : trF (l.drop k) tot M = none := by
  rw [drop_int hk]
  simp only [trF, lstC_P]
  unfold lsF at h
  cases hq : findT (lstC (at_ M (l.getD k 0).toNat) M (l.drop (k + 1)) tot) 8 0 with
  | none => rfl
  | some t => rw [hq] at h; cases h
theorem trF_3 {M : List Con} {l : List Int} {k : Nat} {tot : Int} (hk : l.length ≤ k) : trF (l.drop k) tot M = some M := by
  rw [List.drop_eq_nil_of_le hk]; rfl
noncomputable def trT (N : Nat) (P : List (List Int)) (j : AV) : List (Nat × AV) := [(2, .ptr 1001 0), (4, .lo 1003 N), (20, (roR .i64 P).av), (21, .vint .i64 P.length), (22, j)]
noncomputable def trI (N : Nat) (P : List (List Int)) (j : Nat) (tot : Int) (k : AV) : List (Nat × AV) := trT N P (.vint .i64 (j : Int)) ++ [(6, (rI .i64 (rowAt P j)).av), (7, .vint .i64 tot), (33, (rI .i64 (rowAt P j)).av), (34, .vint .i64 (rowAt P j).length), (35, k)]
noncomputable def trZ : AEx × St := (.ret, ⟨[(2, .ptr 1001 0), (3, .bool false)], [(1001, ⟨.plain [.int .i64 0, .nils], 24, 0, false, true⟩)], 1020⟩)
noncomputable def trIn (N : Nat) (P : List (List Int)) (j : Nat) (tot : Int) (M : List Con) : Ann := ⟨⟨trI N P j tot (.int .i64 0), tfH N M, 1020⟩, some (trF (rowAt P j) tot M).isSome, fun d => match d with
  | true => (.exit 2, ⟨trT N P (.vint .i64 (j : Int)), tfH N ((trF (rowAt P j) tot M).getD []), 1020⟩)
  | false => trZ⟩
set_option maxRecDepth 100000 in
theorem tr_in (N : Nat) (P : List (List Int)) (j : Nat) (tot0 : Int) (M0 : List Con) (hr : inR N (rowAt P j)) (hn : (rowAt P j).length ≤ 1000) (hM0 : M0.length = N) (h0 : 0 ≤ tot0) (h1 : tot0 ≤ 7) : AnnOk Tryz.prog EV.ng (Nat.max 1 Tryz.f36.ntmps) (bodyAt Tryz.f36 [0, 1, 1, 1, 0, 0, 1, 1, 0, 0, 1, 0, 1, 1, 1]) (trIn N P j tot0 M0) := by
  refine ann_of evOk (callF_ok evOk (orcOf_ok entsTR_ok) 8) none_ann (by kernel_rfl) (by kernel_rfl) (fun i : Nat × Int × List Con => (fun (k : Nat) (tot : Int) (M : List Con) => (⟨trI N P j tot (.vint .i64 (k : Int)), tfH N M, 1020⟩ : St)) i.1 i.2.1 i.2.2) (fun i : Nat × Int × List Con => (fun (k : Nat) (tot : Int) (M : List Con) => ((rowAt P j).length - k : Nat)) i.1 i.2.1 i.2.2) (fun (d : Bool) (i : Nat × Int × List Con) => (fun (k : Nat) (tot : Int) (M : List Con) => (k ≤ (rowAt P j).length ∧ M.length = N ∧ (0 ≤ tot ∧ tot ≤ 7) ∧ trF ((rowAt P j).drop k) tot M = trF (rowAt P j) tot0 M0 ∧ (trF (rowAt P j) tot0 M0).isSome = d : Prop)) i.1 i.2.1 i.2.2) ?_ ?_
  · intro d hd
    exact ⟨(0, tot0, M0), [N = N, P.length = P.length ∧ (fun i => [rI IntKind.i64 (P.getD i [])]) = fun i => [rI IntKind.i64 (P.getD i [])], (↑P.length : Int) = (↑P.length : Int), (↑j : Int) = (↑j : Int), (rowAt P j).length = (rowAt P j).length ∧ (fun j_1 => [RV.int IntKind.i64 ((rowAt P j).getD j_1 (0 : Int))]) = fun j_1 => [RV.int IntKind.i64 ((rowAt P j).getD j_1 (0 : Int))], tot0 = tot0, (rowAt P j).length = (rowAt P j).length ∧ (fun j_1 => [RV.int IntKind.i64 ((rowAt P j).getD j_1 (0 : Int))]) = fun j_1 => [RV.int IntKind.i64 ((rowAt P j).getD j_1 (0 : Int))], (↑(rowAt P j).length : Int) = (↑(rowAt P j).length : Int), (0 : Int) = (↑(0 : Nat) : Int), M0 = M0], by kernel_rfl, (by refine ⟨?_, ?_, ?_, ?_, ?_, ?_, ?_, ?_, ?_, (?_ : M0 = M0)⟩ <;> (first | rfl | assumption | omega | simp_all)), (by exact ⟨Nat.zero_le _, hM0, ⟨h0, h1⟩, rfl, hd⟩)⟩
  · rintro d hd ⟨k, tot, M⟩ hI
    cases d
    · -- d = false
      obtain ⟨ht, hM, hb, hf, hs⟩ := hI
      have ht : k ≤ (rowAt P j).length := ht
      have hM : M.length = N := hM
      have hb : 0 ≤ tot ∧ tot ≤ 7 := hb
      have hf : trF ((rowAt P j).drop k) tot M = trF (rowAt P j) tot0 M0 := hf
      have ek : IntKind.i64.wrap ((k : Int) + 1) = ((k + 1 : Nat) : Int) := by rw [w64 (by omega) (by omega)]; omega
      have ec : consR N (fun i => (M.getD i Con.zero).rvs) = M := consR_ro2 hM.symm
      have hv := lsV_b M (rowAt P j) k tot
      have el := le_tot hb.1 hb.2 hv
      refine Or.elim (Bool.eq_false_or_eq_true (decide ((↑k : Int) < (↑(rowAt P j).length : Int)))) (fun d1 => Or.elim (Bool.eq_false_or_eq_true ((lsF (M.getD ((rowAt P j).getD k (0 : Int)).toNat Con.zero) (consR N fun i => (M.getD i Con.zero).rvs) (intsR ((rowAt P j).length - (IntKind.i64.wrap ((↑k : Int) + (1 : Int))).toNat) fun i => (fun j_1 => [RV.int IntKind.i64 ((rowAt P j).getD j_1 (0 : Int))]) (i + (IntKind.i64.wrap ((↑k : Int) + (1 : Int))).toNat)) tot).isSome)) (fun d2 => ⟨[true, false], .inl ⟨(k + 1, (tot - (lsV M (rowAt P j) k tot : Int) + 8) % 8, setO M ((rowAt P j).getD k 0) (lsV M (rowAt P j) k tot : Int)), [N = N, P.length = P.length ∧ (fun i => [rI IntKind.i64 (P.getD i [])]) = fun i => [rI IntKind.i64 (P.getD i [])], (↑P.length : Int) = (↑P.length : Int), (↑j : Int) = (↑j : Int), (rowAt P j).length = (rowAt P j).length ∧ (fun j_1 => [RV.int IntKind.i64 ((rowAt P j).getD j_1 (0 : Int))]) = fun j_1 => [RV.int IntKind.i64 ((rowAt P j).getD j_1 (0 : Int))], (IntKind.i64.wrap (IntKind.i64.wrap (tot - (↑((lsF (M.getD ((rowAt P j).getD k (0 : Int)).toNat Con.zero) (consR N fun i => (M.getD i Con.zero).rvs) (intsR ((rowAt P j).length - (IntKind.i64.wrap ((↑k : Int) + (1 : Int))).toNat) fun i => (fun j_1 => [RV.int IntKind.i64 ((rowAt P j).getD j_1 (0 : Int))]) (i + (IntKind.i64.wrap ((↑k : Int) + (1 : Int))).toNat)) tot).getD (0 : Nat)) : Int)) + (8 : Int))).tmod (8 : Int) = (tot - (↑(lsV M (rowAt P j) k tot) : Int) + (8 : Int)) % (8 : Int), (rowAt P j).length = (rowAt P j).length ∧ (fun j_1 => [RV.int IntKind.i64 ((rowAt P j).getD j_1 (0 : Int))]) = fun j_1 => [RV.int IntKind.i64 ((rowAt P j).getD j_1 (0 : Int))], (↑(rowAt P j).length : Int) = (↑(rowAt P j).length : Int), IntKind.i64.wrap ((↑k : Int) + (1 : Int)) = (↑(k + (1 : Nat)) : Int), updT M ((rowAt P j).getD k (0 : Int)).toNat (↑((lsF (M.getD ((rowAt P j).getD k (0 : Int)).toNat Con.zero) (consR N fun i => (M.getD i Con.zero).rvs) (intsR ((rowAt P j).length - (IntKind.i64.wrap ((↑k : Int) + (1 : Int))).toNat) fun i => (fun j_1 => [RV.int IntKind.i64 ((rowAt P j).getD j_1 (0 : Int))]) (i + (IntKind.i64.wrap ((↑k : Int) + (1 : Int))).toNat)) tot).getD (0 : Nat)) : Int) = setO M ((rowAt P j).getD k (0 : Int)) (↑(lsV M (rowAt P j) k tot) : Int), (8 : Int) ≠ (0 : Int), ((rowAt P j).getD k (0 : Int)).toNat < M.length, (0 : Int) ≤ (rowAt P j).getD k (0 : Int) ∧ (rowAt P j).getD k (0 : Int) < (↑N : Int), Dec (!(lsF (M.getD ((rowAt P j).getD k (0 : Int)).toNat Con.zero) (consR N fun i => (M.getD i Con.zero).rvs) (intsR ((rowAt P j).length - (IntKind.i64.wrap ((↑k : Int) + (1 : Int))).toNat) fun i => (fun j_1 => [RV.int IntKind.i64 ((rowAt P j).getD j_1 (0 : Int))]) (i + (IntKind.i64.wrap ((↑k : Int) + (1 : Int))).toNat)) tot).isSome) false, N = M.length, (∀ (i : Nat), i < N → (fun i => (M.getD i Con.zero).rvs) i = (Con.ofR ((fun i => (M.getD i Con.zero).rvs) i)).rvs) ∧ (∀ (i : Nat), i < (rowAt P j).length - (IntKind.i64.wrap ((↑k : Int) + (1 : Int))).toNat → (fun i => (fun j_1 => [RV.int IntKind.i64 ((rowAt P j).getD j_1 (0 : Int))]) (i + (IntKind.i64.wrap ((↑k : Int) + (1 : Int))).toNat)) i = [RV.int IntKind.i64 (intR ((fun i => (fun j_1 => [RV.int IntKind.i64 ((rowAt P j).getD j_1 (0 : Int))]) (i + (IntKind.i64.wrap ((↑k : Int) + (1 : Int))).toNat)) i))]) ∧ (rowAt P j).length - (IntKind.i64.wrap ((↑k : Int) + (1 : Int))).toNat ≤ (1000 : Nat) ∧ inR N (intsR ((rowAt P j).length - (IntKind.i64.wrap ((↑k : Int) + (1 : Int))).toNat) fun i => (fun j_1 => [RV.int IntKind.i64 ((rowAt P j).getD j_1 (0 : Int))]) (i + (IntKind.i64.wrap ((↑k : Int) + (1 : Int))).toNat)) ∧ (0 : Int) ≤ tot ∧ tot ≤ (7 : Int), (0 : Int) ≤ IntKind.i64.wrap ((↑k : Int) + (1 : Int)) ∧ IntKind.i64.wrap ((↑k : Int) + (1 : Int)) ≤ (↑(rowAt P j).length : Int), ((rowAt P j).getD k (0 : Int)).toNat < M.length, (0 : Int) ≤ (rowAt P j).getD k (0 : Int) ∧ (rowAt P j).getD k (0 : Int) < (↑N : Int), (0 : Int) ≤ (↑k : Int) ∧ (↑k : Int) < (↑(rowAt P j).length : Int), Dec (decide ((↑k : Int) < (↑(rowAt P j).length : Int))) true], by kernel_rfl, ⟨?_, ?_, ?_, ?_, ?_, ?_, ?_, ?_, ?_, ?_, ?_, ?_, ?_, (dN d2), ?_, ?_, ?_, ?_, ?_, ?_, d1⟩, MuG.out ?_, InG.out ?_⟩⟩)
           (fun d2 => ⟨[true, true], .inr ⟨[Dec (!(lsF (M.getD ((rowAt P j).getD k (0 : Int)).toNat Con.zero) (consR N fun i => (M.getD i Con.zero).rvs) (intsR ((rowAt P j).length - (IntKind.i64.wrap ((↑k : Int) + (1 : Int))).toNat) fun i => (fun j_1 => [RV.int IntKind.i64 ((rowAt P j).getD j_1 (0 : Int))]) (i + (IntKind.i64.wrap ((↑k : Int) + (1 : Int))).toNat)) tot).isSome) true, N = M.length, (∀ (i : Nat), i < N → (fun i => (M.getD i Con.zero).rvs) i = (Con.ofR ((fun i => (M.getD i Con.zero).rvs) i)).rvs) ∧ (∀ (i : Nat), i < (rowAt P j).length - (IntKind.i64.wrap ((↑k : Int) + (1 : Int))).toNat → (fun i => (fun j_1 => [RV.int IntKind.i64 ((rowAt P j).getD j_1 (0 : Int))]) (i + (IntKind.i64.wrap ((↑k : Int) + (1 : Int))).toNat)) i = [RV.int IntKind.i64 (intR ((fun i => (fun j_1 => [RV.int IntKind.i64 ((rowAt P j).getD j_1 (0 : Int))]) (i + (IntKind.i64.wrap ((↑k : Int) + (1 : Int))).toNat)) i))]) ∧ (rowAt P j).length - (IntKind.i64.wrap ((↑k : Int) + (1 : Int))).toNat ≤ (1000 : Nat) ∧ inR N (intsR ((rowAt P j).length - (IntKind.i64.wrap ((↑k : Int) + (1 : Int))).toNat) fun i => (fun j_1 => [RV.int IntKind.i64 ((rowAt P j).getD j_1 (0 : Int))]) (i + (IntKind.i64.wrap ((↑k : Int) + (1 : Int))).toNat)) ∧ (0 : Int) ≤ tot ∧ tot ≤ (7 : Int), (0 : Int) ≤ IntKind.i64.wrap ((↑k : Int) + (1 : Int)) ∧ IntKind.i64.wrap ((↑k : Int) + (1 : Int)) ≤ (↑(rowAt P j).length : Int), ((rowAt P j).getD k (0 : Int)).toNat < M.length, (0 : Int) ≤ (rowAt P j).getD k (0 : Int) ∧ (rowAt P j).getD k (0 : Int) < (↑N : Int), (0 : Int) ≤ (↑k : Int) ∧ (↑k : Int) < (↑(rowAt P j).length : Int), Dec (decide ((↑k : Int) < (↑(rowAt P j).length : Int))) true], by kernel_rfl, ⟨(dN d2), ?_, ?_, ?_, ?_, ?_, ?_, d1⟩, rfl⟩⟩))
           (fun d1 => CtG.no ?_)
      all_goals first | (refine MuG.mk ?_; (simp only [decide_eq_true_eq] at d1; show (rowAt P j).length - (k + 1) < (rowAt P j).length - k; omega)) | (refine InG.mk ?_; (simp only [ek, ec, intsR_drop, consR_ro, Int.toNat_natCast, decide_eq_true_eq] at *; exact ⟨by omega, by rw [setO_len]; exact hM, by omega, by rw [← hf, trF_1 (by omega) d2], hs⟩)) | (refine CtG.mk ?_; (simp only [ek, ec, intsR_drop, consR_ro, Int.toNat_natCast, decide_eq_true_eq, decide_eq_false_iff_not] at *; first | (rw [← hf, trF_3 (by omega)] at hs; cases hs; done) | (rw [← hf, trF_2 (by omega) d2] at hs; cases hs; done))) | (first | (with_reducible rfl) | exact ⟨rfl, rfl⟩ | decide | ((try simp only [ek, ec, intsR_drop, consR_ro, Int.toNat_natCast, decide_eq_true_eq, decide_eq_false_iff_not] at *) <;> first | omega | (rw [← hf, trF_3 (by omega)]; rfl) | exact el | rfl | (have h2 := hr.at (t := k) (by omega); first | omega | exact ⟨fun _ _ => rfl, fun _ _ => rfl, by omega, hr.drop _, hb.1, hb.2⟩ | exact (5 : Nat))))
    · -- d = true
      obtain ⟨ht, hM, hb, hf, hs⟩ := hI
      have ht : k ≤ (rowAt P j).length := ht
      have hM : M.length = N := hM
      have hb : 0 ≤ tot ∧ tot ≤ 7 := hb
      have hf : trF ((rowAt P j).drop k) tot M = trF (rowAt P j) tot0 M0 := hf
      have ek : IntKind.i64.wrap ((k : Int) + 1) = ((k + 1 : Nat) : Int) := by rw [w64 (by omega) (by omega)]; omega
      have ec : consR N (fun i => (M.getD i Con.zero).rvs) = M := consR_ro2 hM.symm
      have hv := lsV_b M (rowAt P j) k tot
      have el := le_tot hb.1 hb.2 hv
      refine Or.elim (Bool.eq_false_or_eq_true (decide ((↑k : Int) < (↑(rowAt P j).length : Int)))) (fun d1 => Or.elim (Bool.eq_false_or_eq_true ((lsF (M.getD ((rowAt P j).getD k (0 : Int)).toNat Con.zero) (consR N fun i => (M.getD i Con.zero).rvs) (intsR ((rowAt P j).length - (IntKind.i64.wrap ((↑k : Int) + (1 : Int))).toNat) fun i => (fun j_1 => [RV.int IntKind.i64 ((rowAt P j).getD j_1 (0 : Int))]) (i + (IntKind.i64.wrap ((↑k : Int) + (1 : Int))).toNat)) tot).isSome)) (fun d2 => ⟨[true, false], .inl ⟨(k + 1, (tot - (lsV M (rowAt P j) k tot : Int) + 8) % 8, setO M ((rowAt P j).getD k 0) (lsV M (rowAt P j) k tot : Int)), [N = N, P.length = P.length ∧ (fun i => [rI IntKind.i64 (P.getD i [])]) = fun i => [rI IntKind.i64 (P.getD i [])], (↑P.length : Int) = (↑P.length : Int), (↑j : Int) = (↑j : Int), (rowAt P j).length = (rowAt P j).length ∧ (fun j_1 => [RV.int IntKind.i64 ((rowAt P j).getD j_1 (0 : Int))]) = fun j_1 => [RV.int IntKind.i64 ((rowAt P j).getD j_1 (0 : Int))], (IntKind.i64.wrap (IntKind.i64.wrap (tot - (↑((lsF (M.getD ((rowAt P j).getD k (0 : Int)).toNat Con.zero) (consR N fun i => (M.getD i Con.zero).rvs) (intsR ((rowAt P j).length - (IntKind.i64.wrap ((↑k : Int) + (1 : Int))).toNat) fun i => (fun j_1 => [RV.int IntKind.i64 ((rowAt P j).getD j_1 (0 : Int))]) (i + (IntKind.i64.wrap ((↑k : Int) + (1 : Int))).toNat)) tot).getD (0 : Nat)) : Int)) + (8 : Int))).tmod (8 : Int) = (tot - (↑(lsV M (rowAt P j) k tot) : Int) + (8 : Int)) % (8 : Int), (rowAt P j).length = (rowAt P j).length ∧ (fun j_1 => [RV.int IntKind.i64 ((rowAt P j).getD j_1 (0 : Int))]) = fun j_1 => [RV.int IntKind.i64 ((rowAt P j).getD j_1 (0 : Int))], (↑(rowAt P j).length : Int) = (↑(rowAt P j).length : Int), IntKind.i64.wrap ((↑k : Int) + (1 : Int)) = (↑(k + (1 : Nat)) : Int), updT M ((rowAt P j).getD k (0 : Int)).toNat (↑((lsF (M.getD ((rowAt P j).getD k (0 : Int)).toNat Con.zero) (consR N fun i => (M.getD i Con.zero).rvs) (intsR ((rowAt P j).length - (IntKind.i64.wrap ((↑k : Int) + (1 : Int))).toNat) fun i => (fun j_1 => [RV.int IntKind.i64 ((rowAt P j).getD j_1 (0 : Int))]) (i + (IntKind.i64.wrap ((↑k : Int) + (1 : Int))).toNat)) tot).getD (0 : Nat)) : Int) = setO M ((rowAt P j).getD k (0 : Int)) (↑(lsV M (rowAt P j) k tot) : Int), (8 : Int) ≠ (0 : Int), ((rowAt P j).getD k (0 : Int)).toNat < M.length, (0 : Int) ≤ (rowAt P j).getD k (0 : Int) ∧ (rowAt P j).getD k (0 : Int) < (↑N : Int), Dec (!(lsF (M.getD ((rowAt P j).getD k (0 : Int)).toNat Con.zero) (consR N fun i => (M.getD i Con.zero).rvs) (intsR ((rowAt P j).length - (IntKind.i64.wrap ((↑k : Int) + (1 : Int))).toNat) fun i => (fun j_1 => [RV.int IntKind.i64 ((rowAt P j).getD j_1 (0 : Int))]) (i + (IntKind.i64.wrap ((↑k : Int) + (1 : Int))).toNat)) tot).isSome) false, N = M.length, (∀ (i : Nat), i < N → (fun i => (M.getD i Con.zero).rvs) i = (Con.ofR ((fun i => (M.getD i Con.zero).rvs) i)).rvs) ∧ (∀ (i : Nat), i < (rowAt P j).length - (IntKind.i64.wrap ((↑k : Int) + (1 : Int))).toNat → (fun i => (fun j_1 => [RV.int IntKind.i64 ((rowAt P j).getD j_1 (0 : Int))]) (i + (IntKind.i64.wrap ((↑k : Int) + (1 : Int))).toNat)) i = [RV.int IntKind.i64 (intR ((fun i => (fun j_1 => [RV.int IntKind.i64 ((rowAt P j).getD j_1 (0 : Int))]) (i + (IntKind.i64.wrap ((↑k : Int) + (1 : Int))).toNat)) i))]) ∧ (rowAt P j).length - (IntKind.i64.wrap ((↑k : Int) + (1 : Int))).toNat ≤ (1000 : Nat) ∧ inR N (intsR ((rowAt P j).length - (IntKind.i64.wrap ((↑k : Int) + (1 : Int))).toNat) fun i => (fun j_1 => [RV.int IntKind.i64 ((rowAt P j).getD j_1 (0 : Int))]) (i + (IntKind.i64.wrap ((↑k : Int) + (1 : Int))).toNat)) ∧ (0 : Int) ≤ tot ∧ tot ≤ (7 : Int), (0 : Int) ≤ IntKind.i64.wrap ((↑k : Int) + (1 : Int)) ∧ IntKind.i64.wrap ((↑k : Int) + (1 : Int)) ≤ (↑(rowAt P j).length : Int), ((rowAt P j).getD k (0 : Int)).toNat < M.length, (0 : Int) ≤ (rowAt P j).getD k (0 : Int) ∧ (rowAt P j).getD k (0 : Int) < (↑N : Int), (0 : Int) ≤ (↑k : Int) ∧ (↑k : Int) < (↑(rowAt P j).length : Int), Dec (decide ((↑k : Int) < (↑(rowAt P j).length : Int))) true], by kernel_rfl, ⟨?_, ?_, ?_, ?_, ?_, ?_, ?_, ?_, ?_, ?_, ?_, ?_, ?_, (dN d2), ?_, ?_, ?_, ?_, ?_, ?_, d1⟩, MuG.out ?_, InG.out ?_⟩⟩)
           (fun d2 => CtG.no ?_))
           (fun d1 => ⟨[false], .inr ⟨[N = N, P.length = P.length ∧ (fun i => [rI IntKind.i64 (P.getD i [])]) = fun i => [rI IntKind.i64 (P.getD i [])], (↑P.length : Int) = (↑P.length : Int), (↑j : Int) = (↑j : Int), M = (trF (rowAt P j) tot0 M0).getD [], Dec (decide ((↑k : Int) < (↑(rowAt P j).length : Int))) false], by kernel_rfl, ⟨?_, ?_, ?_, ?_, ?_, d1⟩, rfl⟩⟩)
      all_goals first | (refine MuG.mk ?_; (simp only [decide_eq_true_eq] at d1; show (rowAt P j).length - (k + 1) < (rowAt P j).length - k; omega)) | (refine InG.mk ?_; (simp only [ek, ec, intsR_drop, consR_ro, Int.toNat_natCast, decide_eq_true_eq] at *; exact ⟨by omega, by rw [setO_len]; exact hM, by omega, by rw [← hf, trF_1 (by omega) d2], hs⟩)) | (refine CtG.mk ?_; (simp only [ek, ec, intsR_drop, consR_ro, Int.toNat_natCast, decide_eq_true_eq, decide_eq_false_iff_not] at *; first | (rw [← hf, trF_3 (by omega)] at hs; cases hs; done) | (rw [← hf, trF_2 (by omega) d2] at hs; cases hs; done))) | (first | (with_reducible rfl) | exact ⟨rfl, rfl⟩ | decide | ((try simp only [ek, ec, intsR_drop, consR_ro, Int.toNat_natCast, decide_eq_true_eq, decide_eq_false_iff_not] at *) <;> first | omega | (rw [← hf, trF_3 (by omega)]; rfl) | exact el | rfl | (have h2 := hr.at (t := k) (by omega); first | omega | exact ⟨fun _ _ => rfl, fun _ _ => rfl, by omega, hr.drop _, hb.1, hb.2⟩ | exact (5 : Nat))))
theorem trF_ok2 : ∀ {l : List Int} {tot : Int} {M R : List Con}, okL M → inR M.length l → trF l tot M = some R → okL R ∧ R.length = M.length
  | [], tot, M, R, hM, hl, h => by cases h; exact ⟨hM, rfl⟩
  | i :: l, tot, M, R, hM, hl, h => by
    simp only [trF] at h
    cases hq : findT (lstP M i l tot) 8 0 with
    | none => rw [hq] at h; cases h
    | some t =>
      rw [hq] at h
      have h1 := hl i List.mem_cons_self
      have h2 := findT_some hq
      have h3 := trF_ok2 (setO_ok hM h1 (t := (t : Int)) ⟨by omega, by omega⟩) (by rw [setO_len]; exact fun x hx => hl x (List.mem_cons_of_mem _ hx)) h
      rw [setO_len] at h3
      exact h3
theorem trG_1 {M R : List Con} {P : List (List Int)} {j : Nat} (hj : j < P.length) (h : trF (rowAt P j) (at_ M ((rowAt P j).getD 0 0).toNat).oddity M = some R) : trG (P.drop j) M = trG (P.drop (j + 1)) R := by
  rw [drop_row hj]; simp only [trG, h]
theorem trG_2 {M : List Con} {P : List (List Int)} {j : Nat} (hj : j < P.length) (h : trF (rowAt P j) (at_ M ((rowAt P j).getD 0 0).toNat).oddity M = none) : trG (P.drop j) M = none := by
  rw [drop_row hj]; simp only [trG, h]
theorem trG_3 {M : List Con} {P : List (List Int)} {j : Nat} (hj : P.length ≤ j) : trG (P.drop j) M = some M := by
  rw [List.drop_eq_nil_of_le hj]; rfl
theorem some_getD {o : Option (List Con)} (h : o.isSome = true) : o = some (o.getD []) := by cases o with | none => cases h | some x => rfl
theorem none_of {o : Option (List Con)} (h : o.isSome = false) : o = none := by cases o with | none => rfl | some x => cases h
noncomputable def trOut (L : List Con) (P : List (List Int)) : Ann := ⟨⟨trT L.length P (.int .i64 0), tfH L.length L, 1020⟩, some (trG P L).isSome, fun d => match d with
  | true => (.exit 0, ⟨[(2, .ptr 1001 0), (4, .lo 1003 L.length)], tfH L.length ((trG P L).getD []), 1020⟩)
  | false => trZ⟩
set_option maxRecDepth 100000 in
theorem tr_out (L : List Con) (P : List (List Int)) (hP : ∀ l ∈ P, l ≠ [] ∧ inR L.length l ∧ l.length ≤ L.length) (hn : P.length ≤ 1000) (hL : okL L) : AnnOk Tryz.prog EV.ng (Nat.max 1 Tryz.f36.ntmps) (bodyAt Tryz.f36 [0, 1, 0, 1, 1, 1]) (trOut L P) := by
  refine ann_ofI evOk (callF_ok evOk (orcOf_ok entsTR_ok) 8) (by kernel_rfl) (by kernel_rfl) (fun i : Nat × List Con => (fun (j : Nat) (M : List Con) => (⟨trT L.length P (.vint .i64 (j : Int)), tfH L.length M, 1020⟩ : St)) i.1 i.2) (fun i : Nat × List Con => (fun (j : Nat) (M : List Con) => (P.length - j : Nat)) i.1 i.2) (fun (d : Bool) (i : Nat × List Con) => (fun (j : Nat) (M : List Con) => (j ≤ P.length ∧ okL M ∧ M.length = L.length ∧ trG (P.drop j) M = trG P L ∧ (trG P L).isSome = d : Prop)) i.1 i.2) (fun i : Nat × List Con => (fun (j : Nat) (M : List Con) => ([([0, 1, 1, 1, 0, 0, 1, 1, 0, 0, 1, 0, 1, 1, 1], trIn L.length P j (at_ M ((rowAt P j).getD 0 0).toNat).oddity M)] : List (List Nat × Ann))) i.1 i.2) ?_ ?_ ?_
  · rintro d hd ⟨j, M⟩ hI
    obtain ⟨ht, hM, hlen, hf, hs⟩ := hI
    have ht : j ≤ P.length := ht
    have hM : okL M := hM
    have hlen : M.length = L.length := hlen
    have hb : 0 ≤ (at_ M ((rowAt P j).getD 0 0).toNat).oddity ∧ (at_ M ((rowAt P j).getD 0 0).toNat).oddity ≤ 7 := by
      rcases Nat.lt_or_ge ((rowAt P j).getD 0 0).toNat M.length with h | h
      · exact (hM.at h).2.2.2
      · rw [at_out h]; decide
    have hr : inR L.length (rowAt P j) ∧ (rowAt P j).length ≤ 1000 := by
      have := hL.1
      rcases Nat.lt_or_ge j P.length with h | h
      · have h1 := hP _ (rowAt_mem h)
        exact ⟨h1.2.1, by omega⟩
      · have e : rowAt P j = [] := by simp [rowAt, h]
        rw [e]; exact ⟨fun x hx => by simp at hx, by simp⟩
    exact one_ann (tr_in L.length P j _ M hr.1 hr.2 hlen hb.1 hb.2)
  · intro d hd
    exact ⟨(0, L), [L.length = L.length, P.length = P.length ∧ (fun i => [rI IntKind.i64 (P.getD i [])]) = fun i => [rI IntKind.i64 (P.getD i [])], (↑P.length : Int) = (↑P.length : Int), (0 : Int) = (↑(0 : Nat) : Int), L = L], by kernel_rfl, (by refine ⟨?_, ?_, ?_, ?_, (?_ : L = L)⟩ <;> (first | rfl | assumption | omega | simp_all)), (by exact ⟨Nat.zero_le _, hL, rfl, rfl, hd⟩)⟩
  · rintro d hd ⟨j, M⟩ hI
    cases d
    · -- d = false
      obtain ⟨ht, hM, hlen, hf, hs⟩ := hI
      have ht : j ≤ P.length := ht
      have hM : okL M := hM
      have hlen : M.length = L.length := hlen
      have hf : trG (P.drop j) M = trG P L := hf
      have ek : IntKind.i64.wrap ((j : Int) + 1) = ((j + 1 : Nat) : Int) := by rw [w64 (by omega) (by omega)]; omega
      refine Or.elim (Bool.eq_false_or_eq_true (decide ((↑j : Int) < (↑P.length : Int)))) (fun d1 => Or.elim (Bool.eq_false_or_eq_true ((trF (rowAt P j) (at_ M ((rowAt P j).getD (0 : Nat) (0 : Int)).toNat).oddity M).isSome)) (fun d2 => ⟨[true, true], .inl ⟨(j + 1, (trF (rowAt P j) (at_ M ((rowAt P j).getD 0 0).toNat).oddity M).getD []), [L.length = L.length, P.length = P.length ∧ (fun i => [rI IntKind.i64 (P.getD i [])]) = fun i => [rI IntKind.i64 (P.getD i [])], (↑P.length : Int) = (↑P.length : Int), IntKind.i64.wrap ((↑j : Int) + (1 : Int)) = (↑(j + (1 : Nat)) : Int), (trF (rowAt P j) (at_ M ((rowAt P j).getD (0 : Nat) (0 : Int)).toNat).oddity M).getD [] = (trF (rowAt P j) (at_ M ((rowAt P j).getD (0 : Nat) (0 : Int)).toNat).oddity M).getD [], L.length = L.length, P.length = P.length ∧ (fun i => [rI IntKind.i64 (P.getD i [])]) = fun i => [rI IntKind.i64 (P.getD i [])], (↑P.length : Int) = (↑P.length : Int), (↑j : Int) = (↑j : Int), (P.getD j []).length = (rowAt P j).length ∧ (fun j_1 => [RV.int IntKind.i64 ((P.getD j []).getD j_1 (0 : Int))]) = fun j_1 => [RV.int IntKind.i64 ((rowAt P j).getD j_1 (0 : Int))], (M.getD ((P.getD j []).getD (Int.toNat (0 : Int)) (0 : Int)).toNat Con.zero).oddity = (at_ M ((rowAt P j).getD (0 : Nat) (0 : Int)).toNat).oddity, (P.getD j []).length = (rowAt P j).length ∧ (fun j_1 => [RV.int IntKind.i64 ((P.getD j []).getD j_1 (0 : Int))]) = fun j_1 => [RV.int IntKind.i64 ((rowAt P j).getD j_1 (0 : Int))], (↑(P.getD j []).length : Int) = (↑(rowAt P j).length : Int), M = M, Dec (trF (rowAt P j) (at_ M ((rowAt P j).getD (0 : Nat) (0 : Int)).toNat).oddity M).isSome true, ((P.getD j []).getD (Int.toNat (0 : Int)) (0 : Int)).toNat < M.length, (0 : Int) ≤ (P.getD j []).getD (Int.toNat (0 : Int)) (0 : Int) ∧ (P.getD j []).getD (Int.toNat (0 : Int)) (0 : Int) < (↑L.length : Int), (0 : Int) ≤ (0 : Int) ∧ (0 : Int) < (↑(P.getD j []).length : Int), (0 : Int) ≤ (↑j : Int) ∧ (↑j : Int) < (↑P.length : Int), Dec (decide ((↑j : Int) < (↑P.length : Int))) true], by kernel_rfl, ⟨?_, ?_, ?_, ?_, ?_, ?_, ?_, ?_, ?_, ?_, ?_, ?_, ?_, ?_, d2, ?_, ?_, ?_, ?_, d1⟩, MuG.out ?_, InG.out ?_⟩⟩)
           (fun d2 => ⟨[true, false], .inr ⟨[L.length = L.length, P.length = P.length ∧ (fun i => [rI IntKind.i64 (P.getD i [])]) = fun i => [rI IntKind.i64 (P.getD i [])], (↑P.length : Int) = (↑P.length : Int), (↑j : Int) = (↑j : Int), (P.getD j []).length = (rowAt P j).length ∧ (fun j_1 => [RV.int IntKind.i64 ((P.getD j []).getD j_1 (0 : Int))]) = fun j_1 => [RV.int IntKind.i64 ((rowAt P j).getD j_1 (0 : Int))], (M.getD ((P.getD j []).getD (Int.toNat (0 : Int)) (0 : Int)).toNat Con.zero).oddity = (at_ M ((rowAt P j).getD (0 : Nat) (0 : Int)).toNat).oddity, (P.getD j []).length = (rowAt P j).length ∧ (fun j_1 => [RV.int IntKind.i64 ((P.getD j []).getD j_1 (0 : Int))]) = fun j_1 => [RV.int IntKind.i64 ((rowAt P j).getD j_1 (0 : Int))], (↑(P.getD j []).length : Int) = (↑(rowAt P j).length : Int), M = M, Dec (trF (rowAt P j) (at_ M ((rowAt P j).getD (0 : Nat) (0 : Int)).toNat).oddity M).isSome false, ((P.getD j []).getD (Int.toNat (0 : Int)) (0 : Int)).toNat < M.length, (0 : Int) ≤ (P.getD j []).getD (Int.toNat (0 : Int)) (0 : Int) ∧ (P.getD j []).getD (Int.toNat (0 : Int)) (0 : Int) < (↑L.length : Int), (0 : Int) ≤ (0 : Int) ∧ (0 : Int) < (↑(P.getD j []).length : Int), (0 : Int) ≤ (↑j : Int) ∧ (↑j : Int) < (↑P.length : Int), Dec (decide ((↑j : Int) < (↑P.length : Int))) true], by kernel_rfl, ⟨?_, ?_, ?_, ?_, ?_, ?_, ?_, ?_, ?_, d2, ?_, ?_, ?_, ?_, d1⟩, rfl⟩⟩))
           (fun d1 => CtG.no ?_)
      all_goals first | (refine MuG.mk ?_; (simp only [decide_eq_true_eq] at d1; show P.length - (j + 1) < P.length - j; omega)) | (refine InG.mk ?_; (simp only [decide_eq_true_eq] at d1; have h0 := hP _ (rowAt_mem (P := P) (t := j) (by omega)); have h1 := some_getD d2; have h2 := trF_ok2 hM (by rw [hlen]; exact h0.2.1) h1; exact ⟨by omega, h2.1, h2.2.trans hlen, by rw [← hf]; exact (trG_1 (by omega) h1).symm, hs⟩)) | (refine CtG.mk ?_; (simp only [decide_eq_true_eq, decide_eq_false_iff_not] at d1; first | (rw [← hf, trG_3 (by omega)] at hs; cases hs; done) | (rw [← hf, trG_2 (by omega) (none_of d2)] at hs; cases hs; done))) | (first | (with_reducible rfl) | exact ⟨rfl, rfl⟩ | decide | ((try simp only [ek, Int.toNat_natCast, Int.toNat_zero, decide_eq_true_eq, decide_eq_false_iff_not] at *) <;> first | omega | (rw [← hf, trG_3 (by omega)]; rfl) | (have h0 := hP _ (rowAt_mem (P := P) (t := j) (by omega)); have h1 : 0 < (rowAt P j).length := List.length_pos_iff.2 h0.1; have h5 : 0 ≤ (P.getD j []).getD 0 0 ∧ (P.getD j []).getD 0 0 < (L.length : Int) := h0.2.1.at (t := 0) h1; have h7 : 0 < (P.getD j []).length := h1; first | omega)))
    · -- d = true
      obtain ⟨ht, hM, hlen, hf, hs⟩ := hI
      have ht : j ≤ P.length := ht
      have hM : okL M := hM
      have hlen : M.length = L.length := hlen
      have hf : trG (P.drop j) M = trG P L := hf
      have ek : IntKind.i64.wrap ((j : Int) + 1) = ((j + 1 : Nat) : Int) := by rw [w64 (by omega) (by omega)]; omega
      refine Or.elim (Bool.eq_false_or_eq_true (decide ((↑j : Int) < (↑P.length : Int)))) (fun d1 => Or.elim (Bool.eq_false_or_eq_true ((trF (rowAt P j) (at_ M ((rowAt P j).getD (0 : Nat) (0 : Int)).toNat).oddity M).isSome)) (fun d2 => ⟨[true, true], .inl ⟨(j + 1, (trF (rowAt P j) (at_ M ((rowAt P j).getD 0 0).toNat).oddity M).getD []), [L.length = L.length, P.length = P.length ∧ (fun i => [rI IntKind.i64 (P.getD i [])]) = fun i => [rI IntKind.i64 (P.getD i [])], (↑P.length : Int) = (↑P.length : Int), IntKind.i64.wrap ((↑j : Int) + (1 : Int)) = (↑(j + (1 : Nat)) : Int), (trF (rowAt P j) (at_ M ((rowAt P j).getD (0 : Nat) (0 : Int)).toNat).oddity M).getD [] = (trF (rowAt P j) (at_ M ((rowAt P j).getD (0 : Nat) (0 : Int)).toNat).oddity M).getD [], L.length = L.length, P.length = P.length ∧ (fun i => [rI IntKind.i64 (P.getD i [])]) = fun i => [rI IntKind.i64 (P.getD i [])], (↑P.length : Int) = (↑P.length : Int), (↑j : Int) = (↑j : Int), (P.getD j []).length = (rowAt P j).length ∧ (fun j_1 => [RV.int IntKind.i64 ((P.getD j []).getD j_1 (0 : Int))]) = fun j_1 => [RV.int IntKind.i64 ((rowAt P j).getD j_1 (0 : Int))], (M.getD ((P.getD j []).getD (Int.toNat (0 : Int)) (0 : Int)).toNat Con.zero).oddity = (at_ M ((rowAt P j).getD (0 : Nat) (0 : Int)).toNat).oddity, (P.getD j []).length = (rowAt P j).length ∧ (fun j_1 => [RV.int IntKind.i64 ((P.getD j []).getD j_1 (0 : Int))]) = fun j_1 => [RV.int IntKind.i64 ((rowAt P j).getD j_1 (0 : Int))], (↑(P.getD j []).length : Int) = (↑(rowAt P j).length : Int), M = M, Dec (trF (rowAt P j) (at_ M ((rowAt P j).getD (0 : Nat) (0 : Int)).toNat).oddity M).isSome true, ((P.getD j []).getD (Int.toNat (0 : Int)) (0 : Int)).toNat < M.length, (0 : Int) ≤ (P.getD j []).getD (Int.toNat (0 : Int)) (0 : Int) ∧ (P.getD j []).getD (Int.toNat (0 : Int)) (0 : Int) < (↑L.length : Int), (0 : Int) ≤ (0 : Int) ∧ (0 : Int) < (↑(P.getD j []).length : Int), (0 : Int) ≤ (↑j : Int) ∧ (↑j : Int) < (↑P.length : Int), Dec (decide ((↑j : Int) < (↑P.length : Int))) true], by kernel_rfl, ⟨?_, ?_, ?_, ?_, ?_, ?_, ?_, ?_, ?_, ?_, ?_, ?_, ?_, ?_, d2, ?_, ?_, ?_, ?_, d1⟩, MuG.out ?_, InG.out ?_⟩⟩)
           (fun d2 => CtG.no ?_))
           (fun d1 => ⟨[false], .inr ⟨[L.length = L.length, M = (trG P L).getD [], Dec (decide ((↑j : Int) < (↑P.length : Int))) false], by kernel_rfl, ⟨?_, ?_, d1⟩, rfl⟩⟩)
      all_goals first | (refine MuG.mk ?_; (simp only [decide_eq_true_eq] at d1; show P.length - (j + 1) < P.length - j; omega)) | (refine InG.mk ?_; (simp only [decide_eq_true_eq] at d1; have h0 := hP _ (rowAt_mem (P := P) (t := j) (by omega)); have h1 := some_getD d2; have h2 := trF_ok2 hM (by rw [hlen]; exact h0.2.1) h1; exact ⟨by omega, h2.1, h2.2.trans hlen, by rw [← hf]; exact (trG_1 (by omega) h1).symm, hs⟩)) | (refine CtG.mk ?_; (simp only [decide_eq_true_eq, decide_eq_false_iff_not] at d1; first | (rw [← hf, trG_3 (by omega)] at hs; cases hs; done) | (rw [← hf, trG_2 (by omega) (none_of d2)] at hs; cases hs; done))) | (first | (with_reducible rfl) | exact ⟨rfl, rfl⟩ | decide | ((try simp only [ek, Int.toNat_natCast, Int.toNat_zero, decide_eq_true_eq, decide_eq_false_iff_not] at *) <;> first | omega | (rw [← hf, trG_3 (by omega)]; rfl) | (have h0 := hP _ (rowAt_mem (P := P) (t := j) (by omega)); have h1 : 0 < (rowAt P j).length := List.length_pos_iff.2 h0.1; have h5 : 0 ≤ (P.getD j []).getD 0 0 ∧ (P.getD j []).getD 0 0 < (L.length : Int) := h0.2.1.at (t := 0) h1; have h7 : 0 < (P.getD j []).length := h1; first | omega)))
set_option maxRecDepth 100000 in
theorem tref_yes (L R : List Con) (hf : fusM 2 L = true) (hR : refM L = some R) (hlen : R.length = L.length) : PureC Tryz.prog [] 36 [.agg [.int .i64 2, roC L]] (.tup [.agg [.int .i64 2, roC R], .bool true]) := by
  have hL := fus_okL hf; have hl := hL.1; have hne := (fus_parts hf).2.1; have k1 : fusM 2 (consR L.length fun i => (L.getD i Con.zero).rvs) = true := (by rw [consR_ro]; exact hf); have k2 : L.length.beq 0 = false := (by cases h : L.length.beq 0 with | false => rfl | true => have := Nat.eq_of_beq_eq_true h; omega); have k0 : trG (partsM L) L = some R := (by rw [trG_refM hf]; exact hR); have k3 : (trG (partsM L) L).isSome = true := (by rw [k0]; rfl); have k4 : (trG (partsM L) L).getD [] = R := (by rw [k0]; rfl)
  have rr := fun (tp : List Bool) (ms : List Prop) h hm => pure_run evOk (callF_ok evOk (orcOf_ok entsTR_ok) 8) Tryz.func36 (A := [.agg [.int .i64 2, roC L]]) (N := Nat.max 1 Tryz.f36.ntmps) rfl (one_ann (tr_out L (partsM L) parts_rows (Nat.le_trans parts_len (fus_okL hf).1) (fus_okL hf))) rfl rfl evNg (tabs := []) (R := .tup [.agg [.int .i64 2, roC R], .bool true]) (tp := tp) (ms := ms) h hm
  refine rr [false, false, true] [(2 : Int) = (2 : Int), L.length = R.length ∧ L.length = ((trG (partsM L) L).getD []).length ∧ ∀ (i : Nat), i < L.length → (fun i => (R.getD i Con.zero).rvs) i = (((trG (partsM L) L).getD []).getD i Con.zero).rvs, true = true, L.length = L.length, (partsM (consR L.length fun i => (L.getD i Con.zero).rvs)).length = (partsM L).length ∧ (fun i => [rI IntKind.i64 ((partsM (consR L.length fun i => (L.getD i Con.zero).rvs)).getD i [])]) = fun i => [rI IntKind.i64 ((partsM L).getD i [])], (↑(partsM (consR L.length fun i => (L.getD i Con.zero).rvs)).length : Int) = (↑(partsM L).length : Int), (consR L.length fun i => (L.getD i Con.zero).rvs) = L, Dec (trG (partsM L) L).isSome true, (∀ (i : Nat), i < L.length → (fun i => (L.getD i Con.zero).rvs) i = (Con.ofR ((fun i => (L.getD i Con.zero).rvs) i)).rvs) ∧ okE (consR L.length fun i => (L.getD i Con.zero).rvs), (0 : Nat) < L.length ∧ L.length ≤ (1000000 : Nat), ∀ (i : Nat), i < L.length → (fun i => (L.getD i Con.zero).rvs) i = (Con.ofR ((fun i => (L.getD i Con.zero).rvs) i)).rvs, Dec (L.length.beq (0 : Nat)) false, (0 : Nat) < L.length, Dec (!fusM (2 : Int) (consR L.length fun i => (L.getD i Con.zero).rvs)) false, (∀ (i : Nat), i < L.length → (fun i => (L.getD i Con.zero).rvs) i = (Con.ofR ((fun i => (L.getD i Con.zero).rvs) i)).rvs) ∧ L.length ≤ (1000 : Nat)] (by kernel_rfl) ⟨?_, ?_, ?_, ?_, ?_, ?_, ?_, k3, ?_, ?_, ?_, k2, ?_, (dN k1), (?_ : (∀ (i : Nat), i < L.length → (fun i => (L.getD i Con.zero).rvs) i = (Con.ofR ((fun i => (L.getD i Con.zero).rvs) i)).rvs) ∧ L.length ≤ (1000 : Nat))⟩
  all_goals first | (first | (with_reducible rfl) | exact ⟨rfl, rfl⟩ | exact consR_ro L | exact ⟨hne, by omega⟩ | exact hne | exact fun _ _ => rfl | exact ⟨fun _ _ => rfl, by rw [consR_ro]; exact hL.e⟩ | exact ⟨fun _ _ => rfl, hl⟩ | (rw [consR_ro]; first | done | rfl | exact ⟨rfl, rfl⟩) | (rw [k4]; exact ⟨hlen.symm, hlen.symm, fun _ _ => rfl⟩) | exact (5 : Nat))
set_option maxRecDepth 100000 in
theorem tref_none (L : List Con) (hf : fusM 2 L = true) (hR : refM L = none) : PureC Tryz.prog [] 36 [.agg [.int .i64 2, roC L]] (.tup [.agg [.int .i64 0, roC []], .bool false]) := by
  have hL := fus_okL hf; have hl := hL.1; have hne := (fus_parts hf).2.1; have k1 : fusM 2 (consR L.length fun i => (L.getD i Con.zero).rvs) = true := (by rw [consR_ro]; exact hf); have k2 : L.length.beq 0 = false := (by cases h : L.length.beq 0 with | false => rfl | true => have := Nat.eq_of_beq_eq_true h; omega); have k0 : trG (partsM L) L = none := (by rw [trG_refM hf]; exact hR); have k3 : (trG (partsM L) L).isSome = false := (by rw [k0]; rfl)
  have rr := fun (tp : List Bool) (ms : List Prop) h hm => pure_run evOk (callF_ok evOk (orcOf_ok entsTR_ok) 8) Tryz.func36 (A := [.agg [.int .i64 2, roC L]]) (N := Nat.max 1 Tryz.f36.ntmps) rfl (one_ann (tr_out L (partsM L) parts_rows (Nat.le_trans parts_len (fus_okL hf).1) (fus_okL hf))) rfl rfl evNg (tabs := []) (R := .tup [.agg [.int .i64 0, roC []], .bool false]) (tp := tp) (ms := ms) h hm
  refine rr [false, false, false] [(0 : Int) = (0 : Int), (0 : Nat) = (0 : Nat), false = false, L.length = L.length, (partsM (consR L.length fun i => (L.getD i Con.zero).rvs)).length = (partsM L).length ∧ (fun i => [rI IntKind.i64 ((partsM (consR L.length fun i => (L.getD i Con.zero).rvs)).getD i [])]) = fun i => [rI IntKind.i64 ((partsM L).getD i [])], (↑(partsM (consR L.length fun i => (L.getD i Con.zero).rvs)).length : Int) = (↑(partsM L).length : Int), (consR L.length fun i => (L.getD i Con.zero).rvs) = L, Dec (trG (partsM L) L).isSome false, (∀ (i : Nat), i < L.length → (fun i => (L.getD i Con.zero).rvs) i = (Con.ofR ((fun i => (L.getD i Con.zero).rvs) i)).rvs) ∧ okE (consR L.length fun i => (L.getD i Con.zero).rvs), (0 : Nat) < L.length ∧ L.length ≤ (1000000 : Nat), ∀ (i : Nat), i < L.length → (fun i => (L.getD i Con.zero).rvs) i = (Con.ofR ((fun i => (L.getD i Con.zero).rvs) i)).rvs, Dec (L.length.beq (0 : Nat)) false, (0 : Nat) < L.length, Dec (!fusM (2 : Int) (consR L.length fun i => (L.getD i Con.zero).rvs)) false, (∀ (i : Nat), i < L.length → (fun i => (L.getD i Con.zero).rvs) i = (Con.ofR ((fun i => (L.getD i Con.zero).rvs) i)).rvs) ∧ L.length ≤ (1000 : Nat)] (by kernel_rfl) ⟨?_, ?_, ?_, ?_, ?_, ?_, ?_, k3, ?_, ?_, ?_, k2, ?_, (dN k1), (?_ : (∀ (i : Nat), i < L.length → (fun i => (L.getD i Con.zero).rvs) i = (Con.ofR ((fun i => (L.getD i Con.zero).rvs) i)).rvs) ∧ L.length ≤ (1000 : Nat))⟩
  all_goals first | (first | (with_reducible rfl) | exact ⟨rfl, rfl⟩ | exact consR_ro L | exact ⟨hne, by omega⟩ | exact hne | exact fun _ _ => rfl | exact ⟨fun _ _ => rfl, by rw [consR_ro]; exact hL.e⟩ | exact ⟨fun _ _ => rfl, hl⟩ | (rw [consR_ro]; first | done | rfl | exact ⟨rfl, rfl⟩) | exact (5 : Nat))
set_option maxRecDepth 100000 in
theorem tref_no (p : Int) (L : List Con) (hn : L.length ≤ 1000) (hv : fusM p L = false) : PureC Tryz.prog [] 36 [.agg [.int .i64 p, roC L]] (.tup [.agg [.int .i64 0, roC []], .bool false]) := by
  have k1 : fusM p (consR L.length fun i => (L.getD i Con.zero).rvs) = false := (by rw [consR_ro]; exact hv)
  have rr := fun (tp : List Bool) (ms : List Prop) h hm => pure_run evOk (callF_ok evOk (orcOf_ok entsTR_ok) 8) Tryz.func36 (A := [.agg [.int .i64 p, roC L]]) rfl none_ann rfl rfl evNg (tabs := []) (R := .tup [.agg [.int .i64 0, roC []], .bool false]) (tp := tp) (ms := ms) h hm
  refine rr [true] [(0 : Int) = (0 : Int), (0 : Nat) = (0 : Nat), false = false, Dec (!fusM p (consR L.length fun i => (L.getD i Con.zero).rvs)) true, (∀ (i : Nat), i < L.length → (fun i => (L.getD i Con.zero).rvs) i = (Con.ofR ((fun i => (L.getD i Con.zero).rvs) i)).rvs) ∧ L.length ≤ (1000 : Nat)] (by kernel_rfl) ⟨?_, ?_, ?_, (dN k1), (?_ : (∀ (i : Nat), i < L.length → (fun i => (L.getD i Con.zero).rvs) i = (Con.ofR ((fun i => (L.getD i Con.zero).rvs) i)).rvs) ∧ L.length ≤ (1000 : Nat))⟩
  all_goals first | (first | rfl | exact ⟨rfl, rfl⟩ | exact ⟨fun _ _ => rfl, hn⟩)
theorem tref_pure (p : Int) (L : List Con) (hn : L.length ≤ 1000) : PureC Tryz.prog [] 36 [.agg [.int .i64 p, roC L]] (.tup [.agg [.int .i64 (bP (rfB p L)), roC (bL (rfB p L) (rfL L))], .bool (rfB p L)]) := by
  unfold rfB
  cases h : fusM p L with
  | false => exact tref_no p L hn h
  | true =>
    have := fus_p h
    subst this
    cases hr : refM L with
    | none => exact tref_none L h hr
    | some R =>
      have e : rfL L = R := by unfold rfL; rw [hr]; rfl
      rw [e]
      exact tref_yes L R h hr (refM_len hr)
end Go.Proofs.YtcfdaddablojlaaGreatDoor.S

/- The trains: quadformref26.Chains, train.trains; Compartments and Trains. -/
set_option linter.unusedSimpArgs false
set_option linter.unusedVariables false
namespace Go.Proofs.YtcfdaddablojlaaGreatDoor.S
open Go.QfSy Go.RowKit

def linkJ (L : List Con) (k : Nat) : Bool := decide (0 < k) && linkM L k
def chA (L : List Con) (k : Nat) : Acc := grpA (fun _ => true) (linkJ L) k
def chainsM (L : List Con) : List (List Int) := allA (chA L L.length)
noncomputable def chFin (L : List Con) : List (List Int) := (chA L L.length).1
noncomputable def chLst (L : List Con) : List Int := (chA L L.length).2.getD []
def chI (L : List Con) (i : Nat × List (List Int) × Option (List Int)) : Prop := i.1 ≤ L.length ∧ chA L i.1 = i.2
theorem chI_ok {L : List Con} {i : Nat × List (List Int) × Option (List Int)} (h : chI L i) : GrpOk (fun _ => true) i.1 i.2 := by rw [← h.2]; exact grp_ok _ _ _
theorem chI_none {L : List Con} {k : Nat} {F : List (List Int)} (h : chI L (k, F, none)) : k = 0 := by
  have := ((chI_ok h).none rfl).2
  rcases Nat.eq_zero_or_pos k with h0 | h0
  · exact h0
  · exact absurd (this 0 h0) (by decide)
theorem chI_one {L : List Con} {k : Nat} {F : List (List Int)} (h : chI L (k, F, none)) (hk : k < L.length) : chI L (k + 1, [], some [(k : Int)]) := by
  have hF : F = [] := ((chI_ok h).none rfl).1
  subst hF
  refine ⟨hk, ?_⟩
  show grpS true (linkJ L k) k (chA L k) = _
  rw [h.2]; rfl
theorem chI_app {L : List Con} {k : Nat} {F : List (List Int)} {l : List Int} (h : chI L (k, F, some l)) (hk : k < L.length) (h0 : 0 < k) (hj : linkM L k = true) : chI L (k + 1, F, some (l ++ [(k : Int)])) := by
  refine ⟨hk, ?_⟩
  show grpS true (linkJ L k) k (chA L k) = _
  rw [h.2, linkJ, hj, decide_eq_true h0]; rfl
theorem chI_new1 {L : List Con} {k : Nat} {F : List (List Int)} {l : List Int} (h : chI L (k, F, some l)) (hk : k < L.length) (h0 : ¬ 0 < k) : chI L (k + 1, F ++ [l], some [(k : Int)]) := by
  refine ⟨hk, ?_⟩
  show grpS true (linkJ L k) k (chA L k) = _
  rw [h.2, linkJ, decide_eq_false h0]; rfl
theorem chI_new2 {L : List Con} {k : Nat} {F : List (List Int)} {l : List Int} (h : chI L (k, F, some l)) (hk : k < L.length) (hj : linkM L k = false) : chI L (k + 1, F ++ [l], some [(k : Int)]) := by
  refine ⟨hk, ?_⟩
  show grpS true (linkJ L k) k (chA L k) = _
  rw [h.2, linkJ, hj, Bool.and_false]; rfl
theorem chI_fin {L : List Con} {k : Nat} {F : List (List Int)} {l : List Int} (h : chI L (k, F, some l)) (hk : L.length ≤ k) : chFin L = F ∧ chLst L = l := by
  have h1 : k ≤ L.length := h.1
  have : k = L.length := by omega
  subst this
  unfold chFin chLst
  rw [h.2]
  exact ⟨rfl, rfl⟩
theorem chains_cons {L : List Con} (h : 0 < L.length) : chainsM L = chFin L ++ [chLst L] := by
  unfold chainsM chFin chLst
  generalize hc : chA L L.length = a
  obtain ⟨F, o⟩ := a
  cases o with
  | none => have := chI_none (L := L) (k := L.length) (F := F) ⟨Nat.le_refl _, hc⟩; omega
  | some l => rfl
theorem chains_rows {L : List Con} : ∀ l ∈ chainsM L, l ≠ [] ∧ inR L.length l ∧ l.length ≤ L.length := (grp_ok (fun _ => true) (linkJ L) L.length).rows
theorem chains_len {L : List Con} : (chainsM L).length ≤ L.length := (grp_ok (fun _ => true) (linkJ L) L.length).len
noncomputable def chB (L : List Con) (b : Nat) : List (Nat × Blk) := [(b, ⟨.rows .i64 (chFin L) (b + 1) (chLst L).length, 47, 1, true, true⟩), (b + 1, ⟨.ints .i64 (chLst L), 3, 1, true, true⟩)]
noncomputable def rcAnn (L : List Con) : Ann := ⟨⟨[(0, (roC L).av), (3, .nils), (6, .vint .i64 L.length), (7, .int .i64 0)], [], 1000⟩, none, fun _ => (.exit 0, ⟨[(3, .lo 1001 ((chFin L).length + 1))], chB L 1001, 1010⟩)⟩
noncomputable def rcS (L : List Con) : Nat × List (List Int) × Option (List Int) → St
  | (k, _, none) => ⟨[(0, (roC L).av), (3, .nils), (6, .vint .i64 L.length), (7, .vint .i64 (k : Int))], [], 1010⟩
  | (k, F, some l) => ⟨[(0, (roC L).av), (3, .lo 1001 (F.length + 1)), (6, .vint .i64 L.length), (7, .vint .i64 (k : Int))], [(1001, ⟨.rows .i64 F 1002 l.length, 47, 1, true, true⟩), (1002, ⟨.ints .i64 l, 3, 1, true, true⟩)], 1010⟩
set_option maxRecDepth 100000 in
theorem rc_loop (L : List Con) (hL : okL L) (hne : 0 < L.length) : AnnOk Tryz.prog EV.ng (Nat.max 1 Tryz.f58.ntmps) (bodyAt Tryz.f58 [0, 1, 0, 1, 1]) (rcAnn L) := by
  refine ann_of evOk (callF_ok evOk (orcOf_ok entsR3_ok) 8) none_ann (by kernel_rfl) (by kernel_rfl) (rcS L) (fun i => L.length - i.1) (fun _ i => chI L i) ?_ ?_
  · intro d hd
    exact ⟨(0, [], none), [L.length = L.length ∧ (fun i => (L.getD i Con.zero).rvs) = fun i => (L.getD i Con.zero).rvs, (↑L.length : Int) = (↑L.length : Int), (0 : Int) = (↑(0 : Nat) : Int)], by kernel_rfl, (by refine ⟨?_, ?_, (?_ : (0 : Int) = (↑(0 : Nat) : Int))⟩ <;> (first | rfl | assumption | omega | simp_all)), (by exact ⟨Nat.zero_le _, rfl⟩)⟩
  · rintro d hd ⟨k, F, o⟩ hI
    cases d
    · -- d = false
      exact Bool.noConfusion (show false = true from hd)
    · -- d = true
      have hG := chI_ok hI
      have hk : k ≤ L.length := hI.1
      have hl := hL.1
      have ek : IntKind.i64.wrap ((k : Int) + 1) = ((k + 1 : Nat) : Int) := by rw [w64 (by omega) (by omega)]; omega
      have em : IntKind.i64.wrap ((k : Int) - 1) = (k : Int) - 1 := w64 (by omega) (by omega)
      have hFk : F.length ≤ k := by have := hG.len; cases o <;> simp [allA] at this <;> omega
      have eF : IntKind.i64.wrap (((F.length + 1 : Nat) : Int) - 1) = (F.length : Int) := by rw [w64 (by omega) (by omega)]; omega
      rcases o with _ | l
      · -- 1
        refine Or.elim (Bool.eq_false_or_eq_true (decide ((↑k : Int) < (↑L.length : Int)))) (fun d1 => Or.elim (Bool.eq_false_or_eq_true (decide ((↑k : Int) > (0 : Int)))) (fun d2 => GnG.no ?_)
           (fun d2 => ⟨[true, false], .inl ⟨(k + 1, [], some [(k : Int)]), [L.length = L.length ∧ (fun i => (L.getD i Con.zero).rvs) = fun i => (L.getD i Con.zero).rvs, (1 : Nat) = (0 : Nat) + (1 : Nat), (↑L.length : Int) = (↑L.length : Int), IntKind.i64.wrap ((↑k : Int) + (1 : Int)) = (↑(k + (1 : Nat)) : Int), ([] : List (List Int)) = [] ∧ (1 : Nat) = [(↑k : Int)].length, [(↑k : Int)] = [(↑k : Int)], Dec (decide ((↑k : Int) > (0 : Int))) false, Dec (decide ((↑k : Int) < (↑L.length : Int))) true], by kernel_rfl, ⟨?_, ?_, ?_, ?_, ?_, ?_, d2, d1⟩, MuG.out ?_, InG.out ?_⟩⟩))
           (fun d1 => CtG.no ?_)
        all_goals first | (refine MuG.mk ?_; (simp only [decide_eq_true_eq, decide_eq_false_iff_not] at *; show L.length - (k + 1) < L.length - k; omega)) | (refine InG.mk ?_; (simp only [consR_ro, Int.toNat_natCast, decide_eq_true_eq, decide_eq_false_iff_not, gt_iff_lt] at *; first | exact chI_one hI (by omega) | exact chI_app hI (by omega) (by omega) d3 | exact chI_new1 hI (by omega) (by omega) | exact chI_new2 hI (by omega) d3)) | (refine CtG.mk ?_; (simp only [decide_eq_true_eq, decide_eq_false_iff_not, gt_iff_lt] at *; have := chI_none hI; omega)) | (refine GnG.mk ?_; (simp only [decide_eq_true_eq, decide_eq_false_iff_not, gt_iff_lt] at *; have := chI_none hI; omega)) | (first | (with_reducible rfl) | exact ⟨rfl, rfl⟩ | ((try simp only [em, ek, eF, consR_ro, Int.toNat_natCast, decide_eq_true_eq, decide_eq_false_iff_not, gt_iff_lt, View.num] at *) <;> first | omega | exact ⟨rfl, rfl⟩ | exact ⟨fun _ _ => rfl, hL, by omega, by omega⟩ | (have := (hG.rows l (by simp [allA])).2.2; exact ⟨by trivial, by omega⟩) | (rw [(chI_fin hI (by omega)).1]; done) | (rw [(chI_fin hI (by omega)).2]; done) | (rw [(chI_fin hI (by omega)).1, (chI_fin hI (by omega)).2]; exact ⟨rfl, rfl⟩) | (simp; done) | (exfalso; have := chI_none hI; omega)))
      · -- 2
        refine Or.elim (Bool.eq_false_or_eq_true (decide ((↑k : Int) < (↑L.length : Int)))) (fun d1 => Or.elim (Bool.eq_false_or_eq_true (decide ((↑k : Int) > (0 : Int)))) (fun d2 => Or.elim (Bool.eq_false_or_eq_true (linkM (consR L.length fun i => (L.getD i Con.zero).rvs) k)) (fun d3 => ⟨[true, true, true], .inl ⟨(k + 1, F, some (l ++ [(k : Int)])), [L.length = L.length ∧ (fun i => (L.getD i Con.zero).rvs) = fun i => (L.getD i Con.zero).rvs, F.length + (1 : Nat) = F.length + (1 : Nat), (↑L.length : Int) = (↑L.length : Int), IntKind.i64.wrap ((↑k : Int) + (1 : Int)) = (↑(k + (1 : Nat)) : Int), F = F ∧ l.length + (1 : Nat) = (l ++ [(↑k : Int)]).length, l ++ [(↑k : Int)] = l ++ [(↑k : Int)], (IntKind.i64.wrap ((↑(F.length + (1 : Nat)) : Int) - (1 : Int))).toNat = F.length, (0 : Int) ≤ IntKind.i64.wrap ((↑(F.length + (1 : Nat)) : Int) - (1 : Int)) ∧ IntKind.i64.wrap ((↑(F.length + (1 : Nat)) : Int) - (1 : Int)) < (↑(F.length + (1 : Nat)) : Int), (View.ints IntKind.i64 l).num = l.length ∧ l.length + (1 : Nat) ≤ (1000000 : Nat), (IntKind.i64.wrap ((↑(F.length + (1 : Nat)) : Int) - (1 : Int))).toNat = F.length, (0 : Int) ≤ IntKind.i64.wrap ((↑(F.length + (1 : Nat)) : Int) - (1 : Int)) ∧ IntKind.i64.wrap ((↑(F.length + (1 : Nat)) : Int) - (1 : Int)) < (↑(F.length + (1 : Nat)) : Int), Dec (linkM (consR L.length fun i => (L.getD i Con.zero).rvs) k) true, (∀ (i : Nat), i < L.length → (fun i => (L.getD i Con.zero).rvs) i = (Con.ofR ((fun i => (L.getD i Con.zero).rvs) i)).rvs) ∧ okL (consR L.length fun i => (L.getD i Con.zero).rvs) ∧ (1 : Int) ≤ (↑k : Int) ∧ (↑k : Int) < (↑L.length : Int), Dec (decide ((↑k : Int) > (0 : Int))) true, Dec (decide ((↑k : Int) < (↑L.length : Int))) true], by kernel_rfl, ⟨?_, ?_, ?_, ?_, ?_, ?_, ?_, ?_, ?_, ?_, ?_, d3, ?_, d2, d1⟩, MuG.out ?_, InG.out ?_⟩⟩)
           (fun d3 => ⟨[true, true, false], .inl ⟨(k + 1, F ++ [l], some [(k : Int)]), [L.length = L.length ∧ (fun i => (L.getD i Con.zero).rvs) = fun i => (L.getD i Con.zero).rvs, F.length + (1 : Nat) + (1 : Nat) = (F ++ [l]).length + (1 : Nat), (↑L.length : Int) = (↑L.length : Int), IntKind.i64.wrap ((↑k : Int) + (1 : Int)) = (↑(k + (1 : Nat)) : Int), F ++ [l] = F ++ [l] ∧ (1 : Nat) = [(↑k : Int)].length, [(↑k : Int)] = [(↑k : Int)], F.length + (1 : Nat) + (1 : Nat) ≤ (1000000 : Nat), F.length + (1 : Nat) = F.length + (1 : Nat) ∧ l.length = l.length, Dec (linkM (consR L.length fun i => (L.getD i Con.zero).rvs) k) false, (∀ (i : Nat), i < L.length → (fun i => (L.getD i Con.zero).rvs) i = (Con.ofR ((fun i => (L.getD i Con.zero).rvs) i)).rvs) ∧ okL (consR L.length fun i => (L.getD i Con.zero).rvs) ∧ (1 : Int) ≤ (↑k : Int) ∧ (↑k : Int) < (↑L.length : Int), Dec (decide ((↑k : Int) > (0 : Int))) true, Dec (decide ((↑k : Int) < (↑L.length : Int))) true], by kernel_rfl, ⟨?_, ?_, ?_, ?_, ?_, ?_, ?_, ?_, d3, ?_, d2, d1⟩, MuG.out ?_, InG.out ?_⟩⟩))
           (fun d2 => ⟨[true, false], .inl ⟨(k + 1, F ++ [l], some [(k : Int)]), [L.length = L.length ∧ (fun i => (L.getD i Con.zero).rvs) = fun i => (L.getD i Con.zero).rvs, F.length + (1 : Nat) + (1 : Nat) = (F ++ [l]).length + (1 : Nat), (↑L.length : Int) = (↑L.length : Int), IntKind.i64.wrap ((↑k : Int) + (1 : Int)) = (↑(k + (1 : Nat)) : Int), F ++ [l] = F ++ [l] ∧ (1 : Nat) = [(↑k : Int)].length, [(↑k : Int)] = [(↑k : Int)], F.length + (1 : Nat) + (1 : Nat) ≤ (1000000 : Nat), F.length + (1 : Nat) = F.length + (1 : Nat) ∧ l.length = l.length, Dec (decide ((↑k : Int) > (0 : Int))) false, Dec (decide ((↑k : Int) < (↑L.length : Int))) true], by kernel_rfl, ⟨?_, ?_, ?_, ?_, ?_, ?_, ?_, ?_, d2, d1⟩, MuG.out ?_, InG.out ?_⟩⟩))
           (fun d1 => ⟨[false], .inr ⟨[F.length + (1 : Nat) = (chFin L).length + (1 : Nat), F = chFin L ∧ l.length = (chLst L).length, l = chLst L, Dec (decide ((↑k : Int) < (↑L.length : Int))) false], by kernel_rfl, ⟨?_, ?_, ?_, d1⟩, rfl⟩⟩)
        all_goals first | (refine MuG.mk ?_; (simp only [decide_eq_true_eq, decide_eq_false_iff_not] at *; show L.length - (k + 1) < L.length - k; omega)) | (refine InG.mk ?_; (simp only [consR_ro, Int.toNat_natCast, decide_eq_true_eq, decide_eq_false_iff_not, gt_iff_lt] at *; first | exact chI_one hI (by omega) | exact chI_app hI (by omega) (by omega) d3 | exact chI_new1 hI (by omega) (by omega) | exact chI_new2 hI (by omega) d3)) | (refine CtG.mk ?_; (simp only [decide_eq_true_eq, decide_eq_false_iff_not, gt_iff_lt] at *; have := chI_none hI; omega)) | (refine GnG.mk ?_; (simp only [decide_eq_true_eq, decide_eq_false_iff_not, gt_iff_lt] at *; have := chI_none hI; omega)) | (first | (with_reducible rfl) | exact ⟨rfl, rfl⟩ | ((try simp only [em, ek, eF, consR_ro, Int.toNat_natCast, decide_eq_true_eq, decide_eq_false_iff_not, gt_iff_lt, View.num] at *) <;> first | omega | exact ⟨rfl, rfl⟩ | exact ⟨fun _ _ => rfl, hL, by omega, by omega⟩ | (have := (hG.rows l (by simp [allA])).2.2; exact ⟨by trivial, by omega⟩) | (rw [(chI_fin hI (by omega)).1]; done) | (rw [(chI_fin hI (by omega)).2]; done) | (rw [(chI_fin hI (by omega)).1, (chI_fin hI (by omega)).2]; exact ⟨rfl, rfl⟩) | (simp; done) | (exfalso; have := chI_none hI; omega)))
noncomputable def ctH (p : Int) (L : List Con) : List (Nat × Blk) := [(1000, ⟨.plain [.vint .i64 p, (roC L).av], 24, 0, false, true⟩), (1001, ⟨.plain [.fn 78 [], .fn 79 [.ptr 1000 0]], 82, 0, false, true⟩)]
noncomputable def ctAnn (p : Int) (L : List Con) : Ann := ⟨⟨[(3, .ptr 1001 0), (5, .nils), (8, .vint .i64 L.length), (9, .int .i64 0)], ctH p L, 1002⟩, none, fun _ => (.exit 0, ⟨[(5, .lo 1003 ((chFin L).length + 1))], chB L 1003, 1010⟩)⟩
noncomputable def ctS (p : Int) (L : List Con) : Nat × List (List Int) × Option (List Int) → St
  | (k, _, none) => ⟨[(3, .ptr 1001 0), (5, .nils), (8, .vint .i64 L.length), (9, .vint .i64 (k : Int))], ctH p L, 1010⟩
  | (k, F, some l) => ⟨[(3, .ptr 1001 0), (5, .lo 1003 (F.length + 1)), (8, .vint .i64 L.length), (9, .vint .i64 (k : Int))], ctH p L ++ [(1003, ⟨.rows .i64 F 1004 l.length, 47, 1, true, true⟩), (1004, ⟨.ints .i64 l, 3, 1, true, true⟩)], 1010⟩
set_option maxRecDepth 100000 in
theorem ct_loop (p : Int) (L : List Con) (hL : okL L) (hne : 0 < L.length) : AnnOk Tryz.prog EV.ng (Nat.max 2 Tryz.f71.ntmps) (bodyAt Tryz.f71 [0, 1, 0, 1, 1]) (ctAnn p L) := by
  refine ann_of evOk (callF_ok evOk (orcOf_ok entsT3_ok) 8) none_ann (by kernel_rfl) (by kernel_rfl) (ctS p L) (fun i => L.length - i.1) (fun _ i => chI L i) ?_ ?_
  · intro d hd
    exact ⟨(0, [], none), [(↑L.length : Int) = (↑L.length : Int), (0 : Int) = (↑(0 : Nat) : Int), p = p, L.length = L.length ∧ (fun i => (L.getD i Con.zero).rvs) = fun i => (L.getD i Con.zero).rvs], by kernel_rfl, (by refine ⟨?_, ?_, ?_, (?_ : L.length = L.length ∧ (fun i => (L.getD i Con.zero).rvs) = fun i => (L.getD i Con.zero).rvs)⟩ <;> (first | rfl | assumption | omega | simp_all)), (by exact ⟨Nat.zero_le _, rfl⟩)⟩
  · rintro d hd ⟨k, F, o⟩ hI
    cases d
    · -- d = false
      exact Bool.noConfusion (show false = true from hd)
    · -- d = true
      have hG := chI_ok hI
      have hk : k ≤ L.length := hI.1
      have hl := hL.1
      have ek : IntKind.i64.wrap ((k : Int) + 1) = ((k + 1 : Nat) : Int) := by rw [w64 (by omega) (by omega)]; omega
      have em : IntKind.i64.wrap ((k : Int) - 1) = (k : Int) - 1 := w64 (by omega) (by omega)
      have hFk : F.length ≤ k := by have := hG.len; cases o <;> simp [allA] at this <;> omega
      have eF : IntKind.i64.wrap (((F.length + 1 : Nat) : Int) - 1) = (F.length : Int) := by rw [w64 (by omega) (by omega)]; omega
      rcases o with _ | l
      · -- 1
        refine Or.elim (Bool.eq_false_or_eq_true (decide ((↑k : Int) < (↑L.length : Int)))) (fun d1 => Or.elim (Bool.eq_false_or_eq_true (decide ((↑k : Int) > (0 : Int)))) (fun d2 => GnG.no ?_)
           (fun d2 => ⟨[true, false], .inl ⟨(k + 1, [], some [(k : Int)]), [(1 : Nat) = (0 : Nat) + (1 : Nat), (↑L.length : Int) = (↑L.length : Int), IntKind.i64.wrap ((↑k : Int) + (1 : Int)) = (↑(k + (1 : Nat)) : Int), p = p, L.length = L.length ∧ (fun i => (L.getD i Con.zero).rvs) = fun i => (L.getD i Con.zero).rvs, ([] : List (List Int)) = [] ∧ (1 : Nat) = [(↑k : Int)].length, [(↑k : Int)] = [(↑k : Int)], Dec (decide ((↑k : Int) > (0 : Int))) false, Dec (decide ((↑k : Int) < (↑L.length : Int))) true], by kernel_rfl, ⟨?_, ?_, ?_, ?_, ?_, ?_, ?_, d2, d1⟩, MuG.out ?_, InG.out ?_⟩⟩))
           (fun d1 => CtG.no ?_)
        all_goals first | (refine MuG.mk ?_; (simp only [decide_eq_true_eq, decide_eq_false_iff_not] at *; show L.length - (k + 1) < L.length - k; omega)) | (refine InG.mk ?_; (simp only [consR_ro, Int.toNat_natCast, decide_eq_true_eq, decide_eq_false_iff_not, gt_iff_lt] at *; first | exact chI_one hI (by omega) | exact chI_app hI (by omega) (by omega) d3 | exact chI_new1 hI (by omega) (by omega) | exact chI_new2 hI (by omega) d3)) | (refine CtG.mk ?_; (simp only [decide_eq_true_eq, decide_eq_false_iff_not, gt_iff_lt] at *; have := chI_none hI; omega)) | (refine GnG.mk ?_; (simp only [decide_eq_true_eq, decide_eq_false_iff_not, gt_iff_lt] at *; have := chI_none hI; omega)) | (first | (with_reducible rfl) | exact ⟨rfl, rfl⟩ | ((try simp only [em, ek, eF, consR_ro, Int.toNat_natCast, decide_eq_true_eq, decide_eq_false_iff_not, gt_iff_lt, View.num] at *) <;> first | omega | exact ⟨rfl, rfl⟩ | exact ⟨fun _ _ => rfl, hL, by omega, by omega⟩ | (have := (hG.rows l (by simp [allA])).2.2; exact ⟨by trivial, by omega⟩) | (rw [(chI_fin hI (by omega)).1]; done) | (rw [(chI_fin hI (by omega)).2]; done) | (rw [(chI_fin hI (by omega)).1, (chI_fin hI (by omega)).2]; exact ⟨rfl, rfl⟩) | (simp; done) | (exfalso; have := chI_none hI; omega)))
      · -- 2
        refine Or.elim (Bool.eq_false_or_eq_true (decide ((↑k : Int) < (↑L.length : Int)))) (fun d1 => Or.elim (Bool.eq_false_or_eq_true (decide ((↑k : Int) > (0 : Int)))) (fun d2 => Or.elim (Bool.eq_false_or_eq_true (linkM (consR L.length fun i => (L.getD i Con.zero).rvs) k)) (fun d3 => ⟨[true, true, true], .inl ⟨(k + 1, F, some (l ++ [(k : Int)])), [F.length + (1 : Nat) = F.length + (1 : Nat), (↑L.length : Int) = (↑L.length : Int), IntKind.i64.wrap ((↑k : Int) + (1 : Int)) = (↑(k + (1 : Nat)) : Int), p = p, L.length = L.length ∧ (fun i => (L.getD i Con.zero).rvs) = fun i => (L.getD i Con.zero).rvs, F = F ∧ l.length + (1 : Nat) = (l ++ [(↑k : Int)]).length, l ++ [(↑k : Int)] = l ++ [(↑k : Int)], (IntKind.i64.wrap ((↑(F.length + (1 : Nat)) : Int) - (1 : Int))).toNat = F.length, (0 : Int) ≤ IntKind.i64.wrap ((↑(F.length + (1 : Nat)) : Int) - (1 : Int)) ∧ IntKind.i64.wrap ((↑(F.length + (1 : Nat)) : Int) - (1 : Int)) < (↑(F.length + (1 : Nat)) : Int), (View.ints IntKind.i64 l).num = l.length ∧ l.length + (1 : Nat) ≤ (1000000 : Nat), (IntKind.i64.wrap ((↑(F.length + (1 : Nat)) : Int) - (1 : Int))).toNat = F.length, (0 : Int) ≤ IntKind.i64.wrap ((↑(F.length + (1 : Nat)) : Int) - (1 : Int)) ∧ IntKind.i64.wrap ((↑(F.length + (1 : Nat)) : Int) - (1 : Int)) < (↑(F.length + (1 : Nat)) : Int), Dec (linkM (consR L.length fun i => (L.getD i Con.zero).rvs) k) true, (∀ (i : Nat), i < L.length → (fun i => (L.getD i Con.zero).rvs) i = (Con.ofR ((fun i => (L.getD i Con.zero).rvs) i)).rvs) ∧ okL (consR L.length fun i => (L.getD i Con.zero).rvs) ∧ (1 : Int) ≤ (↑k : Int) ∧ (↑k : Int) < (↑L.length : Int), Dec (decide ((↑k : Int) > (0 : Int))) true, Dec (decide ((↑k : Int) < (↑L.length : Int))) true], by kernel_rfl, ⟨?_, ?_, ?_, ?_, ?_, ?_, ?_, ?_, ?_, ?_, ?_, ?_, d3, ?_, d2, d1⟩, MuG.out ?_, InG.out ?_⟩⟩)
           (fun d3 => ⟨[true, true, false], .inl ⟨(k + 1, F ++ [l], some [(k : Int)]), [F.length + (1 : Nat) + (1 : Nat) = (F ++ [l]).length + (1 : Nat), (↑L.length : Int) = (↑L.length : Int), IntKind.i64.wrap ((↑k : Int) + (1 : Int)) = (↑(k + (1 : Nat)) : Int), p = p, L.length = L.length ∧ (fun i => (L.getD i Con.zero).rvs) = fun i => (L.getD i Con.zero).rvs, F ++ [l] = F ++ [l] ∧ (1 : Nat) = [(↑k : Int)].length, [(↑k : Int)] = [(↑k : Int)], F.length + (1 : Nat) + (1 : Nat) ≤ (1000000 : Nat), F.length + (1 : Nat) = F.length + (1 : Nat) ∧ l.length = l.length, Dec (linkM (consR L.length fun i => (L.getD i Con.zero).rvs) k) false, (∀ (i : Nat), i < L.length → (fun i => (L.getD i Con.zero).rvs) i = (Con.ofR ((fun i => (L.getD i Con.zero).rvs) i)).rvs) ∧ okL (consR L.length fun i => (L.getD i Con.zero).rvs) ∧ (1 : Int) ≤ (↑k : Int) ∧ (↑k : Int) < (↑L.length : Int), Dec (decide ((↑k : Int) > (0 : Int))) true, Dec (decide ((↑k : Int) < (↑L.length : Int))) true], by kernel_rfl, ⟨?_, ?_, ?_, ?_, ?_, ?_, ?_, ?_, ?_, d3, ?_, d2, d1⟩, MuG.out ?_, InG.out ?_⟩⟩))
           (fun d2 => ⟨[true, false], .inl ⟨(k + 1, F ++ [l], some [(k : Int)]), [F.length + (1 : Nat) + (1 : Nat) = (F ++ [l]).length + (1 : Nat), (↑L.length : Int) = (↑L.length : Int), IntKind.i64.wrap ((↑k : Int) + (1 : Int)) = (↑(k + (1 : Nat)) : Int), p = p, L.length = L.length ∧ (fun i => (L.getD i Con.zero).rvs) = fun i => (L.getD i Con.zero).rvs, F ++ [l] = F ++ [l] ∧ (1 : Nat) = [(↑k : Int)].length, [(↑k : Int)] = [(↑k : Int)], F.length + (1 : Nat) + (1 : Nat) ≤ (1000000 : Nat), F.length + (1 : Nat) = F.length + (1 : Nat) ∧ l.length = l.length, Dec (decide ((↑k : Int) > (0 : Int))) false, Dec (decide ((↑k : Int) < (↑L.length : Int))) true], by kernel_rfl, ⟨?_, ?_, ?_, ?_, ?_, ?_, ?_, ?_, ?_, d2, d1⟩, MuG.out ?_, InG.out ?_⟩⟩))
           (fun d1 => ⟨[false], .inr ⟨[F.length + (1 : Nat) = (chFin L).length + (1 : Nat), F = chFin L ∧ l.length = (chLst L).length, l = chLst L, Dec (decide ((↑k : Int) < (↑L.length : Int))) false], by kernel_rfl, ⟨?_, ?_, ?_, d1⟩, rfl⟩⟩)
        all_goals first | (refine MuG.mk ?_; (simp only [decide_eq_true_eq, decide_eq_false_iff_not] at *; show L.length - (k + 1) < L.length - k; omega)) | (refine InG.mk ?_; (simp only [consR_ro, Int.toNat_natCast, decide_eq_true_eq, decide_eq_false_iff_not, gt_iff_lt] at *; first | exact chI_one hI (by omega) | exact chI_app hI (by omega) (by omega) d3 | exact chI_new1 hI (by omega) (by omega) | exact chI_new2 hI (by omega) d3)) | (refine CtG.mk ?_; (simp only [decide_eq_true_eq, decide_eq_false_iff_not, gt_iff_lt] at *; have := chI_none hI; omega)) | (refine GnG.mk ?_; (simp only [decide_eq_true_eq, decide_eq_false_iff_not, gt_iff_lt] at *; have := chI_none hI; omega)) | (first | (with_reducible rfl) | exact ⟨rfl, rfl⟩ | ((try simp only [em, ek, eF, consR_ro, Int.toNat_natCast, decide_eq_true_eq, decide_eq_false_iff_not, gt_iff_lt, View.num] at *) <;> first | omega | exact ⟨rfl, rfl⟩ | exact ⟨fun _ _ => rfl, hL, by omega, by omega⟩ | (have := (hG.rows l (by simp [allA])).2.2; exact ⟨by trivial, by omega⟩) | (rw [(chI_fin hI (by omega)).1]; done) | (rw [(chI_fin hI (by omega)).2]; done) | (rw [(chI_fin hI (by omega)).1, (chI_fin hI (by omega)).2]; exact ⟨rfl, rfl⟩) | (simp; done) | (exfalso; have := chI_none hI; omega)))
noncomputable def orcCt (p : Int) (L : List Con) : CallF := orcB EV (callF EV (orcOf EV.ng entsT3) 8) 71 2 [([0, 1, 0, 1, 1], ctAnn p L)] noOrc
theorem orcCt_ok (p : Int) (L : List Con) (hL : okL L) (hne : 0 < L.length) : CallOk Tryz.prog EV.ng (orcCt p L) := orcB_ok evOk (callF_ok evOk (orcOf_ok entsT3_ok) 8) Tryz.func71 (one_ann (ct_loop p L hL hne)) (noOrc_ok _ _)
set_option maxRecDepth 100000 in
theorem ttrains_pure (p : Int) (L : List Con) (hL : okL L) (hne : 0 < L.length) : PureC Tryz.prog [] 57 [.agg [.int .i64 p, roC L]] (roR .i64 (chainsM L)) := by
  have rr := fun (tp : List Bool) (ms : List Prop) h hm => pure_run evOk (callF_ok evOk (orcCt_ok p L hL hne) 4) Tryz.func57 (A := [.agg [.int .i64 p, roC L]]) rfl none_ann rfl rfl evNg (tabs := []) (R := roR .i64 (chainsM L)) (tp := tp) (ms := ms) h hm
  refine rr [] [(chFin L).length + (1 : Nat) = (chainsM L).length ∧ (chFin L).length + (1 : Nat) = (chFin L).length + (1 : Nat) ∧ (chLst L).length = (chLst L).length ∧ ∀ (i : Nat), i < (chFin L).length + (1 : Nat) → (fun i => [rI IntKind.i64 ((chainsM L).getD i [])]) i = [rI IntKind.i64 ((chFin L ++ [chLst L]).getD i [])], (↑L.length : Int) = (↑L.length : Int), p = p, L.length = L.length ∧ (fun i => (L.getD i Con.zero).rvs) = fun i => (L.getD i Con.zero).rvs] (by kernel_rfl) ⟨?_, ?_, ?_, (?_ : L.length = L.length ∧ (fun i => (L.getD i Con.zero).rvs) = fun i => (L.getD i Con.zero).rvs)⟩
  all_goals first | (first | (with_reducible rfl) | exact ⟨rfl, rfl⟩ | (rw [chains_cons hne]; exact ⟨by simp, rfl, rfl, fun i _ => rfl⟩))
end Go.Proofs.YtcfdaddablojlaaGreatDoor.S

/- Compartments and Trains, of package train and of the reference; sameParts. -/
set_option linter.unusedSimpArgs false
set_option linter.unusedVariables false
namespace Go.Proofs.YtcfdaddablojlaaGreatDoor.S
open Go.QfSy Go.RowKit

noncomputable def entsJT : List OEnt := (entsT3 ++ entsVC) ++ [
  ⟨57, [], fun A => match A with
    | [.agg [.int .i64 p, .sl n 5 row]] => some (roR .i64 (chainsM (consR n row)), [(∀ i, i < n → row i = (Con.ofR (row i)).rvs) ∧ okL (consR n row) ∧ 0 < n])
    | _ => none⟩]
theorem entsJT_ok : ∀ e ∈ entsJT, EntOk Tryz.prog e := by
  intro e he
  rcases List.mem_append.1 he with he | he
  · rcases List.mem_append.1 he with he | he
    · exact entsT3_ok e he
    · exact entsVC_ok e he
  · rw [List.mem_singleton.1 he]
    intro A R ms h hm
    simp only at h
    split at h
    · cases h
      obtain ⟨h1, h2, h3⟩ := all_one hm
      exact PureC.imp (ttrains_pure _ _ h2 (by rw [consR_len]; exact h3)) (.cons (.agg (.cons .same (.cons (.con h1) .nil))) .nil)
    · cases h
set_option maxRecDepth 100000 in
theorem ttrn_yes (p : Int) (L : List Con) (hL : okL L) (hne : 0 < L.length) (hv : shV p L = true) : PureC Tryz.prog [] 31 [.agg [.int .i64 p, roC L]] (.tup [roR .i64 (chainsM L), .bool true]) := by
  have hl := hL.1
  have rr := fun (tp : List Bool) (ms : List Prop) h hm => pure_run evOk (callF_ok evOk (orcOf_ok entsJT_ok) 8) Tryz.func31 (A := [.agg [.int .i64 p, roC L]]) rfl none_ann rfl rfl evNg (tabs := []) (R := .tup [roR .i64 (chainsM L), .bool true]) (tp := tp) (ms := ms) h hm
  refine Or.elim (Bool.eq_false_or_eq_true (val2M p (consR L.length fun i => (L.getD i Con.zero).rvs))) (fun d1 => rr [false] [(chainsM (consR L.length fun i => (L.getD i Con.zero).rvs)).length = (chainsM L).length ∧ (fun i => [rI IntKind.i64 ((chainsM (consR L.length fun i => (L.getD i Con.zero).rvs)).getD i [])]) = fun i => [rI IntKind.i64 ((chainsM L).getD i [])], true = true, (∀ (i : Nat), i < L.length → (fun i => (L.getD i Con.zero).rvs) i = (Con.ofR ((fun i => (L.getD i Con.zero).rvs) i)).rvs) ∧ okL (consR L.length fun i => (L.getD i Con.zero).rvs) ∧ (0 : Nat) < L.length, Dec (!val2M p (consR L.length fun i => (L.getD i Con.zero).rvs)) false, (∀ (i : Nat), i < L.length → (fun i => (L.getD i Con.zero).rvs) i = (Con.ofR ((fun i => (L.getD i Con.zero).rvs) i)).rvs) ∧ L.length ≤ (1000 : Nat)] (by kernel_rfl) ⟨?_, ?_, ?_, (dN d1), (?_ : (∀ (i : Nat), i < L.length → (fun i => (L.getD i Con.zero).rvs) i = (Con.ofR ((fun i => (L.getD i Con.zero).rvs) i)).rvs) ∧ L.length ≤ (1000 : Nat))⟩)
           (fun d1 => Or.elim (Bool.eq_false_or_eq_true (fusM p (consR L.length fun i => (L.getD i Con.zero).rvs))) (fun d2 => rr [true, false] [(chainsM (consR L.length fun i => (L.getD i Con.zero).rvs)).length = (chainsM L).length ∧ (fun i => [rI IntKind.i64 ((chainsM (consR L.length fun i => (L.getD i Con.zero).rvs)).getD i [])]) = fun i => [rI IntKind.i64 ((chainsM L).getD i [])], true = true, (∀ (i : Nat), i < L.length → (fun i => (L.getD i Con.zero).rvs) i = (Con.ofR ((fun i => (L.getD i Con.zero).rvs) i)).rvs) ∧ okL (consR L.length fun i => (L.getD i Con.zero).rvs) ∧ (0 : Nat) < L.length, Dec (!fusM p (consR L.length fun i => (L.getD i Con.zero).rvs)) false, (∀ (i : Nat), i < L.length → (fun i => (L.getD i Con.zero).rvs) i = (Con.ofR ((fun i => (L.getD i Con.zero).rvs) i)).rvs) ∧ L.length ≤ (1000 : Nat), Dec (!val2M p (consR L.length fun i => (L.getD i Con.zero).rvs)) true, (∀ (i : Nat), i < L.length → (fun i => (L.getD i Con.zero).rvs) i = (Con.ofR ((fun i => (L.getD i Con.zero).rvs) i)).rvs) ∧ L.length ≤ (1000 : Nat)] (by kernel_rfl) ⟨?_, ?_, ?_, (dN d2), ?_, (dN d1), (?_ : (∀ (i : Nat), i < L.length → (fun i => (L.getD i Con.zero).rvs) i = (Con.ofR ((fun i => (L.getD i Con.zero).rvs) i)).rvs) ∧ L.length ≤ (1000 : Nat))⟩)
           (fun d2 => CtG.no ?_))
  all_goals first | (refine CtG.mk ?_; (rw [consR_ro] at d1 d2; unfold shV at hv; rw [d1, d2] at hv; cases hv)) | (first | (with_reducible rfl) | exact ⟨rfl, rfl⟩ | exact ⟨fun _ _ => rfl, hl⟩ | exact ⟨fun _ _ => rfl, by rw [consR_ro]; exact hL.e⟩ | exact ⟨fun _ _ => rfl, by rw [consR_ro]; exact hL, hne⟩ | (rw [consR_ro]; exact ⟨rfl, rfl⟩) | (rw [consR_ro]; done))
end Go.Proofs.YtcfdaddablojlaaGreatDoor.S

