/- A part of the proof of TiedTrainSum: GR, SI, SO, SJ, SU, SV, RW, LT, CardTrainSum, TiedTrainSum. -/
import Derived.Test.YtkkmlbhmcdoibaaGreatDoorPkAB1
import Derived.Test.YtkkmlbhmcdoibaaGreatDoorPkAM3
import Derived.Lib.AppendZerosOnto
import Derived.Lib.Walk
import Derived.WalkKit
import Derived.Test.YtkkmlbhmcdoibaaGreatDoorPkAB2
set_option linter.unusedSimpArgs false
set_option linter.unusedVariables false
namespace Go.Proofs.YtkkmlbhmcdoibaaGreatDoor.S
open Go.RowKit Go.QfSy Go.Lib
theorem con_type : ∃ (i : TypeInfo) (z : Value), Tryz.prog.info? 25 = some i ∧ i.zero = some z ∧ i.size = 5 ∧ i.bytes = 40 ∧ z.cells.size = 5 := by
  have hz : zeroA EV.ti 25 = some [.int .i64 0, .int .i64 0, .int .i64 0, .bool false, .int .i64 0] := by kernel_rfl
  obtain ⟨i, z, g1, g2, g3⟩ := zeroA_ok (P := Tryz.prog) (γ := gam0 0 (fun _ => none)) evOk.ti hz
  obtain ⟨i', q1, q2⟩ := info_of_szT evOk.ti (show szT EV.ti 25 = some 5 by kernel_rfl)
  rw [g1] at q1
  cases q1
  exact ⟨i, z, g1, g2, q2, bytes_ok evOk.ti (show bytesT EV.ti 25 = some 40 by kernel_rfl) g1, by have := g3.length; simp at this; omega⟩
set_option maxHeartbeats 2000000 in
set_option maxRecDepth 100000 in
theorem grow_new (k : Nat) (h0 : 0 < k) (hk : k ≤ 1000) : NewC Tryz.prog 25 37 (k : Int) := by
  refine ⟨⟨_, Tryz.func37, by rfl⟩, fun w => ?_⟩
  obtain ⟨i, z, hi, hz, hs, hb, hzc⟩ := con_type
  have h1 : ¬ ((k : Int) < 0) := by omega
  have h3 : (k : Int) > 0 := by omega
  have hrz : ∀ ty, (Builtin.append_ #[28, 3] ty #[.slice none 0 0, .int .i64 (k : Int)]).run Tryz.prog w = _ := fun ty =>
    Lib.run_append_grow_zeros w 28 3 ty 25 i z .i64 .i64 Tryz.underlying28 Tryz.underlying3 hi hz none 0 0 [] (run_firstCells_none w.drew i.size 0 0 0) k h0 (by omega) (by omega) (by omega) (by rw [hb]; omega) (by rw [hb]; exact growslice_fits (by omega) (by omega))
  have hge : 0 + k ≤ grownCap w (0 + k) 0 25 := grownCap_ge w _ _ _
  generalize grownCap w (0 + k) 0 25 = G at hrz hge
  have hex : (([] : List Value).toArray ++ Builtin.zeroCells z.cells k ++ Builtin.zeroCells z.cells (G - (0 + k))).toList.length = G * 5 := by
    rw [Array.length_toList, Array.size_append, Array.size_append, size_zeroCells, size_zeroCells, hzc]
    simp
    omega
  generalize hX : ([] : List Value).toArray ++ Builtin.zeroCells z.cells k ++ Builtin.zeroCells z.cells (G - (0 + k)) = X at hrz hex
  clear hi hz hs hb hzc hX hge
  go_enter Tryz.func37, Tryz.ntmps37
  go_wp2_with (at_builtin; refine Lib.wpList_append_run _ rfl _ _ _ _ rfl _ _ rfl rfl _ _ (hrz _) ?_)
  go_ret
  refine ⟨G, rfl, w.drew, X.toList, ?_, hex, rfl, rfl, rfl, rfl⟩
  rw [Array.toArray_toList]
  rfl
end Go.Proofs.YtkkmlbhmcdoibaaGreatDoor.S

namespace Go.Proofs.YtkkmlbhmcdoibaaGreatDoor.S
open Go.QfSy Go.RowKit
def wasc (S : List Con) : Prop := ∀ i j, i ≤ j → j < S.length → (at_ S i).exp ≤ (at_ S j).exp
def insAt (x : Con) (S R : List Con) (j : Nat) : List Con := S.take j ++ x :: (S.drop j ++ R)
def srt (X : List Con) : List Con := X.foldl (fun acc x => insL x acc) []
def srtS (X : List Con) (i : Nat) : List Con := srt (X.take i) ++ X.drop i
theorem insL_len (x : Con) : ∀ l, (insL x l).length = l.length + 1
  | [] => rfl
  | a :: l => by
    rw [insL]
    split
    · rw [List.length_cons, insL_len x l, List.length_cons]
    · rfl
theorem srt_snoc (X : List Con) (x : Con) : srt (X ++ [x]) = insL x (srt X) := by unfold srt; rw [List.foldl_append]; rfl
theorem snoc_ind {P : List Con → Prop} (h0 : P []) (hs : ∀ l x, P l → P (l ++ [x])) (X : List Con) : P X := by
  rw [← List.reverse_reverse X]
  induction X.reverse with
  | nil => exact h0
  | cons a l ih => rw [List.reverse_cons]; exact hs _ _ ih
theorem srt_len (X : List Con) : (srt X).length = X.length := by
  refine snoc_ind (P := fun X => (srt X).length = X.length) rfl (fun l x ih => ?_) X
  rw [srt_snoc, insL_len, ih]; simp
theorem insAt_len (x : Con) (S R : List Con) {j : Nat} (h : j ≤ S.length) : (insAt x S R j).length = S.length + 1 + R.length := by
  unfold insAt; simp; omega
theorem insAt_at (x : Con) (S R : List Con) {j : Nat} (h : j ≤ S.length) : at_ (insAt x S R j) j = x := by
  unfold insAt at_
  rw [List.getD_eq_getElem?_getD, List.getElem?_append_right (by simp; omega)]
  have : j - (S.take j).length = 0 := by simp; omega
  rw [this]; rfl
theorem insAt_pre (x : Con) (S R : List Con) {j : Nat} (h : j ≤ S.length) (h0 : 0 < j) : at_ (insAt x S R j) (j - 1) = at_ S (j - 1) := by
  unfold insAt at_
  rw [List.getD_eq_getElem?_getD, List.getElem?_append_left (by simp; omega), List.getElem?_take, if_pos (by omega), ← List.getD_eq_getElem?_getD]
theorem set2 {P Q : List Con} {a b c d : Con} : ((P ++ a :: b :: Q).set (P.length + 1) c).set P.length d = P ++ d :: c :: Q := by
  induction P with
  | nil => rfl
  | cons p P ih => simp only [List.cons_append, List.length_cons, List.set_cons_succ]; rw [ih]
theorem insAt_swap (x : Con) (S R : List Con) {j : Nat} (h : j ≤ S.length) (h0 : 0 < j) : ((insAt x S R j).set j (at_ S (j - 1))).set (j - 1) x = insAt x S R (j - 1) := by
  obtain ⟨k, rfl⟩ : ∃ k, j = k + 1 := ⟨j - 1, by omega⟩
  simp only [Nat.add_sub_cancel]
  have hk : k < S.length := by omega
  have e1 : S.take (k + 1) = S.take k ++ [at_ S k] := by
    rw [List.take_add_one]
    simp [at_, hk]
  have e2 : S.drop k = at_ S k :: S.drop (k + 1) := by
    rw [List.drop_eq_getElem_cons hk]
    simp [at_, hk]
  unfold insAt
  rw [e2, e1]
  have l1 : (S.take k).length = k := by simp; omega
  have := set2 (P := S.take k) (Q := S.drop (k + 1) ++ R) (a := at_ S k) (b := x) (c := at_ S k) (d := x)
  rw [l1] at this
  rw [List.append_assoc]
  exact this
theorem insAt_end {x : Con} {S R : List Con} {j : Nat} (h : j ≤ S.length) (hw : wasc S) (hp : j = 0 ∨ (at_ S (j - 1)).exp ≤ x.exp) (hq : ∀ k, j ≤ k → k < S.length → x.exp < (at_ S k).exp) : insAt x S R j = insL x S ++ R := by
  have e : insL x (S.take j ++ S.drop j) = S.take j ++ x :: S.drop j := by
    refine insL_app (fun a ha => ?_) (fun a ha => ?_)
    · obtain ⟨k, hk, rfl⟩ := List.getElem_of_mem ha
      have hk' : j + k < S.length := by simp at hk; omega
      have := hq (j + k) (by omega) hk'
      have e : at_ S (j + k) = (S.drop j)[k] := by simp [at_, hk']
      rw [← e]; exact this
    · obtain ⟨k, hk, rfl⟩ := List.getElem_of_mem ha
      have hk' : k < j := by simp at hk; omega
      have e : at_ S k = (S.take j)[k] := by simp [at_, show k < S.length by omega]
      rw [← e]
      rcases hp with h0 | h0
      · omega
      · have := hw k (j - 1) (by omega) (by omega); omega
  rw [List.take_append_drop] at e
  rw [e]; unfold insAt; simp
theorem insAt_start {x : Con} {S R : List Con} : insAt x S R S.length = S ++ x :: R := by unfold insAt; simp
theorem insL_mem {x y : Con} : ∀ {l : List Con}, y ∈ insL x l → y = x ∨ y ∈ l
  | [], h => by simp [insL] at h; exact .inl h
  | a :: l, h => by
    rw [insL] at h
    split at h
    · rcases List.mem_cons.1 h with rfl | h
      · exact .inr (by simp)
      · rcases insL_mem h with h | h
        · exact .inl h
        · exact .inr (by simp [h])
    · rcases List.mem_cons.1 h with rfl | h
      · exact .inl rfl
      · exact .inr h
def pasc : List Con → Prop
  | [] => True
  | a :: l => (∀ x ∈ l, a.exp ≤ x.exp) ∧ pasc l
theorem pasc_ins {x : Con} : ∀ {l : List Con}, pasc l → pasc (insL x l)
  | [], _ => ⟨by simp, trivial⟩
  | a :: l, h => by
    rw [insL]
    split
    · rename_i hc
      exact ⟨fun y hy => by
        rcases insL_mem hy with rfl | hy
        · exact hc
        · exact h.1 y hy, pasc_ins h.2⟩
    · rename_i hc
      exact ⟨fun y hy => by
        rcases List.mem_cons.1 hy with rfl | hy
        · omega
        · have := h.1 y hy; omega, h⟩
theorem pasc_wasc : ∀ {l : List Con}, pasc l → wasc l
  | [], _ => fun i j _ hj => by simp at hj
  | a :: l, h => fun i j hij hj => by
    cases j with
    | zero => obtain rfl : i = 0 := by omega
              exact Int.le_refl _
    | succ j =>
      have hj' : j < l.length := by simpa using hj
      cases i with
      | zero =>
        have := h.1 (at_ l j) (by simp [at_, hj'])
        simpa [at_] using this
      | succ i =>
        have := pasc_wasc h.2 i j (by omega) hj'
        simpa [at_] using this
theorem pasc_srt (X : List Con) : pasc (srt X) := by
  refine snoc_ind (P := fun X => pasc (srt X)) trivial (fun l x ih => ?_) X
  rw [srt_snoc]; exact pasc_ins ih
theorem wasc_srt (X : List Con) : wasc (srt X) := pasc_wasc (pasc_srt X)
theorem take_snoc {X : List Con} {i : Nat} (h : i < X.length) : X.take (i + 1) = X.take i ++ [at_ X i] := by
  rw [List.take_add_one]; simp [at_, h]
theorem drop_cons {X : List Con} {i : Nat} (h : i < X.length) : X.drop i = at_ X i :: X.drop (i + 1) := by
  rw [List.drop_eq_getElem_cons h]; simp [at_, h]
theorem srtS_at {X : List Con} {i : Nat} (h : i < X.length) : srtS X i = insAt (at_ X i) (srt (X.take i)) (X.drop (i + 1)) i := by
  have hl : (srt (X.take i)).length = i := by rw [srt_len]; simp; omega
  have := insAt_start (x := at_ X i) (S := srt (X.take i)) (R := X.drop (i + 1))
  rw [hl] at this
  rw [this]; unfold srtS; rw [drop_cons h]
theorem srtS_next {X : List Con} {i : Nat} (h : i < X.length) : srtS X (i + 1) = insL (at_ X i) (srt (X.take i)) ++ X.drop (i + 1) := by
  unfold srtS; rw [take_snoc h, srt_snoc]
theorem srtS_one (X : List Con) : srtS X 1 = X := by
  cases X with
  | nil => rfl
  | cons a l => rfl
theorem srtS_end (X : List Con) : srtS X X.length = srt X := by unfold srtS; simp
theorem asc_snoc {l : List Con} {b : Con} (h : asc (l ++ [b])) : asc l ∧ ∀ x ∈ l, x.exp < b.exp := by
  induction l with
  | nil => exact ⟨trivial, by simp⟩
  | cons c l ih =>
    have h2 := ih h.2
    refine ⟨⟨fun x hx => h.1 x (by simp [hx]), h2.1⟩, fun x hx => ?_⟩
    rcases List.mem_cons.1 hx with rfl | hx
    · exact h.1 b (by simp)
    · exact h2.2 x hx
theorem srt_asc {A : List Con} : asc A → srt A = A := by
  refine snoc_ind (P := fun A => asc A → srt A = A) (fun _ => rfl) (fun l b ih h => ?_) A
  have := asc_snoc h
  rw [srt_snoc, ih this.1, insL_top (fun a ha => by have := this.2 a ha; omega)]
theorem srt_mrg {A B : List Con} (hA : asc A) : asc B → srt (A ++ B) = mrg A B := by
  refine snoc_ind (P := fun B => asc B → srt (A ++ B) = mrg A B) (fun _ => by rw [List.append_nil, srt_asc hA, mrg_nil]) (fun l b ih h => ?_) B
  have := asc_snoc h
  rw [← List.append_assoc, srt_snoc, ih this.1, mrg_snoc this.2]
theorem cmp_srt {A B : List Con} (hA : asc A) (hB : asc B) : cmpL (srt (A ++ B)) = addM A B := by rw [srt_mrg hA hB, cmp_mrg hA hB]
end Go.Proofs.YtkkmlbhmcdoibaaGreatDoor.S

namespace Go.Proofs.YtkkmlbhmcdoibaaGreatDoor.S
open Go.QfSy Go.RowKit
noncomputable def soH (X : List Con) : List (Nat × Blk) := [(1002, ⟨.plain [.int .i64 0, .nils], 30, 0, false, true⟩), (1006, ⟨.con X, 25, 5, true, true⟩)]
noncomputable def soT (n : Nat) : List (Nat × AV) := [(0, .lo 1006 n), (1, .int .i64 0), (2, .vint .i64 (n : Int)), (3, .fn 22 [])]
noncomputable def soIn (X : List Con) (i : Nat) : Ann := ⟨⟨soT X.length ++ [(8, .vint .i64 (i : Int)), (9, .vint .i64 (i : Int))], soH (srtS X i), 1100⟩, none, fun _ =>
  (.exit 2, ⟨soT X.length ++ [(8, .vint .i64 (i : Int))], soH (srtS X (i + 1)), 1100⟩)⟩
noncomputable def soOut (X : List Con) : Ann := ⟨⟨soT X.length ++ [(8, .int .i64 1)], soH X, 1100⟩, none, fun _ =>
  (.exit 0, ⟨[], soH (srt X), 1100⟩)⟩
theorem srt_mem {y : Con} (X : List Con) : y ∈ srt X → y ∈ X := by
  refine snoc_ind (P := fun X => y ∈ srt X → y ∈ X) (fun h => h) (fun l x ih h => ?_) X
  rw [srt_snoc] at h
  rcases insL_mem h with rfl | h
  · simp
  · simp [ih h]
theorem srt_okE {X : List Con} (h : okE X) (i : Nat) : okE (srt (X.take i)) := by
  refine ⟨by rw [srt_len]; have := h.1; simp; omega, fun c hc => h.2 c (List.mem_of_mem_take (srt_mem _ hc))⟩
set_option maxRecDepth 100000 in
theorem so_in (X : List Con) (r : Nat) (hX : okE X) (hi : r < X.length) : AnnOk Tryz.prog EV.ng (Nat.max 4 Tryz.f54.ntmps) (bodyAt Tryz.f54 [0, 1, 0, 0, 1, 0, 0, 1]) (soIn X r) := by
  refine ann_of evOk (callF_ok evOk (noOrc_ok _ _) 8) none_ann (by kernel_rfl) (by kernel_rfl) (fun i : Nat => (fun (j : Nat) => (⟨soT X.length ++ [(8, .vint .i64 (r : Int)), (9, .vint .i64 (j : Int))], soH (insAt (at_ X r) (srt (X.take r)) (X.drop (r + 1)) j), 1100⟩ : St)) i) (fun i : Nat => (fun (j : Nat) => (j : Nat)) i) (fun (d : Bool) (i : Nat) => (fun (j : Nat) => (j ≤ r ∧ (∀ k, j ≤ k → k < r → (at_ X r).exp < (at_ (srt (X.take r)) k).exp) : Prop)) i) ?_ ?_
  · intro d hd
    exact ⟨(r), [X.length = X.length, (↑X.length : Int) = (↑X.length : Int), (↑r : Int) = (↑r : Int), (↑r : Int) = (↑r : Int), srtS X r = insAt (at_ X r) (srt (List.take r X)) (List.drop (r + (1 : Nat)) X) r], by kernel_rfl, (by refine ⟨?_, ?_, ?_, ?_, (?_ : srtS X r = insAt (at_ X r) (srt (List.take r X)) (List.drop (r + (1 : Nat)) X) r)⟩ <;> (first | rfl | exact ⟨rfl, rfl⟩ | exact srtS_at hi)), (by exact ⟨Nat.le_refl _, fun k h1 h2 => by omega⟩)⟩
  · rintro d hd j hI
    cases d
    · -- d = false
      exact Bool.noConfusion (show false = true from hd)
    · -- d = true
      obtain ⟨ht, hq⟩ := hI
      have ht : j ≤ r := ht
      have hq : ∀ k, j ≤ k → k < r → (at_ X r).exp < (at_ (srt (X.take r)) k).exp := hq
      have hn := hX.1
      have hs : (srt (X.take r)).length = r := by rw [srt_len]; simp; omega
      have hl : (insAt (at_ X r) (srt (X.take r)) (X.drop (r + 1)) j).length = X.length := by rw [insAt_len _ _ _ (by omega), hs]; simp; omega
      have ej : 0 < j → IntKind.i64.wrap ((j : Int) - 1) = ((j - 1 : Nat) : Int) := fun h => by rw [w64 (by omega) (by omega)]; omega
      have e1 : (insAt (at_ X r) (srt (X.take r)) (X.drop (r + 1)) j).getD j Con.zero = at_ X r := insAt_at _ _ _ (by omega)
      have e2 : 0 < j → (insAt (at_ X r) (srt (X.take r)) (X.drop (r + 1)) j).getD (j - 1) Con.zero = at_ (srt (X.take r)) (j - 1) := fun h => insAt_pre _ _ _ (by omega) h
      have ew : IntKind.i64.wrap ((at_ X r).exp - (at_ (srt (X.take r)) (j - 1)).exp) = (at_ X r).exp - (at_ (srt (X.take r)) (j - 1)).exp := by have a1 := hX.at' r; have a2 := (srt_okE hX r).at' (j - 1); exact w64 (by omega) (by omega)
      refine Or.elim (Bool.eq_false_or_eq_true (decide ((↑j : Int) > (0 : Int)))) (fun d1 => Or.elim (Bool.eq_false_or_eq_true (decide (IntKind.i64.wrap (((insAt (at_ X r) (srt (List.take r X)) (List.drop (r + (1 : Nat)) X) j).getD j Con.zero).exp - ((insAt (at_ X r) (srt (List.take r X)) (List.drop (r + (1 : Nat)) X) j).getD (IntKind.i64.wrap ((↑j : Int) - (1 : Int))).toNat Con.zero).exp) < (0 : Int)))) (fun d2 => ⟨[true, true], .inl ⟨(j - 1), [X.length = X.length, (↑X.length : Int) = (↑X.length : Int), (↑r : Int) = (↑r : Int), IntKind.i64.wrap ((↑j : Int) - (1 : Int)) = (↑(j - (1 : Nat)) : Int), ((insAt (at_ X r) (srt (List.take r X)) (List.drop (r + (1 : Nat)) X) j).set j ((insAt (at_ X r) (srt (List.take r X)) (List.drop (r + (1 : Nat)) X) j).getD (IntKind.i64.wrap ((↑j : Int) - (1 : Int))).toNat Con.zero)).set (IntKind.i64.wrap ((↑j : Int) - (1 : Int))).toNat ((insAt (at_ X r) (srt (List.take r X)) (List.drop (r + (1 : Nat)) X) j).getD j Con.zero) = insAt (at_ X r) (srt (List.take r X)) (List.drop (r + (1 : Nat)) X) (j - (1 : Nat)), (IntKind.i64.wrap ((↑j : Int) - (1 : Int))).toNat < ((insAt (at_ X r) (srt (List.take r X)) (List.drop (r + (1 : Nat)) X) j).set j ((insAt (at_ X r) (srt (List.take r X)) (List.drop (r + (1 : Nat)) X) j).getD (IntKind.i64.wrap ((↑j : Int) - (1 : Int))).toNat Con.zero)).length, (0 : Int) ≤ IntKind.i64.wrap ((↑j : Int) - (1 : Int)) ∧ IntKind.i64.wrap ((↑j : Int) - (1 : Int)) < (↑X.length : Int), j < (insAt (at_ X r) (srt (List.take r X)) (List.drop (r + (1 : Nat)) X) j).length, (0 : Int) ≤ (↑j : Int) ∧ (↑j : Int) < (↑X.length : Int), j < (insAt (at_ X r) (srt (List.take r X)) (List.drop (r + (1 : Nat)) X) j).length, (0 : Int) ≤ (↑j : Int) ∧ (↑j : Int) < (↑X.length : Int), (IntKind.i64.wrap ((↑j : Int) - (1 : Int))).toNat < (insAt (at_ X r) (srt (List.take r X)) (List.drop (r + (1 : Nat)) X) j).length, (0 : Int) ≤ IntKind.i64.wrap ((↑j : Int) - (1 : Int)) ∧ IntKind.i64.wrap ((↑j : Int) - (1 : Int)) < (↑X.length : Int), Dec (decide (IntKind.i64.wrap (((insAt (at_ X r) (srt (List.take r X)) (List.drop (r + (1 : Nat)) X) j).getD j Con.zero).exp - ((insAt (at_ X r) (srt (List.take r X)) (List.drop (r + (1 : Nat)) X) j).getD (IntKind.i64.wrap ((↑j : Int) - (1 : Int))).toNat Con.zero).exp) < (0 : Int))) true, (IntKind.i64.wrap ((↑j : Int) - (1 : Int))).toNat < (insAt (at_ X r) (srt (List.take r X)) (List.drop (r + (1 : Nat)) X) j).length, (0 : Int) ≤ IntKind.i64.wrap ((↑j : Int) - (1 : Int)) ∧ IntKind.i64.wrap ((↑j : Int) - (1 : Int)) < (↑X.length : Int), j < (insAt (at_ X r) (srt (List.take r X)) (List.drop (r + (1 : Nat)) X) j).length, (0 : Int) ≤ (↑j : Int) ∧ (↑j : Int) < (↑X.length : Int), Dec (decide ((↑j : Int) > (0 : Int))) true], by kernel_rfl, ⟨?_, ?_, ?_, ?_, ?_, ?_, ?_, ?_, ?_, ?_, ?_, ?_, ?_, d2, ?_, ?_, ?_, ?_, d1⟩, MuG.out ?_, InG.out ?_⟩⟩)
           (fun d2 => ⟨[true, false], .inr ⟨[X.length = X.length, (↑X.length : Int) = (↑X.length : Int), (↑r : Int) = (↑r : Int), insAt (at_ X r) (srt (List.take r X)) (List.drop (r + (1 : Nat)) X) j = srtS X (r + (1 : Nat)), Dec (decide (IntKind.i64.wrap (((insAt (at_ X r) (srt (List.take r X)) (List.drop (r + (1 : Nat)) X) j).getD j Con.zero).exp - ((insAt (at_ X r) (srt (List.take r X)) (List.drop (r + (1 : Nat)) X) j).getD (IntKind.i64.wrap ((↑j : Int) - (1 : Int))).toNat Con.zero).exp) < (0 : Int))) false, (IntKind.i64.wrap ((↑j : Int) - (1 : Int))).toNat < (insAt (at_ X r) (srt (List.take r X)) (List.drop (r + (1 : Nat)) X) j).length, (0 : Int) ≤ IntKind.i64.wrap ((↑j : Int) - (1 : Int)) ∧ IntKind.i64.wrap ((↑j : Int) - (1 : Int)) < (↑X.length : Int), j < (insAt (at_ X r) (srt (List.take r X)) (List.drop (r + (1 : Nat)) X) j).length, (0 : Int) ≤ (↑j : Int) ∧ (↑j : Int) < (↑X.length : Int), Dec (decide ((↑j : Int) > (0 : Int))) true], by kernel_rfl, ⟨?_, ?_, ?_, ?_, d2, ?_, ?_, ?_, ?_, d1⟩, rfl⟩⟩))
           (fun d1 => ⟨[false], .inr ⟨[X.length = X.length, (↑X.length : Int) = (↑X.length : Int), (↑r : Int) = (↑r : Int), insAt (at_ X r) (srt (List.take r X)) (List.drop (r + (1 : Nat)) X) j = srtS X (r + (1 : Nat)), Dec (decide ((↑j : Int) > (0 : Int))) false], by kernel_rfl, ⟨?_, ?_, ?_, ?_, d1⟩, rfl⟩⟩)
      all_goals first | (refine MuG.mk ?_; (have hj : 0 < j := (by simp only [decide_eq_true_eq] at d1; omega); show j - 1 < j; omega)) | (refine InG.mk ?_; (have hj : 0 < j := (by simp only [decide_eq_true_eq] at d1; omega); have ej' := ej hj; have e2' := e2 hj; simp only [ej', Int.toNat_natCast, e1, e2', ew, decide_eq_true_eq] at d2; exact ⟨by omega, fun k h1 h2 => by rcases Nat.lt_or_ge k j with h | h; have e : k = j - 1 := (by omega); subst e; omega; exact hq k h h2⟩)) | (refine CtG.mk ?_; (simp_all)) | (first | (with_reducible rfl) | exact ⟨by omega, by omega⟩ | (rw [hl]; omega) | (have hj : 0 < j := (by simp only [decide_eq_true_eq] at d1; omega); have ej' := ej hj; have e2' := e2 hj; simp only [ej', Int.toNat_natCast, e1, e2', ew, decide_eq_false_iff_not] at *; first | done | omega | (rw [hl]; omega) | (rw [List.length_set, hl]; omega) | (exact insAt_swap _ _ _ (by omega) hj) | (rw [srtS_next hi]; exact insAt_end (by omega) (wasc_srt _) (Or.inr (by omega)) (fun k h1 h2 => hq k h1 (by omega)))) | (have hj : j = 0 := (by simp only [decide_eq_false_iff_not] at d1; omega); rw [srtS_next hi]; exact insAt_end (by omega) (wasc_srt _) (Or.inl hj) (fun k h1 h2 => hq k h1 (by omega))))
set_option maxRecDepth 100000 in
theorem so_out (X : List Con) (hX : okE X) (h0 : 1 ≤ X.length) : AnnOk Tryz.prog EV.ng (Nat.max 4 Tryz.f54.ntmps) (bodyAt Tryz.f54 [0, 1]) (soOut X) := by
  refine ann_ofI evOk (callF_ok evOk (noOrc_ok _ _) 8) (by kernel_rfl) (by kernel_rfl) (fun i : Nat => (fun (r : Nat) => (⟨soT X.length ++ [(8, .vint .i64 (r : Int))], soH (srtS X r), 1100⟩ : St)) i) (fun i : Nat => (fun (r : Nat) => (X.length - r : Nat)) i) (fun (d : Bool) (i : Nat) => (fun (r : Nat) => (1 ≤ r ∧ r ≤ X.length : Prop)) i) (fun i : Nat => (fun (r : Nat) => ([([0, 1, 0, 0, 1, 0, 0, 1], soIn X (Nat.min r (X.length - 1)))] : List (List Nat × Ann))) i) ?_ ?_ ?_
  · rintro d hd r hI
    exact one_ann (so_in X (Nat.min r (X.length - 1)) hX (by have := Nat.min_le_right r (X.length - 1); show min r (X.length - 1) < _; omega))
  · intro d hd
    exact ⟨(1), [X.length = X.length, (↑X.length : Int) = (↑X.length : Int), (1 : Int) = (↑(1 : Nat) : Int), X = srtS X (1 : Nat)], by kernel_rfl, (by refine ⟨?_, ?_, ?_, (?_ : X = srtS X (1 : Nat))⟩ <;> (first | rfl | exact ⟨rfl, rfl⟩ | exact (srtS_one X).symm)), (by exact ⟨Nat.le_refl _, h0⟩)⟩
  · rintro d hd r hI
    cases d
    · -- d = false
      exact Bool.noConfusion (show false = true from hd)
    · -- d = true
      obtain ⟨h1, h2⟩ := hI
      have h1 : 1 ≤ r := h1
      have h2 : r ≤ X.length := h2
      have hn := hX.1
      have ek : IntKind.i64.wrap ((r : Int) + 1) = ((r + 1 : Nat) : Int) := by rw [w64 (by omega) (by omega)]; omega
      have em : r < X.length → Nat.min r (X.length - 1) = r := fun h => Nat.min_eq_left (by omega)
      refine Or.elim (Bool.eq_false_or_eq_true (decide ((↑r : Int) < (↑X.length : Int)))) (fun d1 => ⟨[true], .inl ⟨(r + 1), [X.length = X.length, (↑X.length : Int) = (↑X.length : Int), IntKind.i64.wrap ((↑(r.min (X.length - (1 : Nat))) : Int) + (1 : Int)) = (↑(r + (1 : Nat)) : Int), srtS X (r.min (X.length - (1 : Nat)) + (1 : Nat)) = srtS X (r + (1 : Nat)), X.length = X.length, (↑X.length : Int) = (↑X.length : Int), (↑r : Int) = (↑(r.min (X.length - (1 : Nat))) : Int), (↑r : Int) = (↑(r.min (X.length - (1 : Nat))) : Int), srtS X r = srtS X (r.min (X.length - (1 : Nat))), Dec (decide ((↑r : Int) < (↑X.length : Int))) true], by kernel_rfl, ⟨?_, ?_, ?_, ?_, ?_, ?_, ?_, ?_, ?_, d1⟩, MuG.out ?_, InG.out ?_⟩⟩)
           (fun d1 => ⟨[false], .inr ⟨[srtS X r = srt X, Dec (decide ((↑r : Int) < (↑X.length : Int))) false], by kernel_rfl, ⟨?_, d1⟩, rfl⟩⟩)
      all_goals first | (refine MuG.mk ?_; (simp only [decide_eq_true_eq] at d1; show X.length - (r + 1) < X.length - r; omega)) | (refine InG.mk ?_; (simp only [decide_eq_true_eq] at d1; exact ⟨by omega, by omega⟩)) | (refine CtG.mk ?_; (simp_all)) | (first | (with_reducible rfl) | exact ⟨by omega, by omega⟩ | (have hr : r < X.length := (by simp only [decide_eq_true_eq] at d1; omega); have em' := em hr; simp only [em', ek]; done) | (have hr : r = X.length := (by simp only [decide_eq_false_iff_not] at d1; omega); rw [hr]; exact srtS_end X))
noncomputable def orcSo (X : List Con) (orc : CallF) : CallF := orcB EV (callF EV noOrc 4) 54 4 [([0, 1], soOut X)] orc
theorem orcSo_ok {X : List Con} (hX : okE X) (h0 : 1 ≤ X.length) {orc : CallF} (ho : CallOk Tryz.prog EV.ng orc) : CallOk Tryz.prog EV.ng (orcSo X orc) := orcB_ok evOk (callF_ok evOk (noOrc_ok _ _) 4) Tryz.func54 (one_ann (so_out X hX h0)) ho
end Go.Proofs.YtkkmlbhmcdoibaaGreatDoor.S

namespace Go.Proofs.YtkkmlbhmcdoibaaGreatDoor.S
open Go.QfSy Go.RowKit
theorem cmpF_cons : ∀ (l : List Con) (d : Con), ∃ a t, cmpF d l = a :: t
  | [], d => ⟨d, [], rfl⟩
  | x :: l, d => by
    rw [cmpF]
    split
    · exact cmpF_cons l _
    · exact ⟨_, _, rfl⟩
def jnL (L : List Con) (c : Con) : List Con := L.set (L.length - 1) (joinM (at_ L (L.length - 1)) c)
theorem cmpF_snoc (c : Con) : ∀ (l : List Con) (d : Con), cmpF d (l ++ [c]) = if (at_ (cmpF d l) ((cmpF d l).length - 1)).exp = c.exp then jnL (cmpF d l) c else cmpF d l ++ [c]
  | [], d => by
    simp only [List.nil_append, cmpF, jnL, List.length_singleton]
    rfl
  | x :: l, d => by
    rw [List.cons_append, cmpF, cmpF]
    by_cases h : d.exp = x.exp
    · rw [if_pos h, if_pos h]; exact cmpF_snoc c l _
    · rw [if_neg h, if_neg h, cmpF_snoc c l x]
      obtain ⟨a, t, e⟩ := cmpF_cons l x
      rw [e]
      have e1 : (d :: a :: t).length - 1 = t.length + 1 := by simp
      have e2 : (a :: t).length - 1 = t.length := by simp
      have e3 : at_ (d :: a :: t) (t.length + 1) = at_ (a :: t) t.length := by simp [at_]
      unfold jnL
      rw [e1, e2, e3]
      split
      · rw [List.set_cons_succ]
      · rfl
theorem cmpL_snoc {l : List Con} (hl : l ≠ []) (c : Con) : cmpL (l ++ [c]) = if (at_ (cmpL l) ((cmpL l).length - 1)).exp = c.exp then jnL (cmpL l) c else cmpL l ++ [c] := by
  cases l with
  | nil => exact absurd rfl hl
  | cons d l => exact cmpF_snoc c l d
theorem cmpL_pos {l : List Con} (hl : l ≠ []) : 0 < (cmpL l).length := by
  cases l with
  | nil => exact absurd rfl hl
  | cons d l => obtain ⟨a, t, e⟩ := cmpF_cons l d; show 0 < (cmpF d l).length; rw [e]; simp
def bdC (m : Int) (c : Con) : Prop := (0 ≤ c.dim ∧ c.dim ≤ m) ∧ (c.sign = 1 ∨ c.sign = -1) ∧ (0 ≤ c.oddity ∧ c.oddity ≤ 7)
theorem cmpF_b : ∀ (l : List Con) (d : Con) (m : Int), (∀ x ∈ l, addOk x) → bdC m d → ∀ x ∈ cmpF d l, bdC (m + 1000 * l.length) x
  | [], d, m, _, hd, x, hx => by
    simp only [cmpF, List.mem_singleton] at hx
    subst hx
    simpa using hd
  | y :: l, d, m, hl, hd, x, hx => by
    have hy := hl y (by simp)
    have e : m + 1000 * ((y :: l).length : Int) = (m + 1000) + 1000 * (l.length : Int) := by simp; omega
    rw [e]
    rw [cmpF] at hx
    split at hx
    · refine cmpF_b l (joinM d y) (m + 1000) (fun z hz => hl z (by simp [hz])) ?_ x hx
      obtain ⟨⟨a1, a2⟩, a3, a4⟩ := hd
      obtain ⟨⟨b1, b2⟩, b3, b4⟩ := hy
      unfold joinM
      refine ⟨⟨?_, ?_⟩, ?_, ?_, ?_⟩
      · show 0 ≤ d.dim + y.dim; omega
      · show d.dim + y.dim ≤ _; omega
      · show d.sign * y.sign = 1 ∨ d.sign * y.sign = -1
        rcases a3 with h | h <;> rcases b3 with k | k <;> rw [h, k] <;> decide
      · show 0 ≤ (d.oddity + y.oddity) % 8; omega
      · show (d.oddity + y.oddity) % 8 ≤ 7; omega
    · rcases List.mem_cons.1 hx with rfl | hx
      · exact ⟨⟨hd.1.1, by have := hd.1.2; omega⟩, hd.2⟩
      · have := cmpF_b l y 1000 (fun z hz => hl z (by simp [hz])) hy x hx
        exact ⟨⟨this.1.1, by have h1 := this.1.2; have h2 := hd.1; omega⟩, this.2⟩
theorem cmpL_b {l : List Con} (hl : ∀ x ∈ l, addOk x) : ∀ x ∈ cmpL l, bdC (1000 * l.length) x := by
  cases l with
  | nil => intro x hx; simp [cmpL] at hx
  | cons d l =>
    intro x hx
    have := cmpF_b l d 1000 (fun z hz => hl z (by simp [hz])) (hl d (by simp)) x hx
    have e : 1000 * ((d :: l).length : Int) = 1000 + 1000 * (l.length : Int) := by simp; omega
    rw [e]; exact this
theorem set_getD {L : List Con} {i : Nat} (h : i < L.length) (a : Con) : (L.set i a).getD i Con.zero = a := by simp [h]
theorem upd_join {L : List Con} {i : Nat} {c : Con} {m : Int} (hi : i < L.length) (hb : bdC m (L.getD i Con.zero)) (hc : addOk c) (hm : m ≤ 1000000) (o : Bool) (ho : o = ((L.getD i Con.zero).odd || c.odd)) :
    updT (updO (updS (updD L i (IntKind.i64.wrap ((L.getD i Con.zero).dim + c.dim))) i (IntKind.i64.wrap (((updD L i (IntKind.i64.wrap ((L.getD i Con.zero).dim + c.dim))).getD i Con.zero).sign * c.sign))) i o) i ((IntKind.i64.wrap (((updO (updS (updD L i (IntKind.i64.wrap ((L.getD i Con.zero).dim + c.dim))) i (IntKind.i64.wrap (((updD L i (IntKind.i64.wrap ((L.getD i Con.zero).dim + c.dim))).getD i Con.zero).sign * c.sign))) i o).getD i Con.zero).oddity + c.oddity)).tmod 8) = L.set i (joinM (L.getD i Con.zero) c) := by
  unfold updT updO updS updD
  simp only [List.set_set, set_getD hi]
  generalize L.getD i Con.zero = d at *
  obtain ⟨⟨a1, a2⟩, a3, a4⟩ := hb
  obtain ⟨⟨b1, b2⟩, b3, b4⟩ := hc
  have e1 : IntKind.i64.wrap (d.dim + c.dim) = d.dim + c.dim := w64 (by omega) (by omega)
  have e2 : IntKind.i64.wrap (d.sign * c.sign) = d.sign * c.sign := by rcases a3 with h | h <;> rcases b3 with k | k <;> rw [h, k] <;> decide
  have e3 : (IntKind.i64.wrap (d.oddity + c.oddity)).tmod 8 = (d.oddity + c.oddity) % 8 := by rw [w64 (by omega) (by omega)]; exact Int.tmod_eq_emod_of_nonneg (by omega)
  rw [e1, e2, e3, ho]
  rfl
end Go.Proofs.YtkkmlbhmcdoibaaGreatDoor.S

namespace Go.Proofs.YtkkmlbhmcdoibaaGreatDoor.S
open Go.QfSy Go.RowKit
noncomputable def suH (Y : List Con) (o : Option (List Con)) : List (Nat × Blk) := match o with
  | none => [(1002, ⟨.plain [.int .i64 0, .nils], 30, 0, false, true⟩), (1006, ⟨.con Y, 25, 5, true, true⟩), (1100, ⟨.plain [.int .i64 2, .nils], 30, 0, false, true⟩)]
  | some L => [(1002, ⟨.plain [.int .i64 0, .nils], 30, 0, false, true⟩), (1006, ⟨.con Y, 25, 5, true, true⟩), (1100, ⟨.plain [.int .i64 2, .lo 1160 L.length], 30, 0, false, true⟩), (1160, ⟨.con L, 25, 5, true, true⟩)]
noncomputable def suT (n : Nat) (k : AV) : List (Nat × AV) := [(4, .ptr 1002 0), (5, .int .i64 0), (7, .ptr 1100 0), (30, .lo 1006 n), (31, .vint .i64 (n : Int)), (32, k)]
noncomputable def suA (Y : List Con) : Ann := ⟨⟨suT Y.length (.int .i64 0), suH Y none, 1150⟩, none, fun _ =>
  (.exit 0, ⟨[(4, .ptr 1002 0), (5, .int .i64 0), (7, .ptr 1100 0)], suH Y (some (cmpL Y)), 1200⟩)⟩
noncomputable def suS (Y : List Con) : Nat × Option (List Con) → St
  | (k, none) => ⟨suT Y.length (.vint .i64 (k : Int)), suH Y none, 1200⟩
  | (k, some L) => ⟨suT Y.length (.vint .i64 (k : Int)), suH Y (some L), 1200⟩
def jnI (Y : List Con) : Nat × Option (List Con) → Prop
  | (k, none) => k = 0
  | (k, some L) => 0 < k ∧ k ≤ Y.length ∧ L = cmpL (Y.take k)
theorem take_ne {Y : List Con} {k : Nat} (h : 0 < k) (h2 : k ≤ Y.length) : Y.take k ≠ [] := by
  intro e
  have := congrArg List.length e
  rw [List.length_take, List.length_nil] at this
  omega
theorem jnI_one {Y : List Con} {k : Nat} (hk : k = 0) (hY : 0 < Y.length) : jnI Y (k + 1, some [at_ Y k]) := by
  subst hk
  refine ⟨by omega, hY, ?_⟩
  rw [take_snoc hY]; rfl
theorem jnI_app {Y L : List Con} {k : Nat} (h : jnI Y (k, some L)) (hk : k < Y.length) (he : (at_ L (L.length - 1)).exp ≠ (at_ Y k).exp) : jnI Y (k + 1, some (L ++ [at_ Y k])) := by
  obtain ⟨h1, h2, rfl⟩ := h
  refine ⟨by omega, hk, ?_⟩
  rw [take_snoc hk, cmpL_snoc (take_ne h1 h2), if_neg he]
theorem jnI_jn {Y L : List Con} {k : Nat} (h : jnI Y (k, some L)) (hk : k < Y.length) (he : (at_ L (L.length - 1)).exp = (at_ Y k).exp) : jnI Y (k + 1, some (jnL L (at_ Y k))) := by
  obtain ⟨h1, h2, rfl⟩ := h
  refine ⟨by omega, hk, ?_⟩
  rw [take_snoc hk, cmpL_snoc (take_ne h1 h2), if_pos he]
theorem jnI_end {Y L : List Con} {k : Nat} (h : jnI Y (k, some L)) (hk : Y.length ≤ k) : L = cmpL Y := by
  obtain ⟨h1, h2, rfl⟩ := h
  rw [List.take_of_length_le hk]
theorem jnI_pos {Y L : List Con} {k : Nat} (h : jnI Y (k, some L)) : 0 < L.length := by
  obtain ⟨h1, h2, rfl⟩ := h
  exact cmpL_pos (take_ne h1 h2)
theorem cmpF_len : ∀ (l : List Con) (d : Con), (cmpF d l).length ≤ l.length + 1
  | [], d => by simp [cmpF]
  | x :: l, d => by
    rw [cmpF]
    split
    · have := cmpF_len l (joinM d x); simp; omega
    · have := cmpF_len l x; simp; omega
theorem cmpL_len (l : List Con) : (cmpL l).length ≤ l.length := by
  cases l with
  | nil => simp [cmpL]
  | cons d l => exact cmpF_len l d
theorem jnI_len {Y L : List Con} {k : Nat} (h : jnI Y (k, some L)) : L.length ≤ Y.length := by
  obtain ⟨h1, h2, rfl⟩ := h
  have := cmpL_len (Y.take k)
  simp at this; omega
theorem jnI_b {Y L : List Con} {k : Nat} (h : jnI Y (k, some L)) (hY : ∀ c ∈ Y, addOk c) (hn : Y.length ≤ 1000) : bdC 1000000 (L.getD (L.length - 1) Con.zero) := by
  have hp := jnI_pos h
  obtain ⟨h1, h2, rfl⟩ := h
  have := cmpL_b (l := Y.take k) (fun x hx => hY x (List.mem_of_mem_take hx)) _ (at_mem (L := cmpL (Y.take k)) (k := (cmpL (Y.take k)).length - 1) (by omega))
  refine ⟨⟨this.1.1, ?_⟩, this.2⟩
  have h3 := this.1.2
  have h4 : (Y.take k).length ≤ 1000 := by simp; omega
  show (at_ (cmpL (Y.take k)) _).dim ≤ _
  omega
theorem jnI_le {Y : List Con} : ∀ {i : Nat × Option (List Con)}, jnI Y i → i.1 ≤ Y.length
  | (k, none), h => by have : k = 0 := h; show k ≤ _; omega
  | (k, some L), h => h.2.1
theorem upd_odd {L : List Con} {i : Nat} (hi : i < L.length) (v w : Int) : ((updS (updD L i v) i w).getD i Con.zero).odd = (L.getD i Con.zero).odd := by
  unfold updS updD
  rw [List.set_set, set_getD hi, set_getD hi]
set_option maxRecDepth 100000 in
theorem su_loop (Y : List Con) (hY : ∀ c ∈ Y, addOk c) (hn : Y.length ≤ 1000) (hne : 0 < Y.length) : AnnOk Tryz.prog EV.ng (Nat.max 2 Tryz.f11.ntmps) (bodyAt Tryz.f11 [0, 1, 0, 1, 1, 1, 1, 1]) (suA Y) := by
  refine ann_of evOk (callF_ok evOk (noOrc_ok _ _) 8) none_ann (by kernel_rfl) (by kernel_rfl) (suS Y) (fun i => Y.length - i.1) (fun _ i => jnI Y i) ?_ ?_
  · intro d hd
    exact ⟨(0, none), [Y.length = Y.length, (↑Y.length : Int) = (↑Y.length : Int), (0 : Int) = (↑(0 : Nat) : Int), Y = Y], by kernel_rfl, (by refine ⟨?_, ?_, ?_, (?_ : Y = Y)⟩ <;> (first | rfl | assumption | omega | simp_all)), (by exact rfl)⟩
  · rintro d hd ⟨k, o⟩ hI
    cases d
    · -- d = false
      exact Bool.noConfusion (show false = true from hd)
    · -- d = true
      have hk : k ≤ Y.length := jnI_le hI
      have ek : IntKind.i64.wrap ((k : Int) + 1) = ((k + 1 : Nat) : Int) := by rw [w64 (by omega) (by omega)]; omega
      rcases o with _ | L
      · -- 1
        refine Or.elim (Bool.eq_false_or_eq_true (decide ((↑k : Int) < (↑Y.length : Int)))) (fun d1 => ⟨[true], .inl ⟨(k + 1, some [at_ Y k]), [Y.length = Y.length, (↑Y.length : Int) = (↑Y.length : Int), IntKind.i64.wrap ((↑k : Int) + (1 : Int)) = (↑(k + (1 : Nat)) : Int), Y = Y, (1 : Nat) = [at_ Y k].length, [Y.getD k Con.zero] = [at_ Y k], (0 : Nat) < (1 : Nat) ∧ (1 : Nat) ≤ (1000000 : Nat), k < Y.length, (0 : Int) ≤ (↑k : Int) ∧ (↑k : Int) < (↑Y.length : Int), Dec (decide ((↑k : Int) < (↑Y.length : Int))) true], by kernel_rfl, ⟨?_, ?_, ?_, ?_, ?_, ?_, ?_, ?_, ?_, d1⟩, MuG.out ?_, InG.out ?_⟩⟩)
           (fun d1 => CtG.no ?_)
        all_goals first | (refine MuG.mk ?_; (simp only [decide_eq_true_eq] at d1; show Y.length - (k + 1) < Y.length - k; omega)) | (refine InG.mk ?_; (first | (exact jnI_one hI hne) | (have hp := jnI_pos hI; have hl := jnI_len hI; have el : IntKind.i64.wrap ((L.length : Int) - 1) = ((L.length - 1 : Nat) : Int) := (by rw [w64 (by omega) (by omega)]; omega); simp only [el, Int.toNat_natCast, decide_eq_true_eq, decide_eq_false_iff_not, beq_iff_eq, beq_eq_false_iff_ne, ne_eq] at *; first | (exfalso; omega) | exact jnI_app hI (by omega) d3 | exact jnI_jn hI (by omega) d3))) | (refine CtG.mk ?_; (have h0 : k = 0 := hI; simp only [decide_eq_false_iff_not] at d1; omega)) | (first | (with_reducible rfl) | exact ⟨rfl, rfl⟩ | decide | (have hp := jnI_pos hI; have hl := jnI_len hI; have el : IntKind.i64.wrap ((L.length : Int) - 1) = ((L.length - 1 : Nat) : Int) := (by rw [w64 (by omega) (by omega)]; omega); (try simp only [el, ek, Int.toNat_natCast, decide_eq_true_eq, decide_eq_false_iff_not, View.num, beq_iff_eq, beq_eq_false_iff_ne, ne_eq] at *) <;> first | omega | exact ⟨by omega, by omega⟩ | exact ⟨trivial, by omega⟩ | (rw [← jnI_end hI (by omega)]; done) | (exact jnI_end hI (by omega)) | (rw [List.length_append]; rfl) | (unfold jnL; rw [List.length_set]; done) | (simp only [updT, updO, updS, updD, List.length_set]; omega) | (rw [upd_odd (by omega)] at d4; exact upd_join (by omega) (jnI_b hI hY hn) (okA hY (by omega)) (by omega) _ (by rw [d4]; rfl)) | (exact (5 : Nat))) | ((try simp only [ek, Int.toNat_natCast, decide_eq_true_eq, decide_eq_false_iff_not] at *) <;> first | omega | exact ⟨by omega, by omega⟩ | rfl))
      · -- 2
        refine Or.elim (Bool.eq_false_or_eq_true (decide ((↑k : Int) < (↑Y.length : Int)))) (fun d1 => Or.elim (Bool.eq_false_or_eq_true (decide (IntKind.i64.wrap ((↑L.length : Int) - (1 : Int)) < (0 : Int)))) (fun d2 => ⟨[true, true], .inl ⟨(k + 1, some (L ++ [at_ Y k])), [Y.length = Y.length, (↑Y.length : Int) = (↑Y.length : Int), IntKind.i64.wrap ((↑k : Int) + (1 : Int)) = (↑(k + (1 : Nat)) : Int), Y = Y, L.length + (1 : Nat) = (L ++ [at_ Y k]).length, L ++ [Y.getD k Con.zero] = L ++ [at_ Y k], (View.con L).num = L.length ∧ L.length + (1 : Nat) ≤ (1000000 : Nat), Dec (decide (IntKind.i64.wrap ((↑L.length : Int) - (1 : Int)) < (0 : Int))) true, k < Y.length, (0 : Int) ≤ (↑k : Int) ∧ (↑k : Int) < (↑Y.length : Int), Dec (decide ((↑k : Int) < (↑Y.length : Int))) true], by kernel_rfl, ⟨?_, ?_, ?_, ?_, ?_, ?_, ?_, d2, ?_, ?_, d1⟩, MuG.out ?_, InG.out ?_⟩⟩)
           (fun d2 => Or.elim (Bool.eq_false_or_eq_true ((L.getD (IntKind.i64.wrap ((↑L.length : Int) - (1 : Int))).toNat Con.zero).exp == (Y.getD k Con.zero).exp)) (fun d3 => Or.elim (Bool.eq_false_or_eq_true (((updS (updD L (IntKind.i64.wrap ((↑L.length : Int) - (1 : Int))).toNat (IntKind.i64.wrap ((L.getD (IntKind.i64.wrap ((↑L.length : Int) - (1 : Int))).toNat Con.zero).dim + (Y.getD k Con.zero).dim))) (IntKind.i64.wrap ((↑L.length : Int) - (1 : Int))).toNat (IntKind.i64.wrap (((updD L (IntKind.i64.wrap ((↑L.length : Int) - (1 : Int))).toNat (IntKind.i64.wrap ((L.getD (IntKind.i64.wrap ((↑L.length : Int) - (1 : Int))).toNat Con.zero).dim + (Y.getD k Con.zero).dim))).getD (IntKind.i64.wrap ((↑L.length : Int) - (1 : Int))).toNat Con.zero).sign * (Y.getD k Con.zero).sign))).getD (IntKind.i64.wrap ((↑L.length : Int) - (1 : Int))).toNat Con.zero).odd)) (fun d4 => ⟨[true, false, false, true], .inl ⟨(k + 1, some (jnL L (at_ Y k))), [Y.length = Y.length, (↑Y.length : Int) = (↑Y.length : Int), IntKind.i64.wrap ((↑k : Int) + (1 : Int)) = (↑(k + (1 : Nat)) : Int), Y = Y, L.length = (jnL L (at_ Y k)).length, updT (updO (updS (updD L (IntKind.i64.wrap ((↑L.length : Int) - (1 : Int))).toNat (IntKind.i64.wrap ((L.getD (IntKind.i64.wrap ((↑L.length : Int) - (1 : Int))).toNat Con.zero).dim + (Y.getD k Con.zero).dim))) (IntKind.i64.wrap ((↑L.length : Int) - (1 : Int))).toNat (IntKind.i64.wrap (((updD L (IntKind.i64.wrap ((↑L.length : Int) - (1 : Int))).toNat (IntKind.i64.wrap ((L.getD (IntKind.i64.wrap ((↑L.length : Int) - (1 : Int))).toNat Con.zero).dim + (Y.getD k Con.zero).dim))).getD (IntKind.i64.wrap ((↑L.length : Int) - (1 : Int))).toNat Con.zero).sign * (Y.getD k Con.zero).sign))) (IntKind.i64.wrap ((↑L.length : Int) - (1 : Int))).toNat true) (IntKind.i64.wrap ((↑L.length : Int) - (1 : Int))).toNat ((IntKind.i64.wrap (((updO (updS (updD L (IntKind.i64.wrap ((↑L.length : Int) - (1 : Int))).toNat (IntKind.i64.wrap ((L.getD (IntKind.i64.wrap ((↑L.length : Int) - (1 : Int))).toNat Con.zero).dim + (Y.getD k Con.zero).dim))) (IntKind.i64.wrap ((↑L.length : Int) - (1 : Int))).toNat (IntKind.i64.wrap (((updD L (IntKind.i64.wrap ((↑L.length : Int) - (1 : Int))).toNat (IntKind.i64.wrap ((L.getD (IntKind.i64.wrap ((↑L.length : Int) - (1 : Int))).toNat Con.zero).dim + (Y.getD k Con.zero).dim))).getD (IntKind.i64.wrap ((↑L.length : Int) - (1 : Int))).toNat Con.zero).sign * (Y.getD k Con.zero).sign))) (IntKind.i64.wrap ((↑L.length : Int) - (1 : Int))).toNat true).getD (IntKind.i64.wrap ((↑L.length : Int) - (1 : Int))).toNat Con.zero).oddity + (Y.getD k Con.zero).oddity)).tmod (8 : Int)) = jnL L (at_ Y k), (IntKind.i64.wrap ((↑L.length : Int) - (1 : Int))).toNat < (updO (updS (updD L (IntKind.i64.wrap ((↑L.length : Int) - (1 : Int))).toNat (IntKind.i64.wrap ((L.getD (IntKind.i64.wrap ((↑L.length : Int) - (1 : Int))).toNat Con.zero).dim + (Y.getD k Con.zero).dim))) (IntKind.i64.wrap ((↑L.length : Int) - (1 : Int))).toNat (IntKind.i64.wrap (((updD L (IntKind.i64.wrap ((↑L.length : Int) - (1 : Int))).toNat (IntKind.i64.wrap ((L.getD (IntKind.i64.wrap ((↑L.length : Int) - (1 : Int))).toNat Con.zero).dim + (Y.getD k Con.zero).dim))).getD (IntKind.i64.wrap ((↑L.length : Int) - (1 : Int))).toNat Con.zero).sign * (Y.getD k Con.zero).sign))) (IntKind.i64.wrap ((↑L.length : Int) - (1 : Int))).toNat true).length, (8 : Int) ≠ (0 : Int), (IntKind.i64.wrap ((↑L.length : Int) - (1 : Int))).toNat < (updO (updS (updD L (IntKind.i64.wrap ((↑L.length : Int) - (1 : Int))).toNat (IntKind.i64.wrap ((L.getD (IntKind.i64.wrap ((↑L.length : Int) - (1 : Int))).toNat Con.zero).dim + (Y.getD k Con.zero).dim))) (IntKind.i64.wrap ((↑L.length : Int) - (1 : Int))).toNat (IntKind.i64.wrap (((updD L (IntKind.i64.wrap ((↑L.length : Int) - (1 : Int))).toNat (IntKind.i64.wrap ((L.getD (IntKind.i64.wrap ((↑L.length : Int) - (1 : Int))).toNat Con.zero).dim + (Y.getD k Con.zero).dim))).getD (IntKind.i64.wrap ((↑L.length : Int) - (1 : Int))).toNat Con.zero).sign * (Y.getD k Con.zero).sign))) (IntKind.i64.wrap ((↑L.length : Int) - (1 : Int))).toNat true).length, (IntKind.i64.wrap ((↑L.length : Int) - (1 : Int))).toNat < (updS (updD L (IntKind.i64.wrap ((↑L.length : Int) - (1 : Int))).toNat (IntKind.i64.wrap ((L.getD (IntKind.i64.wrap ((↑L.length : Int) - (1 : Int))).toNat Con.zero).dim + (Y.getD k Con.zero).dim))) (IntKind.i64.wrap ((↑L.length : Int) - (1 : Int))).toNat (IntKind.i64.wrap (((updD L (IntKind.i64.wrap ((↑L.length : Int) - (1 : Int))).toNat (IntKind.i64.wrap ((L.getD (IntKind.i64.wrap ((↑L.length : Int) - (1 : Int))).toNat Con.zero).dim + (Y.getD k Con.zero).dim))).getD (IntKind.i64.wrap ((↑L.length : Int) - (1 : Int))).toNat Con.zero).sign * (Y.getD k Con.zero).sign))).length, Dec ((updS (updD L (IntKind.i64.wrap ((↑L.length : Int) - (1 : Int))).toNat (IntKind.i64.wrap ((L.getD (IntKind.i64.wrap ((↑L.length : Int) - (1 : Int))).toNat Con.zero).dim + (Y.getD k Con.zero).dim))) (IntKind.i64.wrap ((↑L.length : Int) - (1 : Int))).toNat (IntKind.i64.wrap (((updD L (IntKind.i64.wrap ((↑L.length : Int) - (1 : Int))).toNat (IntKind.i64.wrap ((L.getD (IntKind.i64.wrap ((↑L.length : Int) - (1 : Int))).toNat Con.zero).dim + (Y.getD k Con.zero).dim))).getD (IntKind.i64.wrap ((↑L.length : Int) - (1 : Int))).toNat Con.zero).sign * (Y.getD k Con.zero).sign))).getD (IntKind.i64.wrap ((↑L.length : Int) - (1 : Int))).toNat Con.zero).odd true, (IntKind.i64.wrap ((↑L.length : Int) - (1 : Int))).toNat < (updS (updD L (IntKind.i64.wrap ((↑L.length : Int) - (1 : Int))).toNat (IntKind.i64.wrap ((L.getD (IntKind.i64.wrap ((↑L.length : Int) - (1 : Int))).toNat Con.zero).dim + (Y.getD k Con.zero).dim))) (IntKind.i64.wrap ((↑L.length : Int) - (1 : Int))).toNat (IntKind.i64.wrap (((updD L (IntKind.i64.wrap ((↑L.length : Int) - (1 : Int))).toNat (IntKind.i64.wrap ((L.getD (IntKind.i64.wrap ((↑L.length : Int) - (1 : Int))).toNat Con.zero).dim + (Y.getD k Con.zero).dim))).getD (IntKind.i64.wrap ((↑L.length : Int) - (1 : Int))).toNat Con.zero).sign * (Y.getD k Con.zero).sign))).length, (IntKind.i64.wrap ((↑L.length : Int) - (1 : Int))).toNat < (updD L (IntKind.i64.wrap ((↑L.length : Int) - (1 : Int))).toNat (IntKind.i64.wrap ((L.getD (IntKind.i64.wrap ((↑L.length : Int) - (1 : Int))).toNat Con.zero).dim + (Y.getD k Con.zero).dim))).length, (IntKind.i64.wrap ((↑L.length : Int) - (1 : Int))).toNat < (updD L (IntKind.i64.wrap ((↑L.length : Int) - (1 : Int))).toNat (IntKind.i64.wrap ((L.getD (IntKind.i64.wrap ((↑L.length : Int) - (1 : Int))).toNat Con.zero).dim + (Y.getD k Con.zero).dim))).length, (IntKind.i64.wrap ((↑L.length : Int) - (1 : Int))).toNat < L.length, (IntKind.i64.wrap ((↑L.length : Int) - (1 : Int))).toNat < L.length, (0 : Int) ≤ IntKind.i64.wrap ((↑L.length : Int) - (1 : Int)) ∧ IntKind.i64.wrap ((↑L.length : Int) - (1 : Int)) < (↑L.length : Int), Dec ((L.getD (IntKind.i64.wrap ((↑L.length : Int) - (1 : Int))).toNat Con.zero).exp != (Y.getD k Con.zero).exp) false, (IntKind.i64.wrap ((↑L.length : Int) - (1 : Int))).toNat < L.length, (0 : Int) ≤ IntKind.i64.wrap ((↑L.length : Int) - (1 : Int)) ∧ IntKind.i64.wrap ((↑L.length : Int) - (1 : Int)) < (↑L.length : Int), Dec (decide (IntKind.i64.wrap ((↑L.length : Int) - (1 : Int)) < (0 : Int))) false, k < Y.length, (0 : Int) ≤ (↑k : Int) ∧ (↑k : Int) < (↑Y.length : Int), Dec (decide ((↑k : Int) < (↑Y.length : Int))) true], by kernel_rfl, ⟨?_, ?_, ?_, ?_, ?_, ?_, ?_, ?_, ?_, ?_, d4, ?_, ?_, ?_, ?_, ?_, ?_, (dN d3), ?_, ?_, d2, ?_, ?_, d1⟩, MuG.out ?_, InG.out ?_⟩⟩)
           (fun d4 => ⟨[true, false, false, false], .inl ⟨(k + 1, some (jnL L (at_ Y k))), [Y.length = Y.length, (↑Y.length : Int) = (↑Y.length : Int), IntKind.i64.wrap ((↑k : Int) + (1 : Int)) = (↑(k + (1 : Nat)) : Int), Y = Y, L.length = (jnL L (at_ Y k)).length, updT (updO (updS (updD L (IntKind.i64.wrap ((↑L.length : Int) - (1 : Int))).toNat (IntKind.i64.wrap ((L.getD (IntKind.i64.wrap ((↑L.length : Int) - (1 : Int))).toNat Con.zero).dim + (Y.getD k Con.zero).dim))) (IntKind.i64.wrap ((↑L.length : Int) - (1 : Int))).toNat (IntKind.i64.wrap (((updD L (IntKind.i64.wrap ((↑L.length : Int) - (1 : Int))).toNat (IntKind.i64.wrap ((L.getD (IntKind.i64.wrap ((↑L.length : Int) - (1 : Int))).toNat Con.zero).dim + (Y.getD k Con.zero).dim))).getD (IntKind.i64.wrap ((↑L.length : Int) - (1 : Int))).toNat Con.zero).sign * (Y.getD k Con.zero).sign))) (IntKind.i64.wrap ((↑L.length : Int) - (1 : Int))).toNat (Y.getD k Con.zero).odd) (IntKind.i64.wrap ((↑L.length : Int) - (1 : Int))).toNat ((IntKind.i64.wrap (((updO (updS (updD L (IntKind.i64.wrap ((↑L.length : Int) - (1 : Int))).toNat (IntKind.i64.wrap ((L.getD (IntKind.i64.wrap ((↑L.length : Int) - (1 : Int))).toNat Con.zero).dim + (Y.getD k Con.zero).dim))) (IntKind.i64.wrap ((↑L.length : Int) - (1 : Int))).toNat (IntKind.i64.wrap (((updD L (IntKind.i64.wrap ((↑L.length : Int) - (1 : Int))).toNat (IntKind.i64.wrap ((L.getD (IntKind.i64.wrap ((↑L.length : Int) - (1 : Int))).toNat Con.zero).dim + (Y.getD k Con.zero).dim))).getD (IntKind.i64.wrap ((↑L.length : Int) - (1 : Int))).toNat Con.zero).sign * (Y.getD k Con.zero).sign))) (IntKind.i64.wrap ((↑L.length : Int) - (1 : Int))).toNat (Y.getD k Con.zero).odd).getD (IntKind.i64.wrap ((↑L.length : Int) - (1 : Int))).toNat Con.zero).oddity + (Y.getD k Con.zero).oddity)).tmod (8 : Int)) = jnL L (at_ Y k), (IntKind.i64.wrap ((↑L.length : Int) - (1 : Int))).toNat < (updO (updS (updD L (IntKind.i64.wrap ((↑L.length : Int) - (1 : Int))).toNat (IntKind.i64.wrap ((L.getD (IntKind.i64.wrap ((↑L.length : Int) - (1 : Int))).toNat Con.zero).dim + (Y.getD k Con.zero).dim))) (IntKind.i64.wrap ((↑L.length : Int) - (1 : Int))).toNat (IntKind.i64.wrap (((updD L (IntKind.i64.wrap ((↑L.length : Int) - (1 : Int))).toNat (IntKind.i64.wrap ((L.getD (IntKind.i64.wrap ((↑L.length : Int) - (1 : Int))).toNat Con.zero).dim + (Y.getD k Con.zero).dim))).getD (IntKind.i64.wrap ((↑L.length : Int) - (1 : Int))).toNat Con.zero).sign * (Y.getD k Con.zero).sign))) (IntKind.i64.wrap ((↑L.length : Int) - (1 : Int))).toNat (Y.getD k Con.zero).odd).length, (8 : Int) ≠ (0 : Int), (IntKind.i64.wrap ((↑L.length : Int) - (1 : Int))).toNat < (updO (updS (updD L (IntKind.i64.wrap ((↑L.length : Int) - (1 : Int))).toNat (IntKind.i64.wrap ((L.getD (IntKind.i64.wrap ((↑L.length : Int) - (1 : Int))).toNat Con.zero).dim + (Y.getD k Con.zero).dim))) (IntKind.i64.wrap ((↑L.length : Int) - (1 : Int))).toNat (IntKind.i64.wrap (((updD L (IntKind.i64.wrap ((↑L.length : Int) - (1 : Int))).toNat (IntKind.i64.wrap ((L.getD (IntKind.i64.wrap ((↑L.length : Int) - (1 : Int))).toNat Con.zero).dim + (Y.getD k Con.zero).dim))).getD (IntKind.i64.wrap ((↑L.length : Int) - (1 : Int))).toNat Con.zero).sign * (Y.getD k Con.zero).sign))) (IntKind.i64.wrap ((↑L.length : Int) - (1 : Int))).toNat (Y.getD k Con.zero).odd).length, (IntKind.i64.wrap ((↑L.length : Int) - (1 : Int))).toNat < (updS (updD L (IntKind.i64.wrap ((↑L.length : Int) - (1 : Int))).toNat (IntKind.i64.wrap ((L.getD (IntKind.i64.wrap ((↑L.length : Int) - (1 : Int))).toNat Con.zero).dim + (Y.getD k Con.zero).dim))) (IntKind.i64.wrap ((↑L.length : Int) - (1 : Int))).toNat (IntKind.i64.wrap (((updD L (IntKind.i64.wrap ((↑L.length : Int) - (1 : Int))).toNat (IntKind.i64.wrap ((L.getD (IntKind.i64.wrap ((↑L.length : Int) - (1 : Int))).toNat Con.zero).dim + (Y.getD k Con.zero).dim))).getD (IntKind.i64.wrap ((↑L.length : Int) - (1 : Int))).toNat Con.zero).sign * (Y.getD k Con.zero).sign))).length, Dec ((updS (updD L (IntKind.i64.wrap ((↑L.length : Int) - (1 : Int))).toNat (IntKind.i64.wrap ((L.getD (IntKind.i64.wrap ((↑L.length : Int) - (1 : Int))).toNat Con.zero).dim + (Y.getD k Con.zero).dim))) (IntKind.i64.wrap ((↑L.length : Int) - (1 : Int))).toNat (IntKind.i64.wrap (((updD L (IntKind.i64.wrap ((↑L.length : Int) - (1 : Int))).toNat (IntKind.i64.wrap ((L.getD (IntKind.i64.wrap ((↑L.length : Int) - (1 : Int))).toNat Con.zero).dim + (Y.getD k Con.zero).dim))).getD (IntKind.i64.wrap ((↑L.length : Int) - (1 : Int))).toNat Con.zero).sign * (Y.getD k Con.zero).sign))).getD (IntKind.i64.wrap ((↑L.length : Int) - (1 : Int))).toNat Con.zero).odd false, (IntKind.i64.wrap ((↑L.length : Int) - (1 : Int))).toNat < (updS (updD L (IntKind.i64.wrap ((↑L.length : Int) - (1 : Int))).toNat (IntKind.i64.wrap ((L.getD (IntKind.i64.wrap ((↑L.length : Int) - (1 : Int))).toNat Con.zero).dim + (Y.getD k Con.zero).dim))) (IntKind.i64.wrap ((↑L.length : Int) - (1 : Int))).toNat (IntKind.i64.wrap (((updD L (IntKind.i64.wrap ((↑L.length : Int) - (1 : Int))).toNat (IntKind.i64.wrap ((L.getD (IntKind.i64.wrap ((↑L.length : Int) - (1 : Int))).toNat Con.zero).dim + (Y.getD k Con.zero).dim))).getD (IntKind.i64.wrap ((↑L.length : Int) - (1 : Int))).toNat Con.zero).sign * (Y.getD k Con.zero).sign))).length, (IntKind.i64.wrap ((↑L.length : Int) - (1 : Int))).toNat < (updD L (IntKind.i64.wrap ((↑L.length : Int) - (1 : Int))).toNat (IntKind.i64.wrap ((L.getD (IntKind.i64.wrap ((↑L.length : Int) - (1 : Int))).toNat Con.zero).dim + (Y.getD k Con.zero).dim))).length, (IntKind.i64.wrap ((↑L.length : Int) - (1 : Int))).toNat < (updD L (IntKind.i64.wrap ((↑L.length : Int) - (1 : Int))).toNat (IntKind.i64.wrap ((L.getD (IntKind.i64.wrap ((↑L.length : Int) - (1 : Int))).toNat Con.zero).dim + (Y.getD k Con.zero).dim))).length, (IntKind.i64.wrap ((↑L.length : Int) - (1 : Int))).toNat < L.length, (IntKind.i64.wrap ((↑L.length : Int) - (1 : Int))).toNat < L.length, (0 : Int) ≤ IntKind.i64.wrap ((↑L.length : Int) - (1 : Int)) ∧ IntKind.i64.wrap ((↑L.length : Int) - (1 : Int)) < (↑L.length : Int), Dec ((L.getD (IntKind.i64.wrap ((↑L.length : Int) - (1 : Int))).toNat Con.zero).exp != (Y.getD k Con.zero).exp) false, (IntKind.i64.wrap ((↑L.length : Int) - (1 : Int))).toNat < L.length, (0 : Int) ≤ IntKind.i64.wrap ((↑L.length : Int) - (1 : Int)) ∧ IntKind.i64.wrap ((↑L.length : Int) - (1 : Int)) < (↑L.length : Int), Dec (decide (IntKind.i64.wrap ((↑L.length : Int) - (1 : Int)) < (0 : Int))) false, k < Y.length, (0 : Int) ≤ (↑k : Int) ∧ (↑k : Int) < (↑Y.length : Int), Dec (decide ((↑k : Int) < (↑Y.length : Int))) true], by kernel_rfl, ⟨?_, ?_, ?_, ?_, ?_, ?_, ?_, ?_, ?_, ?_, d4, ?_, ?_, ?_, ?_, ?_, ?_, (dN d3), ?_, ?_, d2, ?_, ?_, d1⟩, MuG.out ?_, InG.out ?_⟩⟩))
           (fun d3 => ⟨[true, false, true], .inl ⟨(k + 1, some (L ++ [at_ Y k])), [Y.length = Y.length, (↑Y.length : Int) = (↑Y.length : Int), IntKind.i64.wrap ((↑k : Int) + (1 : Int)) = (↑(k + (1 : Nat)) : Int), Y = Y, L.length + (1 : Nat) = (L ++ [at_ Y k]).length, L ++ [Y.getD k Con.zero] = L ++ [at_ Y k], (View.con L).num = L.length ∧ L.length + (1 : Nat) ≤ (1000000 : Nat), Dec ((L.getD (IntKind.i64.wrap ((↑L.length : Int) - (1 : Int))).toNat Con.zero).exp != (Y.getD k Con.zero).exp) true, (IntKind.i64.wrap ((↑L.length : Int) - (1 : Int))).toNat < L.length, (0 : Int) ≤ IntKind.i64.wrap ((↑L.length : Int) - (1 : Int)) ∧ IntKind.i64.wrap ((↑L.length : Int) - (1 : Int)) < (↑L.length : Int), Dec (decide (IntKind.i64.wrap ((↑L.length : Int) - (1 : Int)) < (0 : Int))) false, k < Y.length, (0 : Int) ≤ (↑k : Int) ∧ (↑k : Int) < (↑Y.length : Int), Dec (decide ((↑k : Int) < (↑Y.length : Int))) true], by kernel_rfl, ⟨?_, ?_, ?_, ?_, ?_, ?_, ?_, (dN d3), ?_, ?_, d2, ?_, ?_, d1⟩, MuG.out ?_, InG.out ?_⟩⟩)))
           (fun d1 => ⟨[false], .inr ⟨[Y = Y, L.length = (cmpL Y).length, L = cmpL Y, Dec (decide ((↑k : Int) < (↑Y.length : Int))) false], by kernel_rfl, ⟨?_, ?_, ?_, d1⟩, rfl⟩⟩)
        all_goals first | (refine MuG.mk ?_; (simp only [decide_eq_true_eq] at d1; show Y.length - (k + 1) < Y.length - k; omega)) | (refine InG.mk ?_; (first | (exact jnI_one hI hne) | (have hp := jnI_pos hI; have hl := jnI_len hI; have el : IntKind.i64.wrap ((L.length : Int) - 1) = ((L.length - 1 : Nat) : Int) := (by rw [w64 (by omega) (by omega)]; omega); simp only [el, Int.toNat_natCast, decide_eq_true_eq, decide_eq_false_iff_not, beq_iff_eq, beq_eq_false_iff_ne, ne_eq] at *; first | (exfalso; omega) | exact jnI_app hI (by omega) d3 | exact jnI_jn hI (by omega) d3))) | (refine CtG.mk ?_; (have h0 : k = 0 := hI; simp only [decide_eq_false_iff_not] at d1; omega)) | (first | (with_reducible rfl) | exact ⟨rfl, rfl⟩ | decide | (have hp := jnI_pos hI; have hl := jnI_len hI; have el : IntKind.i64.wrap ((L.length : Int) - 1) = ((L.length - 1 : Nat) : Int) := (by rw [w64 (by omega) (by omega)]; omega); (try simp only [el, ek, Int.toNat_natCast, decide_eq_true_eq, decide_eq_false_iff_not, View.num, beq_iff_eq, beq_eq_false_iff_ne, ne_eq] at *) <;> first | omega | exact ⟨by omega, by omega⟩ | exact ⟨trivial, by omega⟩ | (rw [← jnI_end hI (by omega)]; done) | (exact jnI_end hI (by omega)) | (rw [List.length_append]; rfl) | (unfold jnL; rw [List.length_set]; done) | (simp only [updT, updO, updS, updD, List.length_set]; omega) | (rw [upd_odd (by omega)] at d4; exact upd_join (by omega) (jnI_b hI hY hn) (okA hY (by omega)) (by omega) _ (by rw [d4]; rfl)) | (exact (5 : Nat))) | ((try simp only [ek, Int.toNat_natCast, decide_eq_true_eq, decide_eq_false_iff_not] at *) <;> first | omega | exact ⟨by omega, by omega⟩ | rfl))
end Go.Proofs.YtkkmlbhmcdoibaaGreatDoor.S

namespace Go.Proofs.YtkkmlbhmcdoibaaGreatDoor.S
open Go.QfSy Go.RowKit
noncomputable def orcSu (X : List Con) : CallF := orcSo X (orcN 25 37 1000 (orcOf EV.ng entsVW))
theorem orcSu_ok {X : List Con} (hX : okE X) (h0 : 1 ≤ X.length) : CallOk Tryz.prog EV.ng (orcSu X) := orcSo_ok hX h0 (orcN_ok (fun n h1 h2 => by
  obtain ⟨k, rfl⟩ : ∃ k : Nat, n = (k : Int) := ⟨n.toNat, by omega⟩
  exact grow_new k (by omega) (by omega)) (orcOf_ok entsVW_ok))
theorem val2_up {L : List Con} (h : val2M 2 L = true) : asc L := at_asc (val2_asc h)
theorem val2_le {L : List Con} (h : val2M 2 L = true) : L.length ≤ 8 := by have := (val2_ok h).2.2.2; omega
theorem pair_okE {A B : List Con} (hA : val2M 2 A = true) (hB : val2M 2 B = true) : okE (A ++ B) := by
  have a := (val2_ok hA).1.e; have b := (val2_ok hB).1.e
  refine ⟨by have := val2_le hA; have := val2_le hB; rw [List.length_append]; omega, fun c hc => ?_⟩
  rcases List.mem_append.1 hc with h | h
  · exact a.2 c h
  · exact b.2 c h
theorem pair_addOk {A B : List Con} (hA : val2M 2 A = true) (hB : val2M 2 B = true) : ∀ c ∈ srt (A ++ B), addOk c := fun c hc => by
  rcases List.mem_append.1 (srt_mem _ hc) with h | h
  · exact val2_addOk hA c h
  · exact val2_addOk hB c h
set_option maxHeartbeats 1000000 in
set_option maxRecDepth 100000 in
theorem sum_yes (p q : Int) (A B : List Con) (hA : val2M p A = true) (hB : val2M q B = true) : PureC Tryz.prog [] 11 [.agg [.int .i64 p, roC A], .agg [.int .i64 q, roC B]] (.tup [.agg [.int .i64 (bP (smV p q A B)), roC (bL (smV p q A B) (addM A B))], .int .i64 (smE (smV p q A B))]) := by
  have vA := val2_two hA; have vB := val2_two hB; have lA := val2_le vA; have lB := val2_le vB; have pA := (val2_ok vA).2.2.1; have hX := pair_okE vA vB; have hs : (srt (A ++ B)).length = A.length + B.length := (by rw [srt_len, List.length_append]); have hs2 : (A ++ B).length = A.length + B.length := List.length_append; have h0 : 1 ≤ (A ++ B).length := (by omega); have hY := pair_addOk vA vB; have hn : (srt (A ++ B)).length ≤ 1000 := (by omega); have hne : 0 < (srt (A ++ B)).length := (by omega); have he : addM A B = cmpL (srt (A ++ B)) := (cmp_srt (val2_up vA) (val2_up vB)).symm; have hV : smV p q A B = val2M 2 (cmpL (srt (A ++ B))) := (by unfold smV; rw [hA, hB, he]; rfl); have e1 : IntKind.i64.wrap (0 + (A.length : Int)) = (A.length : Int) := (by rw [w64 (by omega) (by omega)]; omega); have e2 : IntKind.i64.wrap (IntKind.i64.wrap (0 + (A.length : Int)) + (B.length : Int)) = (A.length : Int) + (B.length : Int) := (by rw [e1, w64 (by omega) (by omega)]); have k1 : val2M p (consR A.length fun i => (A.getD i Con.zero).rvs) = true := (by rw [consR_ro]; exact hA); have k2 : val2M q (consR B.length fun i => (B.getD i Con.zero).rvs) = true := (by rw [consR_ro]; exact hB); have k3 : decide (IntKind.i64.wrap ((0 : Int) + (↑A.length : Int)) < (0 : Int)) = false := decide_eq_false (by rw [e1]; omega); have k4 : decide (IntKind.i64.wrap (IntKind.i64.wrap ((0 : Int) + (↑A.length : Int)) + (↑B.length : Int)) < (0 : Int)) = false := decide_eq_false (by rw [e2]; omega); have k5 : decide ((20 : Int) ≤ (↑((0 : Nat) + A.length + B.length) : Int)) = false := decide_eq_false (by omega); have k6 : decide ((20 : Int) < (↑((0 : Nat) + A.length + B.length) : Int)) = false := decide_eq_false (by omega); have lC := cmpL_len (srt (A ++ B))
  have rr := fun (tp : List Bool) (ms : List Prop) h hm => pure_run evOk (callF_ok evOk (orcSu_ok hX h0) 8) Tryz.func11 (A := [.agg [.int .i64 p, roC A], .agg [.int .i64 q, roC B]]) (N := Nat.max 1 Tryz.f11.ntmps) rfl (one_ann (su_loop _ hY hn hne)) rfl rfl evNg (tabs := []) (R := .tup [.agg [.int .i64 (bP (smV p q A B)), roC (bL (smV p q A B) (addM A B))], .int .i64 (smE (smV p q A B))]) (tp := tp) (ms := ms) h hm
  refine Or.elim (Bool.eq_false_or_eq_true (val2M (2 : Int) (consR (cmpL (srt (A ++ B))).length fun i => ((cmpL (srt (A ++ B))).getD i Con.zero).rvs))) (fun d1 => rr [false, false, false, false, false, false, false] [(2 : Int) = bP (smV p q A B), (cmpL (srt (A ++ B))).length = (bL (smV p q A B) (addM A B)).length ∧ (cmpL (srt (A ++ B))).length = (cmpL (srt (A ++ B))).length ∧ ∀ (i : Nat), i < (cmpL (srt (A ++ B))).length → (fun i => ((bL (smV p q A B) (addM A B)).getD i Con.zero).rvs) i = ((cmpL (srt (A ++ B))).getD i Con.zero).rvs, (0 : Int) = smE (smV p q A B), Dec (!val2M (2 : Int) (consR (cmpL (srt (A ++ B))).length fun i => ((cmpL (srt (A ++ B))).getD i Con.zero).rvs)) false, (cmpL (srt (A ++ B))).length = (cmpL (srt (A ++ B))).length, (∀ (i : Nat), i < (cmpL (srt (A ++ B))).length → (fun i => ((cmpL (srt (A ++ B))).getD i Con.zero).rvs) i = (Con.ofR ((fun i => ((cmpL (srt (A ++ B))).getD i Con.zero).rvs) i)).rvs) ∧ (cmpL (srt (A ++ B))).length ≤ (1000 : Nat), (0 : Nat) + A.length + B.length = (srt (A ++ B)).length, (↑((0 : Nat) + A.length + B.length) : Int) = (↑(srt (A ++ B)).length : Int), srt (A ++ B) = srt (A ++ B), Dec (decide ((20 : Int) < (↑((0 : Nat) + A.length + B.length) : Int))) false, (0 : Nat) + A.length + B.length = (A ++ B).length, (↑((0 : Nat) + A.length + B.length) : Int) = (↑(A ++ B).length : Int), (([] ++ consR A.length fun i => (A.getD i Con.zero).rvs) ++ consR B.length fun i => (B.getD i Con.zero).rvs) = A ++ B, Dec (decide ((20 : Int) ≤ (↑((0 : Nat) + A.length + B.length) : Int))) false, (View.con ([] ++ consR A.length fun i => (A.getD i Con.zero).rvs)).num = (0 : Nat) + A.length ∧ (0 : Nat) + A.length + B.length ≤ (1000000 : Nat), ∀ (i : Nat), i < B.length → (fun i => (B.getD i Con.zero).rvs) i = (Con.ofR ((fun i => (B.getD i Con.zero).rvs) i)).rvs, (View.con []).num = (0 : Nat) ∧ (0 : Nat) + A.length ≤ (1000000 : Nat), ∀ (i : Nat), i < A.length → (fun i => (A.getD i Con.zero).rvs) i = (Con.ofR ((fun i => (A.getD i Con.zero).rvs) i)).rvs, (0 : Int) < IntKind.i64.wrap (IntKind.i64.wrap ((0 : Int) + (↑A.length : Int)) + (↑B.length : Int)) ∧ IntKind.i64.wrap (IntKind.i64.wrap ((0 : Int) + (↑A.length : Int)) + (↑B.length : Int)) ≤ (1000 : Int), Dec (decide (IntKind.i64.wrap (IntKind.i64.wrap ((0 : Int) + (↑A.length : Int)) + (↑B.length : Int)) < (0 : Int))) false, Dec (decide (IntKind.i64.wrap ((0 : Int) + (↑A.length : Int)) < (0 : Int))) false, Dec (!val2M q (consR B.length fun i => (B.getD i Con.zero).rvs)) false, (∀ (i : Nat), i < B.length → (fun i => (B.getD i Con.zero).rvs) i = (Con.ofR ((fun i => (B.getD i Con.zero).rvs) i)).rvs) ∧ B.length ≤ (1000 : Nat), Dec (!val2M p (consR A.length fun i => (A.getD i Con.zero).rvs)) false, (∀ (i : Nat), i < A.length → (fun i => (A.getD i Con.zero).rvs) i = (Con.ofR ((fun i => (A.getD i Con.zero).rvs) i)).rvs) ∧ A.length ≤ (1000 : Nat)] (by kernel_rfl) ⟨?_, ?_, ?_, (dN d1), ?_, ?_, ?_, ?_, ?_, k6, ?_, ?_, ?_, k5, ?_, ?_, ?_, ?_, ?_, k4, k3, (dN k2), ?_, (dN k1), (?_ : (∀ (i : Nat), i < A.length → (fun i => (A.getD i Con.zero).rvs) i = (Con.ofR ((fun i => (A.getD i Con.zero).rvs) i)).rvs) ∧ A.length ≤ (1000 : Nat))⟩)
           (fun d1 => rr [false, false, false, false, false, false, true] [(0 : Int) = bP (smV p q A B), (bL (smV p q A B) (addM A B)).length = (0 : Nat), (22 : Int) = smE (smV p q A B), Dec (!val2M (2 : Int) (consR (cmpL (srt (A ++ B))).length fun i => ((cmpL (srt (A ++ B))).getD i Con.zero).rvs)) true, (cmpL (srt (A ++ B))).length = (cmpL (srt (A ++ B))).length, (∀ (i : Nat), i < (cmpL (srt (A ++ B))).length → (fun i => ((cmpL (srt (A ++ B))).getD i Con.zero).rvs) i = (Con.ofR ((fun i => ((cmpL (srt (A ++ B))).getD i Con.zero).rvs) i)).rvs) ∧ (cmpL (srt (A ++ B))).length ≤ (1000 : Nat), (0 : Nat) + A.length + B.length = (srt (A ++ B)).length, (↑((0 : Nat) + A.length + B.length) : Int) = (↑(srt (A ++ B)).length : Int), srt (A ++ B) = srt (A ++ B), Dec (decide ((20 : Int) < (↑((0 : Nat) + A.length + B.length) : Int))) false, (0 : Nat) + A.length + B.length = (A ++ B).length, (↑((0 : Nat) + A.length + B.length) : Int) = (↑(A ++ B).length : Int), (([] ++ consR A.length fun i => (A.getD i Con.zero).rvs) ++ consR B.length fun i => (B.getD i Con.zero).rvs) = A ++ B, Dec (decide ((20 : Int) ≤ (↑((0 : Nat) + A.length + B.length) : Int))) false, (View.con ([] ++ consR A.length fun i => (A.getD i Con.zero).rvs)).num = (0 : Nat) + A.length ∧ (0 : Nat) + A.length + B.length ≤ (1000000 : Nat), ∀ (i : Nat), i < B.length → (fun i => (B.getD i Con.zero).rvs) i = (Con.ofR ((fun i => (B.getD i Con.zero).rvs) i)).rvs, (View.con []).num = (0 : Nat) ∧ (0 : Nat) + A.length ≤ (1000000 : Nat), ∀ (i : Nat), i < A.length → (fun i => (A.getD i Con.zero).rvs) i = (Con.ofR ((fun i => (A.getD i Con.zero).rvs) i)).rvs, (0 : Int) < IntKind.i64.wrap (IntKind.i64.wrap ((0 : Int) + (↑A.length : Int)) + (↑B.length : Int)) ∧ IntKind.i64.wrap (IntKind.i64.wrap ((0 : Int) + (↑A.length : Int)) + (↑B.length : Int)) ≤ (1000 : Int), Dec (decide (IntKind.i64.wrap (IntKind.i64.wrap ((0 : Int) + (↑A.length : Int)) + (↑B.length : Int)) < (0 : Int))) false, Dec (decide (IntKind.i64.wrap ((0 : Int) + (↑A.length : Int)) < (0 : Int))) false, Dec (!val2M q (consR B.length fun i => (B.getD i Con.zero).rvs)) false, (∀ (i : Nat), i < B.length → (fun i => (B.getD i Con.zero).rvs) i = (Con.ofR ((fun i => (B.getD i Con.zero).rvs) i)).rvs) ∧ B.length ≤ (1000 : Nat), Dec (!val2M p (consR A.length fun i => (A.getD i Con.zero).rvs)) false, (∀ (i : Nat), i < A.length → (fun i => (A.getD i Con.zero).rvs) i = (Con.ofR ((fun i => (A.getD i Con.zero).rvs) i)).rvs) ∧ A.length ≤ (1000 : Nat)] (by kernel_rfl) ⟨?_, ?_, ?_, (dN d1), ?_, ?_, ?_, ?_, ?_, k6, ?_, ?_, ?_, k5, ?_, ?_, ?_, ?_, ?_, k4, k3, (dN k2), ?_, (dN k1), (?_ : (∀ (i : Nat), i < A.length → (fun i => (A.getD i Con.zero).rvs) i = (Con.ofR ((fun i => (A.getD i Con.zero).rvs) i)).rvs) ∧ A.length ≤ (1000 : Nat))⟩)
  all_goals first | (first | (with_reducible rfl) | (with_reducible exact ⟨rfl, rfl⟩) | exact fun _ _ => rfl | omega | exact ⟨fun _ _ => rfl, by omega⟩ | (rw [e2]; exact ⟨by omega, by omega⟩) | exact ⟨rfl, by omega⟩ | exact ⟨by show (([] : List Con) ++ consR A.length _).length = _; rw [consR_ro]; simp, by omega⟩ | (rw [consR_ro, consR_ro]; rfl) | (rw [consR_ro] at d1; first | (rw [hV, d1]; rfl) | (rw [hV, he, d1]; exact ⟨rfl, rfl, fun _ _ => rfl⟩)) | (exact (5 : Nat)))
set_option maxRecDepth 100000 in
theorem sum_n1 (p q : Int) (A B : List Con) (hA : val2M p A = false) (lA : A.length ≤ 1000) : PureC Tryz.prog [] 11 [.agg [.int .i64 p, roC A], .agg [.int .i64 q, roC B]] (.tup [.agg [.int .i64 0, roC []], .int .i64 22]) := by
  have k1 : val2M p (consR A.length fun i => (A.getD i Con.zero).rvs) = false := (by rw [consR_ro]; exact hA)
  have rr := fun (tp : List Bool) (ms : List Prop) h hm => pure_run evOk (callF_ok evOk (orcOf_ok entsVW_ok) 8) Tryz.func11 (A := [.agg [.int .i64 p, roC A], .agg [.int .i64 q, roC B]]) rfl none_ann rfl rfl evNg (tabs := []) (R := .tup [.agg [.int .i64 0, roC []], .int .i64 22]) (tp := tp) (ms := ms) h hm
  refine rr [true] [(0 : Int) = (0 : Int), (0 : Nat) = (0 : Nat), (22 : Int) = (22 : Int), Dec (!val2M p (consR A.length fun i => (A.getD i Con.zero).rvs)) true, (∀ (i : Nat), i < A.length → (fun i => (A.getD i Con.zero).rvs) i = (Con.ofR ((fun i => (A.getD i Con.zero).rvs) i)).rvs) ∧ A.length ≤ (1000 : Nat)] (by kernel_rfl) ⟨?_, ?_, ?_, (dN k1), (?_ : (∀ (i : Nat), i < A.length → (fun i => (A.getD i Con.zero).rvs) i = (Con.ofR ((fun i => (A.getD i Con.zero).rvs) i)).rvs) ∧ A.length ≤ (1000 : Nat))⟩
  all_goals first | (first | rfl | exact ⟨rfl, rfl⟩ | exact ⟨fun _ _ => rfl, lA⟩)
set_option maxRecDepth 100000 in
theorem sum_n2 (p q : Int) (A B : List Con) (hA : val2M p A = true) (hB : val2M q B = false) (lA : A.length ≤ 1000) (lB : B.length ≤ 1000) : PureC Tryz.prog [] 11 [.agg [.int .i64 p, roC A], .agg [.int .i64 q, roC B]] (.tup [.agg [.int .i64 0, roC []], .int .i64 22]) := by
  have k1 : val2M p (consR A.length fun i => (A.getD i Con.zero).rvs) = true := (by rw [consR_ro]; exact hA); have k2 : val2M q (consR B.length fun i => (B.getD i Con.zero).rvs) = false := (by rw [consR_ro]; exact hB)
  have rr := fun (tp : List Bool) (ms : List Prop) h hm => pure_run evOk (callF_ok evOk (orcOf_ok entsVW_ok) 8) Tryz.func11 (A := [.agg [.int .i64 p, roC A], .agg [.int .i64 q, roC B]]) rfl none_ann rfl rfl evNg (tabs := []) (R := .tup [.agg [.int .i64 0, roC []], .int .i64 22]) (tp := tp) (ms := ms) h hm
  refine rr [false, true] [(0 : Int) = (0 : Int), (0 : Nat) = (0 : Nat), (22 : Int) = (22 : Int), Dec (!val2M q (consR B.length fun i => (B.getD i Con.zero).rvs)) true, (∀ (i : Nat), i < B.length → (fun i => (B.getD i Con.zero).rvs) i = (Con.ofR ((fun i => (B.getD i Con.zero).rvs) i)).rvs) ∧ B.length ≤ (1000 : Nat), Dec (!val2M p (consR A.length fun i => (A.getD i Con.zero).rvs)) false, (∀ (i : Nat), i < A.length → (fun i => (A.getD i Con.zero).rvs) i = (Con.ofR ((fun i => (A.getD i Con.zero).rvs) i)).rvs) ∧ A.length ≤ (1000 : Nat)] (by kernel_rfl) ⟨?_, ?_, ?_, (dN k2), ?_, (dN k1), (?_ : (∀ (i : Nat), i < A.length → (fun i => (A.getD i Con.zero).rvs) i = (Con.ofR ((fun i => (A.getD i Con.zero).rvs) i)).rvs) ∧ A.length ≤ (1000 : Nat))⟩
  all_goals first | (first | rfl | exact ⟨rfl, rfl⟩ | exact ⟨fun _ _ => rfl, lA⟩ | exact ⟨fun _ _ => rfl, lB⟩)
theorem tsum_pure (p q : Int) (A B : List Con) (lA : A.length ≤ 1000) (lB : B.length ≤ 1000) : PureC Tryz.prog [] 11 [.agg [.int .i64 p, roC A], .agg [.int .i64 q, roC B]] (.tup [.agg [.int .i64 (bP (smV p q A B)), roC (bL (smV p q A B) (addM A B))], .int .i64 (smE (smV p q A B))]) := by
  cases hA : val2M p A with
  | false =>
    have h : smV p q A B = false := by unfold smV; rw [hA]; rfl
    rw [h]; exact sum_n1 p q A B hA lA
  | true => cases hB : val2M q B with
    | false =>
      have h : smV p q A B = false := by unfold smV; rw [hA, hB]; rfl
      rw [h]; exact sum_n2 p q A B hA hB lA lB
    | true => exact sum_yes p q A B hA hB
end Go.Proofs.YtkkmlbhmcdoibaaGreatDoor.S

namespace Go.Proofs.YtkkmlbhmcdoibaaGreatDoor.S
open Go.QfSy Go.RowKit
set_option maxRecDepth 100000 in
theorem rawM (kx : Int) (X : List Prt) (most : Int) (hX : ∀ p ∈ X, p.ok) (hn : X.length ≤ 900) (h1 : 1 ≤ most) (h2 : most ≤ 8) : PureC Tryz.prog [] 10 [.agg [.int .u8 kx, roP X], .int .i64 most] (.agg [.int .i64 2, roC (listV most true X)]) := by
  have rr := fun (tp : List Bool) (ms : List Prop) h hm => pure_run evOk (callF_ok evOk (orcOf_ok entsLi_ok) 8) Tryz.func10 (A := [.agg [.int .u8 kx, roP X], .int .i64 most]) rfl none_ann rfl rfl evNg (tabs := []) (R := .agg [.int .i64 2, roC (listV most true X)]) (tp := tp) (ms := ms) h hm
  refine rr [] [(2 : Int) = (2 : Int), (listV most true (prtR X.length fun i => (X.getD i Prt.zero).rvs)).length = (listV most true X).length ∧ (fun i => ((listV most true (prtR X.length fun i => (X.getD i Prt.zero).rvs)).getD i Con.zero).rvs) = fun i => ((listV most true X).getD i Con.zero).rvs, (∀ (i : Nat), i < X.length → (fun i => (X.getD i Prt.zero).rvs) i = (Prt.ofR ((fun i => (X.getD i Prt.zero).rvs) i)).rvs) ∧ (∀ (p : Prt), (p ∈ prtR X.length fun i => (X.getD i Prt.zero).rvs) → p.ok) ∧ (1 : Int) ≤ most ∧ most ≤ (100 : Int) ∧ X.length ≤ (1000 : Nat)] (by kernel_rfl) ⟨?_, ?_, (?_ : (∀ (i : Nat), i < X.length → (fun i => (X.getD i Prt.zero).rvs) i = (Prt.ofR ((fun i => (X.getD i Prt.zero).rvs) i)).rvs) ∧ (∀ (p : Prt), (p ∈ prtR X.length fun i => (X.getD i Prt.zero).rvs) → p.ok) ∧ (1 : Int) ≤ most ∧ most ≤ (100 : Int) ∧ X.length ≤ (1000 : Nat))⟩
  all_goals first | (first | (with_reducible rfl) | exact ⟨rfl, rfl⟩ | exact ⟨fun _ _ => rfl, by rw [prtR_ro]; exact hX, by omega, by omega, by omega⟩ | (rw [prtR_ro]; exact ⟨rfl, rfl⟩))
end Go.Proofs.YtkkmlbhmcdoibaaGreatDoor.S

namespace Go.Proofs.YtkkmlbhmcdoibaaGreatDoor.S
open Go.QfSy Go.RowKit
noncomputable def entsSu : List OEnt := [
  ⟨11, [], fun A => match A with
    | [.agg [.int .i64 p, .sl n 5 row], .agg [.int .i64 q, .sl m 5 row']] => some (.tup [.agg [.int .i64 (bP (smV p q (consR n row) (consR m row'))), roC (bL (smV p q (consR n row) (consR m row')) (addM (consR n row) (consR m row')))], .int .i64 (smE (smV p q (consR n row) (consR m row')))], [(∀ i, i < n → row i = (Con.ofR (row i)).rvs) ∧ (∀ i, i < m → row' i = (Con.ofR (row' i)).rvs) ∧ n ≤ 1000 ∧ m ≤ 1000])
    | _ => none⟩,
  ⟨12, [], fun A => match A with
    | [.agg [.int .i64 p, .sl n 5 row], .agg [.int .i64 q, .sl m 5 row']] => some (.tup [.agg [.int .i64 (bP (smV p q (consR n row) (consR m row'))), roC (bL (smV p q (consR n row) (consR m row')) (addM (consR n row) (consR m row')))], .int .i64 (smE (smV p q (consR n row) (consR m row')))], [(∀ i, i < n → row i = (Con.ofR (row i)).rvs) ∧ (∀ i, i < m → row' i = (Con.ofR (row' i)).rvs) ∧ n ≤ 1000 ∧ m ≤ 1000])
    | _ => none⟩,
  ⟨13, [], fun A => match A with
    | [.agg [.int .i64 p, .sl n 5 row], .agg [.int .i64 q, .sl m 5 row']] => some (.bool true, [(∀ i, i < n → row i = (Con.ofR (row i)).rvs) ∧ (∀ i, i < m → row' i = (Con.ofR (row' i)).rvs) ∧ p = q ∧ consR n row = consR m row' ∧ n ≤ 1000])
    | _ => none⟩,
  ⟨10, [], fun A => match A with
    | [.agg [.int .u8 pr, .sl n 5 row], .int .i64 most] => some (.agg [.int .i64 2, roC (listV most true (prtR n row))], [(∀ i, i < n → row i = (Prt.ofR (row i)).rvs) ∧ (∀ p ∈ prtR n row, p.ok) ∧ n ≤ 900 ∧ 1 ≤ most ∧ most ≤ 8])
    | _ => none⟩,
  ⟨7, tabs, fun A => match A with
    | [] => some (.bool true, [])
    | _ => none⟩]
theorem entsSu_ok : ∀ e ∈ entsSu, EntOk Tryz.prog e := by
  intro e he
  simp only [entsSu, List.mem_cons, List.not_mem_nil, or_false] at he
  rcases he with rfl | rfl | rfl | rfl | rfl
  all_goals
    intro A R ms h hm
    simp only at h
    split at h
    all_goals first | (cases h; done) | cases h
  · obtain ⟨h1, h2, h3, h4⟩ := all_one hm
    exact PureC.imp (tsum_pure _ _ _ _ (by rw [consR_len]; exact h3) (by rw [consR_len]; exact h4)) (.cons (.agg (.cons .same (.cons (.con h1) .nil))) (.cons (.agg (.cons .same (.cons (.con h2) .nil))) .nil))
  · obtain ⟨h1, h2, h3, h4⟩ := all_one hm
    exact PureC.imp (sum2_pure _ _ _ _ (by rw [consR_len]; exact h3) (by rw [consR_len]; exact h4)) (.cons (.agg (.cons .same (.cons (.con h1) .nil))) (.cons (.agg (.cons .same (.cons (.con h2) .nil))) .nil))
  · obtain ⟨h1, h2, h3, h4, h5⟩ := all_one hm
    subst h3
    exact PureC.imp (same_pure _ _ (by rw [consR_len]; exact h5)) (.cons (.agg (.cons .same (.cons (.con h1) .nil))) (.cons (.agg (.cons .same (.cons (by rw [h4]; exact .con h2) .nil))) .nil))
  · obtain ⟨h1, h2, h3, h4, h5⟩ := all_one hm
    exact PureC.imp (rawM _ _ _ h2 (by rw [prtR_len]; exact h3) h4 h5) (.cons (.agg (.cons .same (.cons (.prt h1) .nil))) .same)
  · exact awake_pure
theorem smL_len (v : Bool) (A B : List Con) (hA : A.length ≤ 30) (hB : B.length ≤ 30) : (bL v (addM A B)).length ≤ 1000 := by
  have := addM_len A B
  cases v
  · exact Nat.zero_le _
  · show (addM A B).length ≤ 1000; omega
set_option maxHeartbeats 2000000 in
set_option maxRecDepth 100000 in
theorem trainSum_pure (p q : Int) (A B : List Con) (kx : Int) (X : List Prt) (ky : Int) (Y : List Prt) (made : Bool) (hX : ∀ p ∈ X, p.ok) (hY : ∀ p ∈ Y, p.ok) : PureC Tryz.prog tabs 4 [.agg [.int .i64 p, roC A], .agg [.int .i64 q, roC B], .agg [.int .u8 kx, roP X], .agg [.int .u8 ky, roP Y], .bool made] (.bool true) := by
  have l5 := listV_len (most := 5) (two := true) (X := X); have l4 := listV_len (most := 4) (two := true) (X := Y)
  have rr := fun (tp : List Bool) (ms : List Prop) h hm => pure_run evOk (callF_ok evOk (orcOf_ok entsSu_ok) 8) Tryz.func4 (A := [.agg [.int .i64 p, roC A], .agg [.int .i64 q, roC B], .agg [.int .u8 kx, roP X], .agg [.int .u8 ky, roP Y], .bool made]) rfl none_ann rfl rfl evNg (tabs := tabs) (R := .bool true) (tp := tp) (ms := ms) h hm
  refine Or.elim (Bool.eq_false_or_eq_true (decide ((↑A.length : Int) > (20 : Int)))) (fun d1 => rr [true] [true = true, Dec (decide ((↑A.length : Int) > (20 : Int))) true] (by kernel_rfl) ⟨?_, d1⟩)
           (fun d1 => Or.elim (Bool.eq_false_or_eq_true (decide ((↑B.length : Int) > (20 : Int)))) (fun d2 => rr [false, true] [true = true, Dec (decide ((↑B.length : Int) > (20 : Int))) true, Dec (decide ((↑A.length : Int) > (20 : Int))) false] (by kernel_rfl) ⟨?_, d2, d1⟩)
           (fun d2 => Or.elim (Bool.eq_false_or_eq_true (decide ((↑X.length : Int) > (20 : Int)))) (fun d3 => rr [false, false, true] [true = true, Dec (decide ((↑X.length : Int) > (20 : Int))) true, Dec (decide ((↑B.length : Int) > (20 : Int))) false, Dec (decide ((↑A.length : Int) > (20 : Int))) false] (by kernel_rfl) ⟨?_, d3, d2, d1⟩)
           (fun d3 => Or.elim (Bool.eq_false_or_eq_true (decide ((↑Y.length : Int) > (20 : Int)))) (fun d4 => rr [false, false, false, true] [true = true, Dec (decide ((↑Y.length : Int) > (20 : Int))) true, Dec (decide ((↑X.length : Int) > (20 : Int))) false, Dec (decide ((↑B.length : Int) > (20 : Int))) false, Dec (decide ((↑A.length : Int) > (20 : Int))) false] (by kernel_rfl) ⟨?_, d4, d3, d2, d1⟩)
           (fun d4 => Or.elim (Bool.eq_false_or_eq_true (made)) (fun d5 => Or.elim (Bool.eq_false_or_eq_true (smE (smV (2 : Int) (2 : Int) (consR (listV (5 : Int) true (prtR X.length fun i => (X.getD i Prt.zero).rvs)).length fun i => ((listV (5 : Int) true (prtR X.length fun i => (X.getD i Prt.zero).rvs)).getD i Con.zero).rvs) (consR (listV (4 : Int) true (prtR Y.length fun i => (Y.getD i Prt.zero).rvs)).length fun i => ((listV (4 : Int) true (prtR Y.length fun i => (Y.getD i Prt.zero).rvs)).getD i Con.zero).rvs)) == smE (smV (2 : Int) (2 : Int) (consR (listV (5 : Int) true (prtR X.length fun i => (X.getD i Prt.zero).rvs)).length fun i => ((listV (5 : Int) true (prtR X.length fun i => (X.getD i Prt.zero).rvs)).getD i Con.zero).rvs) (consR (listV (4 : Int) true (prtR Y.length fun i => (Y.getD i Prt.zero).rvs)).length fun i => ((listV (4 : Int) true (prtR Y.length fun i => (Y.getD i Prt.zero).rvs)).getD i Con.zero).rvs)))) (fun d6 => rr [false, false, false, false, true, true, true] [true = true, Dec true true, (∀ (i : Nat), i < (bL (smV (2 : Int) (2 : Int) (consR (listV (5 : Int) true (prtR X.length fun i => (X.getD i Prt.zero).rvs)).length fun i => ((listV (5 : Int) true (prtR X.length fun i => (X.getD i Prt.zero).rvs)).getD i Con.zero).rvs) (consR (listV (4 : Int) true (prtR Y.length fun i => (Y.getD i Prt.zero).rvs)).length fun i => ((listV (4 : Int) true (prtR Y.length fun i => (Y.getD i Prt.zero).rvs)).getD i Con.zero).rvs)) (addM (consR (listV (5 : Int) true (prtR X.length fun i => (X.getD i Prt.zero).rvs)).length fun i => ((listV (5 : Int) true (prtR X.length fun i => (X.getD i Prt.zero).rvs)).getD i Con.zero).rvs) (consR (listV (4 : Int) true (prtR Y.length fun i => (Y.getD i Prt.zero).rvs)).length fun i => ((listV (4 : Int) true (prtR Y.length fun i => (Y.getD i Prt.zero).rvs)).getD i Con.zero).rvs))).length → (fun i => ((bL (smV (2 : Int) (2 : Int) (consR (listV (5 : Int) true (prtR X.length fun i => (X.getD i Prt.zero).rvs)).length fun i => ((listV (5 : Int) true (prtR X.length fun i => (X.getD i Prt.zero).rvs)).getD i Con.zero).rvs) (consR (listV (4 : Int) true (prtR Y.length fun i => (Y.getD i Prt.zero).rvs)).length fun i => ((listV (4 : Int) true (prtR Y.length fun i => (Y.getD i Prt.zero).rvs)).getD i Con.zero).rvs)) (addM (consR (listV (5 : Int) true (prtR X.length fun i => (X.getD i Prt.zero).rvs)).length fun i => ((listV (5 : Int) true (prtR X.length fun i => (X.getD i Prt.zero).rvs)).getD i Con.zero).rvs) (consR (listV (4 : Int) true (prtR Y.length fun i => (Y.getD i Prt.zero).rvs)).length fun i => ((listV (4 : Int) true (prtR Y.length fun i => (Y.getD i Prt.zero).rvs)).getD i Con.zero).rvs))).getD i Con.zero).rvs) i = (Con.ofR ((fun i => ((bL (smV (2 : Int) (2 : Int) (consR (listV (5 : Int) true (prtR X.length fun i => (X.getD i Prt.zero).rvs)).length fun i => ((listV (5 : Int) true (prtR X.length fun i => (X.getD i Prt.zero).rvs)).getD i Con.zero).rvs) (consR (listV (4 : Int) true (prtR Y.length fun i => (Y.getD i Prt.zero).rvs)).length fun i => ((listV (4 : Int) true (prtR Y.length fun i => (Y.getD i Prt.zero).rvs)).getD i Con.zero).rvs)) (addM (consR (listV (5 : Int) true (prtR X.length fun i => (X.getD i Prt.zero).rvs)).length fun i => ((listV (5 : Int) true (prtR X.length fun i => (X.getD i Prt.zero).rvs)).getD i Con.zero).rvs) (consR (listV (4 : Int) true (prtR Y.length fun i => (Y.getD i Prt.zero).rvs)).length fun i => ((listV (4 : Int) true (prtR Y.length fun i => (Y.getD i Prt.zero).rvs)).getD i Con.zero).rvs))).getD i Con.zero).rvs) i)).rvs) ∧ (∀ (i : Nat), i < (bL (smV (2 : Int) (2 : Int) (consR (listV (5 : Int) true (prtR X.length fun i => (X.getD i Prt.zero).rvs)).length fun i => ((listV (5 : Int) true (prtR X.length fun i => (X.getD i Prt.zero).rvs)).getD i Con.zero).rvs) (consR (listV (4 : Int) true (prtR Y.length fun i => (Y.getD i Prt.zero).rvs)).length fun i => ((listV (4 : Int) true (prtR Y.length fun i => (Y.getD i Prt.zero).rvs)).getD i Con.zero).rvs)) (addM (consR (listV (5 : Int) true (prtR X.length fun i => (X.getD i Prt.zero).rvs)).length fun i => ((listV (5 : Int) true (prtR X.length fun i => (X.getD i Prt.zero).rvs)).getD i Con.zero).rvs) (consR (listV (4 : Int) true (prtR Y.length fun i => (Y.getD i Prt.zero).rvs)).length fun i => ((listV (4 : Int) true (prtR Y.length fun i => (Y.getD i Prt.zero).rvs)).getD i Con.zero).rvs))).length → (fun i => ((bL (smV (2 : Int) (2 : Int) (consR (listV (5 : Int) true (prtR X.length fun i => (X.getD i Prt.zero).rvs)).length fun i => ((listV (5 : Int) true (prtR X.length fun i => (X.getD i Prt.zero).rvs)).getD i Con.zero).rvs) (consR (listV (4 : Int) true (prtR Y.length fun i => (Y.getD i Prt.zero).rvs)).length fun i => ((listV (4 : Int) true (prtR Y.length fun i => (Y.getD i Prt.zero).rvs)).getD i Con.zero).rvs)) (addM (consR (listV (5 : Int) true (prtR X.length fun i => (X.getD i Prt.zero).rvs)).length fun i => ((listV (5 : Int) true (prtR X.length fun i => (X.getD i Prt.zero).rvs)).getD i Con.zero).rvs) (consR (listV (4 : Int) true (prtR Y.length fun i => (Y.getD i Prt.zero).rvs)).length fun i => ((listV (4 : Int) true (prtR Y.length fun i => (Y.getD i Prt.zero).rvs)).getD i Con.zero).rvs))).getD i Con.zero).rvs) i = (Con.ofR ((fun i => ((bL (smV (2 : Int) (2 : Int) (consR (listV (5 : Int) true (prtR X.length fun i => (X.getD i Prt.zero).rvs)).length fun i => ((listV (5 : Int) true (prtR X.length fun i => (X.getD i Prt.zero).rvs)).getD i Con.zero).rvs) (consR (listV (4 : Int) true (prtR Y.length fun i => (Y.getD i Prt.zero).rvs)).length fun i => ((listV (4 : Int) true (prtR Y.length fun i => (Y.getD i Prt.zero).rvs)).getD i Con.zero).rvs)) (addM (consR (listV (5 : Int) true (prtR X.length fun i => (X.getD i Prt.zero).rvs)).length fun i => ((listV (5 : Int) true (prtR X.length fun i => (X.getD i Prt.zero).rvs)).getD i Con.zero).rvs) (consR (listV (4 : Int) true (prtR Y.length fun i => (Y.getD i Prt.zero).rvs)).length fun i => ((listV (4 : Int) true (prtR Y.length fun i => (Y.getD i Prt.zero).rvs)).getD i Con.zero).rvs))).getD i Con.zero).rvs) i)).rvs) ∧ bP (smV (2 : Int) (2 : Int) (consR (listV (5 : Int) true (prtR X.length fun i => (X.getD i Prt.zero).rvs)).length fun i => ((listV (5 : Int) true (prtR X.length fun i => (X.getD i Prt.zero).rvs)).getD i Con.zero).rvs) (consR (listV (4 : Int) true (prtR Y.length fun i => (Y.getD i Prt.zero).rvs)).length fun i => ((listV (4 : Int) true (prtR Y.length fun i => (Y.getD i Prt.zero).rvs)).getD i Con.zero).rvs)) = bP (smV (2 : Int) (2 : Int) (consR (listV (5 : Int) true (prtR X.length fun i => (X.getD i Prt.zero).rvs)).length fun i => ((listV (5 : Int) true (prtR X.length fun i => (X.getD i Prt.zero).rvs)).getD i Con.zero).rvs) (consR (listV (4 : Int) true (prtR Y.length fun i => (Y.getD i Prt.zero).rvs)).length fun i => ((listV (4 : Int) true (prtR Y.length fun i => (Y.getD i Prt.zero).rvs)).getD i Con.zero).rvs)) ∧ ((consR (bL (smV (2 : Int) (2 : Int) (consR (listV (5 : Int) true (prtR X.length fun i => (X.getD i Prt.zero).rvs)).length fun i => ((listV (5 : Int) true (prtR X.length fun i => (X.getD i Prt.zero).rvs)).getD i Con.zero).rvs) (consR (listV (4 : Int) true (prtR Y.length fun i => (Y.getD i Prt.zero).rvs)).length fun i => ((listV (4 : Int) true (prtR Y.length fun i => (Y.getD i Prt.zero).rvs)).getD i Con.zero).rvs)) (addM (consR (listV (5 : Int) true (prtR X.length fun i => (X.getD i Prt.zero).rvs)).length fun i => ((listV (5 : Int) true (prtR X.length fun i => (X.getD i Prt.zero).rvs)).getD i Con.zero).rvs) (consR (listV (4 : Int) true (prtR Y.length fun i => (Y.getD i Prt.zero).rvs)).length fun i => ((listV (4 : Int) true (prtR Y.length fun i => (Y.getD i Prt.zero).rvs)).getD i Con.zero).rvs))).length fun i => ((bL (smV (2 : Int) (2 : Int) (consR (listV (5 : Int) true (prtR X.length fun i => (X.getD i Prt.zero).rvs)).length fun i => ((listV (5 : Int) true (prtR X.length fun i => (X.getD i Prt.zero).rvs)).getD i Con.zero).rvs) (consR (listV (4 : Int) true (prtR Y.length fun i => (Y.getD i Prt.zero).rvs)).length fun i => ((listV (4 : Int) true (prtR Y.length fun i => (Y.getD i Prt.zero).rvs)).getD i Con.zero).rvs)) (addM (consR (listV (5 : Int) true (prtR X.length fun i => (X.getD i Prt.zero).rvs)).length fun i => ((listV (5 : Int) true (prtR X.length fun i => (X.getD i Prt.zero).rvs)).getD i Con.zero).rvs) (consR (listV (4 : Int) true (prtR Y.length fun i => (Y.getD i Prt.zero).rvs)).length fun i => ((listV (4 : Int) true (prtR Y.length fun i => (Y.getD i Prt.zero).rvs)).getD i Con.zero).rvs))).getD i Con.zero).rvs) = consR (bL (smV (2 : Int) (2 : Int) (consR (listV (5 : Int) true (prtR X.length fun i => (X.getD i Prt.zero).rvs)).length fun i => ((listV (5 : Int) true (prtR X.length fun i => (X.getD i Prt.zero).rvs)).getD i Con.zero).rvs) (consR (listV (4 : Int) true (prtR Y.length fun i => (Y.getD i Prt.zero).rvs)).length fun i => ((listV (4 : Int) true (prtR Y.length fun i => (Y.getD i Prt.zero).rvs)).getD i Con.zero).rvs)) (addM (consR (listV (5 : Int) true (prtR X.length fun i => (X.getD i Prt.zero).rvs)).length fun i => ((listV (5 : Int) true (prtR X.length fun i => (X.getD i Prt.zero).rvs)).getD i Con.zero).rvs) (consR (listV (4 : Int) true (prtR Y.length fun i => (Y.getD i Prt.zero).rvs)).length fun i => ((listV (4 : Int) true (prtR Y.length fun i => (Y.getD i Prt.zero).rvs)).getD i Con.zero).rvs))).length fun i => ((bL (smV (2 : Int) (2 : Int) (consR (listV (5 : Int) true (prtR X.length fun i => (X.getD i Prt.zero).rvs)).length fun i => ((listV (5 : Int) true (prtR X.length fun i => (X.getD i Prt.zero).rvs)).getD i Con.zero).rvs) (consR (listV (4 : Int) true (prtR Y.length fun i => (Y.getD i Prt.zero).rvs)).length fun i => ((listV (4 : Int) true (prtR Y.length fun i => (Y.getD i Prt.zero).rvs)).getD i Con.zero).rvs)) (addM (consR (listV (5 : Int) true (prtR X.length fun i => (X.getD i Prt.zero).rvs)).length fun i => ((listV (5 : Int) true (prtR X.length fun i => (X.getD i Prt.zero).rvs)).getD i Con.zero).rvs) (consR (listV (4 : Int) true (prtR Y.length fun i => (Y.getD i Prt.zero).rvs)).length fun i => ((listV (4 : Int) true (prtR Y.length fun i => (Y.getD i Prt.zero).rvs)).getD i Con.zero).rvs))).getD i Con.zero).rvs) ∧ (bL (smV (2 : Int) (2 : Int) (consR (listV (5 : Int) true (prtR X.length fun i => (X.getD i Prt.zero).rvs)).length fun i => ((listV (5 : Int) true (prtR X.length fun i => (X.getD i Prt.zero).rvs)).getD i Con.zero).rvs) (consR (listV (4 : Int) true (prtR Y.length fun i => (Y.getD i Prt.zero).rvs)).length fun i => ((listV (4 : Int) true (prtR Y.length fun i => (Y.getD i Prt.zero).rvs)).getD i Con.zero).rvs)) (addM (consR (listV (5 : Int) true (prtR X.length fun i => (X.getD i Prt.zero).rvs)).length fun i => ((listV (5 : Int) true (prtR X.length fun i => (X.getD i Prt.zero).rvs)).getD i Con.zero).rvs) (consR (listV (4 : Int) true (prtR Y.length fun i => (Y.getD i Prt.zero).rvs)).length fun i => ((listV (4 : Int) true (prtR Y.length fun i => (Y.getD i Prt.zero).rvs)).getD i Con.zero).rvs))).length ≤ (1000 : Nat), Dec (smE (smV (2 : Int) (2 : Int) (consR (listV (5 : Int) true (prtR X.length fun i => (X.getD i Prt.zero).rvs)).length fun i => ((listV (5 : Int) true (prtR X.length fun i => (X.getD i Prt.zero).rvs)).getD i Con.zero).rvs) (consR (listV (4 : Int) true (prtR Y.length fun i => (Y.getD i Prt.zero).rvs)).length fun i => ((listV (4 : Int) true (prtR Y.length fun i => (Y.getD i Prt.zero).rvs)).getD i Con.zero).rvs)) == smE (smV (2 : Int) (2 : Int) (consR (listV (5 : Int) true (prtR X.length fun i => (X.getD i Prt.zero).rvs)).length fun i => ((listV (5 : Int) true (prtR X.length fun i => (X.getD i Prt.zero).rvs)).getD i Con.zero).rvs) (consR (listV (4 : Int) true (prtR Y.length fun i => (Y.getD i Prt.zero).rvs)).length fun i => ((listV (4 : Int) true (prtR Y.length fun i => (Y.getD i Prt.zero).rvs)).getD i Con.zero).rvs))) true, (∀ (i : Nat), i < (listV (5 : Int) true (prtR X.length fun i => (X.getD i Prt.zero).rvs)).length → (fun i => ((listV (5 : Int) true (prtR X.length fun i => (X.getD i Prt.zero).rvs)).getD i Con.zero).rvs) i = (Con.ofR ((fun i => ((listV (5 : Int) true (prtR X.length fun i => (X.getD i Prt.zero).rvs)).getD i Con.zero).rvs) i)).rvs) ∧ (∀ (i : Nat), i < (listV (4 : Int) true (prtR Y.length fun i => (Y.getD i Prt.zero).rvs)).length → (fun i => ((listV (4 : Int) true (prtR Y.length fun i => (Y.getD i Prt.zero).rvs)).getD i Con.zero).rvs) i = (Con.ofR ((fun i => ((listV (4 : Int) true (prtR Y.length fun i => (Y.getD i Prt.zero).rvs)).getD i Con.zero).rvs) i)).rvs) ∧ (listV (5 : Int) true (prtR X.length fun i => (X.getD i Prt.zero).rvs)).length ≤ (1000 : Nat) ∧ (listV (4 : Int) true (prtR Y.length fun i => (Y.getD i Prt.zero).rvs)).length ≤ (1000 : Nat), (∀ (i : Nat), i < (listV (5 : Int) true (prtR X.length fun i => (X.getD i Prt.zero).rvs)).length → (fun i => ((listV (5 : Int) true (prtR X.length fun i => (X.getD i Prt.zero).rvs)).getD i Con.zero).rvs) i = (Con.ofR ((fun i => ((listV (5 : Int) true (prtR X.length fun i => (X.getD i Prt.zero).rvs)).getD i Con.zero).rvs) i)).rvs) ∧ (∀ (i : Nat), i < (listV (4 : Int) true (prtR Y.length fun i => (Y.getD i Prt.zero).rvs)).length → (fun i => ((listV (4 : Int) true (prtR Y.length fun i => (Y.getD i Prt.zero).rvs)).getD i Con.zero).rvs) i = (Con.ofR ((fun i => ((listV (4 : Int) true (prtR Y.length fun i => (Y.getD i Prt.zero).rvs)).getD i Con.zero).rvs) i)).rvs) ∧ (listV (5 : Int) true (prtR X.length fun i => (X.getD i Prt.zero).rvs)).length ≤ (1000 : Nat) ∧ (listV (4 : Int) true (prtR Y.length fun i => (Y.getD i Prt.zero).rvs)).length ≤ (1000 : Nat), (∀ (i : Nat), i < Y.length → (fun i => (Y.getD i Prt.zero).rvs) i = (Prt.ofR ((fun i => (Y.getD i Prt.zero).rvs) i)).rvs) ∧ (∀ (p : Prt), (p ∈ prtR Y.length fun i => (Y.getD i Prt.zero).rvs) → p.ok) ∧ Y.length ≤ (900 : Nat) ∧ (1 : Int) ≤ (4 : Int) ∧ (4 : Int) ≤ (8 : Int), ky = ky, Y.length = Y.length ∧ (fun i => (Y.getD i Prt.zero).rvs) = fun i => (Y.getD i Prt.zero).rvs, (∀ (i : Nat), i < X.length → (fun i => (X.getD i Prt.zero).rvs) i = (Prt.ofR ((fun i => (X.getD i Prt.zero).rvs) i)).rvs) ∧ (∀ (p : Prt), (p ∈ prtR X.length fun i => (X.getD i Prt.zero).rvs) → p.ok) ∧ X.length ≤ (900 : Nat) ∧ (1 : Int) ≤ (5 : Int) ∧ (5 : Int) ≤ (8 : Int), Dec made true, Dec (decide ((↑Y.length : Int) > (20 : Int))) false, Dec (decide ((↑X.length : Int) > (20 : Int))) false, Dec (decide ((↑B.length : Int) > (20 : Int))) false, Dec (decide ((↑A.length : Int) > (20 : Int))) false] (by kernel_rfl) ⟨?_, rfl, ?_, d6, ?_, ?_, ?_, ?_, ?_, ?_, d5, d4, d3, d2, d1⟩)
           (fun d6 => CtG.no ?_))
           (fun d5 => Or.elim (Bool.eq_false_or_eq_true (smE (smV p q (consR A.length fun i => (A.getD i Con.zero).rvs) (consR B.length fun i => (B.getD i Con.zero).rvs)) == smE (smV p q (consR A.length fun i => (A.getD i Con.zero).rvs) (consR B.length fun i => (B.getD i Con.zero).rvs)))) (fun d6 => rr [false, false, false, false, false, true, true] [true = true, Dec true true, (∀ (i : Nat), i < (bL (smV p q (consR A.length fun i => (A.getD i Con.zero).rvs) (consR B.length fun i => (B.getD i Con.zero).rvs)) (addM (consR A.length fun i => (A.getD i Con.zero).rvs) (consR B.length fun i => (B.getD i Con.zero).rvs))).length → (fun i => ((bL (smV p q (consR A.length fun i => (A.getD i Con.zero).rvs) (consR B.length fun i => (B.getD i Con.zero).rvs)) (addM (consR A.length fun i => (A.getD i Con.zero).rvs) (consR B.length fun i => (B.getD i Con.zero).rvs))).getD i Con.zero).rvs) i = (Con.ofR ((fun i => ((bL (smV p q (consR A.length fun i => (A.getD i Con.zero).rvs) (consR B.length fun i => (B.getD i Con.zero).rvs)) (addM (consR A.length fun i => (A.getD i Con.zero).rvs) (consR B.length fun i => (B.getD i Con.zero).rvs))).getD i Con.zero).rvs) i)).rvs) ∧ (∀ (i : Nat), i < (bL (smV p q (consR A.length fun i => (A.getD i Con.zero).rvs) (consR B.length fun i => (B.getD i Con.zero).rvs)) (addM (consR A.length fun i => (A.getD i Con.zero).rvs) (consR B.length fun i => (B.getD i Con.zero).rvs))).length → (fun i => ((bL (smV p q (consR A.length fun i => (A.getD i Con.zero).rvs) (consR B.length fun i => (B.getD i Con.zero).rvs)) (addM (consR A.length fun i => (A.getD i Con.zero).rvs) (consR B.length fun i => (B.getD i Con.zero).rvs))).getD i Con.zero).rvs) i = (Con.ofR ((fun i => ((bL (smV p q (consR A.length fun i => (A.getD i Con.zero).rvs) (consR B.length fun i => (B.getD i Con.zero).rvs)) (addM (consR A.length fun i => (A.getD i Con.zero).rvs) (consR B.length fun i => (B.getD i Con.zero).rvs))).getD i Con.zero).rvs) i)).rvs) ∧ bP (smV p q (consR A.length fun i => (A.getD i Con.zero).rvs) (consR B.length fun i => (B.getD i Con.zero).rvs)) = bP (smV p q (consR A.length fun i => (A.getD i Con.zero).rvs) (consR B.length fun i => (B.getD i Con.zero).rvs)) ∧ ((consR (bL (smV p q (consR A.length fun i => (A.getD i Con.zero).rvs) (consR B.length fun i => (B.getD i Con.zero).rvs)) (addM (consR A.length fun i => (A.getD i Con.zero).rvs) (consR B.length fun i => (B.getD i Con.zero).rvs))).length fun i => ((bL (smV p q (consR A.length fun i => (A.getD i Con.zero).rvs) (consR B.length fun i => (B.getD i Con.zero).rvs)) (addM (consR A.length fun i => (A.getD i Con.zero).rvs) (consR B.length fun i => (B.getD i Con.zero).rvs))).getD i Con.zero).rvs) = consR (bL (smV p q (consR A.length fun i => (A.getD i Con.zero).rvs) (consR B.length fun i => (B.getD i Con.zero).rvs)) (addM (consR A.length fun i => (A.getD i Con.zero).rvs) (consR B.length fun i => (B.getD i Con.zero).rvs))).length fun i => ((bL (smV p q (consR A.length fun i => (A.getD i Con.zero).rvs) (consR B.length fun i => (B.getD i Con.zero).rvs)) (addM (consR A.length fun i => (A.getD i Con.zero).rvs) (consR B.length fun i => (B.getD i Con.zero).rvs))).getD i Con.zero).rvs) ∧ (bL (smV p q (consR A.length fun i => (A.getD i Con.zero).rvs) (consR B.length fun i => (B.getD i Con.zero).rvs)) (addM (consR A.length fun i => (A.getD i Con.zero).rvs) (consR B.length fun i => (B.getD i Con.zero).rvs))).length ≤ (1000 : Nat), Dec (smE (smV p q (consR A.length fun i => (A.getD i Con.zero).rvs) (consR B.length fun i => (B.getD i Con.zero).rvs)) == smE (smV p q (consR A.length fun i => (A.getD i Con.zero).rvs) (consR B.length fun i => (B.getD i Con.zero).rvs))) true, (∀ (i : Nat), i < A.length → (fun i => (A.getD i Con.zero).rvs) i = (Con.ofR ((fun i => (A.getD i Con.zero).rvs) i)).rvs) ∧ (∀ (i : Nat), i < B.length → (fun i => (B.getD i Con.zero).rvs) i = (Con.ofR ((fun i => (B.getD i Con.zero).rvs) i)).rvs) ∧ A.length ≤ (1000 : Nat) ∧ B.length ≤ (1000 : Nat), (∀ (i : Nat), i < A.length → (fun i => (A.getD i Con.zero).rvs) i = (Con.ofR ((fun i => (A.getD i Con.zero).rvs) i)).rvs) ∧ (∀ (i : Nat), i < B.length → (fun i => (B.getD i Con.zero).rvs) i = (Con.ofR ((fun i => (B.getD i Con.zero).rvs) i)).rvs) ∧ A.length ≤ (1000 : Nat) ∧ B.length ≤ (1000 : Nat), Dec made false, Dec (decide ((↑Y.length : Int) > (20 : Int))) false, Dec (decide ((↑X.length : Int) > (20 : Int))) false, Dec (decide ((↑B.length : Int) > (20 : Int))) false, Dec (decide ((↑A.length : Int) > (20 : Int))) false] (by kernel_rfl) ⟨?_, rfl, ?_, d6, ?_, ?_, d5, d4, d3, d2, d1⟩)
           (fun d6 => CtG.no ?_))))))
  all_goals first | (refine CtG.mk ?_; (first | (rw [beq_self_eq_true] at d6; cases d6; done) | (rw [beq_self_eq_true] at d7; cases d7; done))) | (first | (with_reducible rfl) | (with_reducible exact ⟨rfl, rfl⟩) | (simp only [prtR_ro, consR_ro, decide_eq_false_iff_not, gt_iff_lt] at * <;> first | trivial | exact ⟨fun _ _ => rfl, hX, by omega, by decide, by decide⟩ | exact ⟨fun _ _ => rfl, hY, by omega, by decide, by decide⟩ | exact ⟨fun _ _ => rfl, fun _ _ => rfl, by omega, by omega⟩ | exact ⟨fun _ _ => rfl, fun _ _ => rfl, trivial, trivial, smL_len _ _ _ (by omega) (by omega)⟩ | exact (5 : Nat)))
end Go.Proofs.YtkkmlbhmcdoibaaGreatDoor.S

namespace Go.Proofs.YtkkmlbhmcdoibaaGreatDoor.trainSum
open Go.ChangeShapes Go.WideShapes Go.ChangeAt Go.RowKit Go.Joins Go.Deep
open Go.QfSy (Con RV RRel RsRel FzAt roC Fz Tb TabW PureC)
open S
theorem readable : ∀ t ∈ Tryz.f4.params.toList, Tryz.prog.readableRec t = true ∧ t < Tryz.prog.types.size := by
  have h : (Tryz.f4.params.toList.all fun t => Tryz.prog.readableRec t && Nat.blt t Tryz.prog.types.size) = true := by kernel_rfl
  intro t ht
  have := List.all_eq_true.1 h t ht
  simp only [Bool.and_eq_true] at this
  exact ⟨this.1, Nat.le_of_ble_eq_true this.2⟩
set_option maxRecDepth 100000 in
theorem contract (H : Type) (enc : TypeId × Value → H) (W : World) (base : Nat) (args : Array Value) (ds gs : List (DataW H)) (before : List MemPlace)
    (hval : ∀ (j : Nat) t v, Tryz.f4.params[j]? = some t → args[j]? = some v → Value.okWide Tryz.prog W .any base t v)
    (hW : DataW.Whole enc Tryz.prog Tryz.f4.params.toList Rows.trainSumSpec.vars false W args.toList ds gs before) (hO : TabW tabs W) :
    Calls Tryz.prog 4 args W fun e W' => ∃ v, e = .returned v ∧ Rows.trainSumSpec.post enc Tryz.prog Tryz.f4 false true false false W args v W' := by
  have hW' := hW
  obtain ⟨p, q, hA0, hV, rfl, hfz, hnd⟩ := hW
  have hA : DataW.TrodAll enc Tryz.prog W 0 (fun _ => true) true Tryz.f4.params.toList args.toList ds p := hA0
  rw [Tryz.params4] at hA hval
  obtain ⟨v0, vs0, d0, ds0, p0, q0, hargs0, rfl, rfl, h0, r0⟩ := trodAll_cons hA
  obtain ⟨v1, vs1, d1, ds1, p1, q1, hargs1, rfl, rfl, h1, r1⟩ := trodAll_cons r0
  obtain ⟨v2, vs2, d2, ds2, p2, q2, hargs2, rfl, rfl, h2, r2⟩ := trodAll_cons r1
  obtain ⟨v3, vs3, d3, ds3, p3, q3, hargs3, rfl, rfl, h3, r3⟩ := trodAll_cons r2
  obtain ⟨v4, vs4, d4, ds4, p4, q4, hargs4, rfl, rfl, h4, r4⟩ := trodAll_cons r3
  obtain ⟨rfl, rfl, rfl⟩ := trodAll_nil r4
  obtain rfl : args = #[v0, v1, v2, v3, v4] := by cases args; simp_all
  obtain ⟨P0, L0, hr0, hP0, hn0, hf0⟩ := open_local localTys (hval 0 30 v0 rfl rfl) h0
  obtain ⟨P1, L1, hr1, hP1, hn1, hf1⟩ := open_local localTys (hval 1 30 v1 rfl rfl) h1
  obtain ⟨P2, X2, hr2, hP2, hn2, ho2⟩ := open_symbol symbolTys (hval 2 33 v2 rfl rfl) h2
  obtain ⟨P3, X3, hr3, hP3, hn3, ho3⟩ := open_symbol symbolTys (hval 3 33 v3 rfl rfl) h3
  obtain ⟨b4, rfl, rfl, rfl⟩ := open_bool Tryz.underlying4 (hval 4 4 v4 rfl rfl) h4
  have hr4 : RRel (Wz W) (.bool b4) (.bool b4) := .bool _
  refine (pure_calls (trainSum_pure P0 P1 L0 L1 P2 X2 P3 X3 b4 ho2 ho3) hO (.cons hr0 (.cons hr1 (.cons hr2 (.cons hr3 (.cons hr4 .nil)))))).mono fun e W' ⟨he, hb⟩ => ?_
  exact ⟨_, he, law_post laidOut readable rfl Tryz.underlying4 rfl hW' rfl hb⟩
def wArgs : Array Value := #[.agg #[.int .i64 0, .slice none 0 0], .agg #[.int .i64 0, .slice none 0 0], .agg #[.int .u8 0, .slice none 0 0], .agg #[.int .u8 0, .slice none 0 0], .bool false]
theorem laid_met (os : Os) : laidMet Tryz.prog Rows.trainSumRow.laid ((laidWorld os).forCall (fun _ _ => 0) ⟨#[], wArgs, []⟩).memory :=
  laidMet_of_run' 8 (by kernel_rfl) (by kernel_rfl)
theorem reads (os : Os) {H : Type} (enc : TypeId × Value → H) : ∃ ds places, DataW.whole enc Tryz.prog ((laidWorld os).forCall (fun _ _ => 0) ⟨#[], wArgs, []⟩).memory Tryz.f4.params.toList Rows.trainSumSpec.vars false wArgs.toList 8 = some (ds, [], places) :=
  ⟨[.agg [.lit (.int .i64 0), .nil], .agg [.lit (.int .i64 0), .nil], .agg [.lit (.int .u8 0), .nil], .agg [.lit (.int .u8 0), .nil], .lit (.bool false)], [], by kernel_rfl⟩
set_option maxRecDepth 100000 in
theorem lifted (os : Os) (started : os.Started) (H : Type) (enc : TypeId × Value → H) (F : Stop.Interp) :
    ReturnsInHanded {} Tryz.checked os 4 .any ((OpenSpec.ofChange Rows.trainSumSpec).preRow enc Tryz.prog Tryz.f4 Rows.trainSumRow.domain false Rows.trainSumRow.laid) (((OpenSpec.ofChange Rows.trainSumSpec).at F).post enc Tryz.prog Tryz.f4 false true false false) := by
  refine returnsInHanded_of_row (C := Tryz.checked) (s := OpenSpec.ofChange Rows.trainSumSpec) own started (by kernel_rfl) Tryz.func4
    (witness_row_at (enc := enc) (C := Tryz.checked) false (laidWorld os) wArgs rfl (by kernel_rfl) (by kernel_rfl) (by kernel_rfl)
      (OpenSpec.preRow_of_cond 8 (reads os enc).choose_spec.choose_spec (by kernel_rfl) (fun k hk => by cases hk) (by kernel_rfl) (laid_met os))) ?_
  intro W base args ds gs before hval hW _ _ _ hL hS _
  exact contract H enc W base args ds gs before hval hW (tabs_of hL hS)
theorem named : Tryz.prog.funcNamed Rows.trainSumRow.func = some 4 := by kernel_rfl
theorem facts : joinedFacts Tryz.prog 4 Tryz.f4 (OpenSpec.ofChange Rows.trainSumSpec).bare Rows.trainSumRow = true := by kernel_rfl
theorem inst : Tryz.f4.isInstance Tryz.prog Rows.trainSumRow.origin Rows.trainSumRow.targs := of_decide_eq_true (by kernel_rfl)
theorem wrap : Tryz.f4.isWrapper Tryz.prog Rows.trainSumRow.wrapper Rows.trainSumRow.mainSum := by
  unfold Func.isWrapper; first | (rw [if_pos (by decide +kernel)]; kernel_rfl) | (rw [if_neg (by decide +kernel)]; exact ⟨rfl, rfl⟩)
theorem said : Rows.TrainSumSaid :=
  OpenClaim.holds_of_cond 4 Tryz.f4 rfl rfl rfl rfl rfl rfl rfl ⟨rfl, rfl, rfl, rfl, rfl⟩ rfl rfl rfl rfl rfl named Tryz.func4 facts inst wrap
    (fun os started H enc _ F => by rw [OpenClaim.pre_eq_preRow]; exact lifted os started H enc F)
end Go.Proofs.YtkkmlbhmcdoibaaGreatDoor.trainSum

namespace Go.Proofs.YtkkmlbhmcdoibaaGreatDoor.trainSum
open Go.ChangeShapes Go.WideShapes Go.ChangeAt Go.RowKit Go.Joins Go.Deep
theorem stands : (Tryz.f4.params.toList.all fun t => !Tryz.prog.wantsStandIn t) = true := by kernel_rfl
theorem looks : false = Tryz.prog.looks [] := by kernel_rfl
theorem plain (f : FuncId) (fn : Func) (hf : Tryz.pinned.checked.prog.funcNamed "quadform/quadformlaw27.TrainSum" = some f) (hfn : Tryz.pinned.checked.prog.funcs[f]? = some fn) :
    false = Tryz.pinned.checked.prog.looks [] ∧ ∀ (j : Nat) t, fn.params[j]? = some t → Tryz.pinned.checked.prog.wantsStandIn t = false := by
  obtain rfl : f = 4 := Option.some.inj (named.symm.trans hf) |>.symm
  obtain rfl : fn = Tryz.f4 := (Option.some.inj (Tryz.func4.symm.trans hfn)).symm
  refine ⟨looks, fun j t ht => ?_⟩
  have := List.all_eq_true.1 stands t (by simpa using Array.mem_of_getElem? ht)
  exact (by simpa using this : Tryz.prog.wantsStandIn t = false)
theorem holds : Rows.TrainSumCardSaid :=
  Claim7.holds_tied_plain_at .later [] _ _ _ _ said (fun _ h => by cases h) (by kernel_rfl) (fun _ h => by cases h) trainSum_row_tie rfl ⟨rfl, rfl⟩ (by kernel_rfl) rfl plain (by kernel_rfl)
end Go.Proofs.YtkkmlbhmcdoibaaGreatDoor.trainSum

