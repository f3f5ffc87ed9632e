/- A part of the proof of TiedTrainSums: RH, VR, VU, VG, VH0, VS, VV, DL, RG, LU, CardTrainSums, TiedTrainSums. -/
import Derived.Test.YtkkmlbhmcdoibaaGreatDoorPkC1
import Derived.Test.YtkkmlbhmcdoibaaGreatDoorPkBB2
import Derived.Test.YtkkmlbhmcdoibaaGreatDoorPkBM3
import Derived.Test.YtkkmlbhmcdoibaaGreatDoorPkBB1
set_option linter.unusedSimpArgs false
set_option linter.unusedVariables false
namespace Go.Proofs.YtkkmlbhmcdoibaaGreatDoor.S
open Go.QfSy Go.RowKit
def stepS (S : Nat → Bool) (c : Con) (q : Nat) : Bool := (List.range 8).any fun o => legalB (wO c (o : Int)) && S ((q + 8 - o) % 8)
def smF (M : List Con) : List Int → (Nat → Bool) → Nat → Bool
  | [], S => S
  | i :: l, S => smF M l (stepS S (at_ M i.toNat))
def midS (S : Nat → Bool) (c : Con) (o q : Nat) : Bool := (List.range o).any fun a => legalB (wO c (a : Int)) && S ((q + 8 - a) % 8)
theorem midS_succ (S : Nat → Bool) (c : Con) (o q : Nat) : midS S c (o + 1) q = (midS S c o q || (legalB (wO c (o : Int)) && S ((q + 8 - o) % 8))) := by
  unfold midS
  rw [List.range_succ, List.any_append]
  simp
def innS (g : Bool) (S n : Nat → Bool) (o s q : Nat) : Bool := n q || (g && (Nat.blt ((q + 8 - o) % 8) s && S ((q + 8 - o) % 8)))
theorem innS_zero (g : Bool) (S n : Nat → Bool) (o q : Nat) : innS g S n o 0 q = n q := by
  unfold innS
  have : Nat.blt ((q + 8 - o) % 8) 0 = false := by
    cases h : Nat.blt ((q + 8 - o) % 8) 0 with
    | false => rfl
    | true => have := Nat.le_of_ble_eq_true h; omega
  rw [this]; simp
theorem innS_last (g : Bool) (S n : Nat → Bool) (o q : Nat) : innS g S n o 8 q = (n q || (g && S ((q + 8 - o) % 8))) := by
  unfold innS
  have : Nat.blt ((q + 8 - o) % 8) 8 = true := Nat.ble_eq_true_of_le (by omega)
  rw [this, Bool.true_and]
theorem blt_iff {a b : Nat} : Nat.blt a b = decide (a < b) := by
  cases h : Nat.blt a b with
  | true => have : a + 1 ≤ b := Nat.le_of_ble_eq_true h; simp; omega
  | false =>
    cases h2 : decide (a < b) with
    | false => rfl
    | true =>
      have : Nat.blt a b = true := Nat.ble_eq_true_of_le (of_decide_eq_true h2)
      rw [h] at this; cases this
theorem innS_yes {g : Bool} {S n : Nat → Bool} {o s q : Nat} (hq : q < 8) (ho : o ≤ 8) (hs : s < 8) (h1 : S s = true) (h2 : g = true) : (bif Nat.beq q ((s + o) % 8) then true else innS g S n o s q) = innS g S n o (s + 1) q := by
  unfold innS
  rw [blt_iff, blt_iff, h2]
  cases h : Nat.beq q ((s + o) % 8) with
  | true =>
    have e := Nat.eq_of_beq_eq_true h
    have e2 : (q + 8 - o) % 8 = s := by omega
    rw [e2, h1]; simp
  | false =>
    have e : q ≠ (s + o) % 8 := fun e => by rw [← e, Nat.beq_refl] at h; cases h
    have e2 : (q + 8 - o) % 8 ≠ s := by omega
    have e3 : decide ((q + 8 - o) % 8 < s + 1) = decide ((q + 8 - o) % 8 < s) := by
      rw [decide_eq_decide]; omega
    rw [e3]; rfl
theorem innS_no {g : Bool} {S n : Nat → Bool} {o s q : Nat} (h : S s = false ∨ g = false) : innS g S n o s q = innS g S n o (s + 1) q := by
  unfold innS
  rw [blt_iff, blt_iff]
  rcases h with h | h
  · by_cases e : (q + 8 - o) % 8 = s
    · rw [e, h]; simp
    · have e3 : decide ((q + 8 - o) % 8 < s + 1) = decide ((q + 8 - o) % 8 < s) := by
        rw [decide_eq_decide]; omega
      rw [e3]
  · rw [h]; rfl
theorem any_iff {p : Nat → Bool} {n : Nat} : (List.range n).any p = true ↔ ∃ a, a < n ∧ p a = true := by
  rw [List.any_eq_true]
  constructor
  · rintro ⟨a, h1, h2⟩; exact ⟨a, List.mem_range.1 h1, h2⟩
  · rintro ⟨a, h1, h2⟩; exact ⟨a, List.mem_range.2 h1, h2⟩
theorem canR_tot {M : List Con} {l : List Int} {a b : Int} (h : a = b) : canR M l a = canR M l b := by rw [h]
theorem smF_any {M : List Con} : ∀ {l : List Int} {S : Nat → Bool} {q : Nat}, q < 8 → (smF M l S q = true ↔ ∃ a, a < 8 ∧ S a = true ∧ canR M l (((q + 8 - a) % 8 : Nat) : Int) = true)
  | [], S, q, hq => by
    show S q = true ↔ _
    constructor
    · intro h
      refine ⟨q, hq, h, ?_⟩
      have : (q + 8 - q) % 8 = 0 := by omega
      rw [this]; rfl
    · rintro ⟨a, h1, h2, h3⟩
      have h3 : ((((q + 8 - a) % 8 : Nat) : Int) == 0) = true := h3
      rw [beq_iff_eq] at h3
      have : a = q := by omega
      rw [← this]; exact h2
  | i :: l, S, q, hq => by
    show smF M l (stepS S (at_ M i.toNat)) q = true ↔ _
    rw [smF_any hq]
    constructor
    · rintro ⟨a, h1, h2, h3⟩
      obtain ⟨o, ho, h4⟩ := any_iff.1 h2
      rw [Bool.and_eq_true] at h4
      refine ⟨(a + 8 - o) % 8, by omega, h4.2, ?_⟩
      simp only [canR]
      refine any_iff.2 ⟨o, ho, ?_⟩
      rw [Bool.and_eq_true]
      refine ⟨h4.1, ?_⟩
      rw [← h3]
      exact canR_tot (by omega)
    · rintro ⟨a, h1, h2, h3⟩
      simp only [canR] at h3
      obtain ⟨o, ho, h4⟩ := any_iff.1 h3
      rw [Bool.and_eq_true] at h4
      refine ⟨(a + o) % 8, by omega, any_iff.2 ⟨o, ho, ?_⟩, ?_⟩
      · rw [Bool.and_eq_true]
        refine ⟨h4.1, ?_⟩
        have : ((a + o) % 8 + 8 - o) % 8 = a := by omega
        rw [this]; exact h2
      · rw [← h4.2]
        exact canR_tot (by omega)
def s0F (q : Nat) : Bool := Nat.beq q 0
theorem smF_canR {M : List Con} {l : List Int} {q : Nat} (hq : q < 8) : smF M l s0F q = canR M l (q : Int) := by
  have h := smF_any (M := M) (l := l) (S := s0F) hq
  have e : (∃ a, a < 8 ∧ s0F a = true ∧ canR M l (((q + 8 - a) % 8 : Nat) : Int) = true) ↔ canR M l (q : Int) = true := by
    constructor
    · rintro ⟨a, h1, h2, h3⟩
      have h2 : a = 0 := Nat.eq_of_beq_eq_true h2
      subst h2
      rw [← h3]; exact canR_tot (by omega)
    · intro h
      refine ⟨0, by omega, rfl, ?_⟩
      rw [← h]; exact canR_tot (by omega)
  rw [e] at h
  cases h1 : smF M l s0F q <;> cases h2 : canR M l (q : Int) <;> simp_all
theorem smF_append {M : List Con} : ∀ {a b : List Int} {S : Nat → Bool}, smF M (a ++ b) S = smF M b (smF M a S)
  | [], _, _ => rfl
  | i :: a, b, S => by show smF M (a ++ b) _ = smF M b (smF M a _); rw [smF_append]
end Go.Proofs.YtkkmlbhmcdoibaaGreatDoor.S

namespace Go.Proofs.YtkkmlbhmcdoibaaGreatDoor.S
open Go.QfSy Go.RowKit
def b8 (n : Nat → Bool) : List AV := [.vbool (n 0), .vbool (n 1), .vbool (n 2), .vbool (n 3), .vbool (n 4), .vbool (n 5), .vbool (n 6), .vbool (n 7)]
theorem b8_get {n : Nat → Bool} {s : Nat} (h : s < 8) : [n 0, n 1, n 2, n 3, n 4, n 5, n 6, n 7].getD s false = n s := by
  rcases s with _ | _ | _ | _ | _ | _ | _ | _ | s
  all_goals first | rfl | omega
def cAv (c : Con) (o : AV) : List AV := [.vint .i64 c.exp, .vint .i64 c.dim, .vint .i64 c.sign, .vbool c.odd, o]
def lstC (c : Con) (M : List Con) (l : List Int) (tot : Int) (t : Nat) : Bool := legalB (wO c (t : Int)) && canR M l ((tot - (t : Int) + 8) % 8)
theorem lstC_P (M : List Con) (i : Int) (l : List Int) (tot : Int) : lstP M i l tot = lstC (at_ M i.toNat) M l tot := rfl
def lsF (c : Con) (M : List Con) (l : List Int) (tot : Int) : Option Nat := findT (lstC c M l tot) 8 0
noncomputable def leT (M : List Con) (l : List Int) (tot : Int) (j : AV) : List (Nat × AV) := [(1, (roC M).av), (3, .vint .i64 tot), (4, .ptr 1000 0), (8, .int .i64 0), (9, .bool false), (10, .ptr 1001 0), (18, (rI .i64 l).av), (19, .vint .i64 l.length), (20, j)]
noncomputable def leH (c : Con) (Sg : Nat → Bool) : List (Nat × Blk) := [(1000, ⟨.plain (cAv c (.vint .i64 c.oddity)), 25, 0, false, true⟩), (1001, ⟨.plain (b8 Sg), 80, 0, false, true⟩)]
noncomputable def leT2 (M : List Con) (l : List Int) (tot : Int) (j : Nat) : List (Nat × AV) := leT M l tot (.vint .i64 (j : Int)) ++ [(13, .ptr 1010 0), (14, .ptr 1011 0)]
noncomputable def leH2 (c : Con) (Sg n : Nat → Bool) (cc : Con) (o : AV) : List (Nat × Blk) := leH c Sg ++ [(1010, ⟨.plain (b8 n), 80, 0, false, true⟩), (1011, ⟨.plain (cAv cc o), 25, 0, false, true⟩)]
noncomputable def leC (c : Con) (M : List Con) (l : List Int) (tot : Int) (j : Nat) (Sg n : Nat → Bool) (cc : Con) (o : Nat) : Ann := ⟨⟨leT2 M l tot j ++ [(36, .agg (b8 Sg)), (37, .int .i64 0)], leH2 c Sg n cc (.vint .i64 (o : Int)), 1020⟩, none, fun _ =>
  (.exit 4, ⟨leT2 M l tot j, leH2 c Sg (innS (legalB (wO cc (o : Int))) Sg n o 8) cc (.vint .i64 (o : Int)), 1020⟩)⟩
theorem le_idx {s o : Nat} (hs : s < 8) (ho : o ≤ 8) : ((IntKind.i64.wrap ((s : Int) + (o : Int))).tmod 8).toNat = (s + o) % 8 := by
  rw [w64 (by omega) (by omega), Int.tmod_eq_emod_of_nonneg (by omega)]
  omega
set_option maxRecDepth 100000 in
theorem le_c (c : Con) (M : List Con) (l : List Int) (tot : Int) (j : Nat) (Sg n : Nat → Bool) (cc : Con) (o : Nat) (ho : o ≤ 8) : AnnOk Tryz.prog EV.ng (Nat.max 4 Tryz.f32.ntmps) (bodyAt Tryz.f32 [0, 1, 0, 0, 1, 0, 0, 1, 0, 1, 1, 1, 0, 0, 1, 1, 0, 0, 1, 0, 1, 1]) (leC c M l tot j Sg n cc o) := by
  refine ann_of evOk (callF_ok evOk (orcOf_ok entsVS_ok) 8) none_ann (by kernel_rfl) (by kernel_rfl) (fun i : Nat => (fun (s : Nat) => (⟨leT2 M l tot j ++ [(36, .agg (b8 Sg)), (37, .vint .i64 (s : Int))], leH2 c Sg (innS (legalB (wO cc (o : Int))) Sg n o s) cc (.vint .i64 (o : Int)), 1020⟩ : St)) i) (fun i : Nat => (fun (s : Nat) => (8 - s : Nat)) i) (fun (d : Bool) (i : Nat) => (fun (s : Nat) => (s ≤ 8 : Prop)) i) ?_ ?_
  · intro d hd
    exact ⟨(0), [M.length = M.length ∧ (fun i => (M.getD i Con.zero).rvs) = fun i => (M.getD i Con.zero).rvs, tot = tot, l.length = l.length ∧ (fun j => [RV.int IntKind.i64 (l.getD j (0 : Int))]) = fun j => [RV.int IntKind.i64 (l.getD j (0 : Int))], (↑l.length : Int) = (↑l.length : Int), (↑j : Int) = (↑j : Int), Sg (0 : Nat) = Sg (0 : Nat), Sg (1 : Nat) = Sg (1 : Nat), Sg (2 : Nat) = Sg (2 : Nat), Sg (3 : Nat) = Sg (3 : Nat), Sg (4 : Nat) = Sg (4 : Nat), Sg (5 : Nat) = Sg (5 : Nat), Sg (6 : Nat) = Sg (6 : Nat), Sg (7 : Nat) = Sg (7 : Nat), (0 : Int) = (↑(0 : Nat) : Int), c.exp = c.exp, c.dim = c.dim, c.sign = c.sign, c.odd = c.odd, c.oddity = c.oddity, Sg (0 : Nat) = Sg (0 : Nat), Sg (1 : Nat) = Sg (1 : Nat), Sg (2 : Nat) = Sg (2 : Nat), Sg (3 : Nat) = Sg (3 : Nat), Sg (4 : Nat) = Sg (4 : Nat), Sg (5 : Nat) = Sg (5 : Nat), Sg (6 : Nat) = Sg (6 : Nat), Sg (7 : Nat) = Sg (7 : Nat), n (0 : Nat) = innS (legalB (wO cc (↑o : Int))) Sg n o (0 : Nat) (0 : Nat), n (1 : Nat) = innS (legalB (wO cc (↑o : Int))) Sg n o (0 : Nat) (1 : Nat), n (2 : Nat) = innS (legalB (wO cc (↑o : Int))) Sg n o (0 : Nat) (2 : Nat), n (3 : Nat) = innS (legalB (wO cc (↑o : Int))) Sg n o (0 : Nat) (3 : Nat), n (4 : Nat) = innS (legalB (wO cc (↑o : Int))) Sg n o (0 : Nat) (4 : Nat), n (5 : Nat) = innS (legalB (wO cc (↑o : Int))) Sg n o (0 : Nat) (5 : Nat), n (6 : Nat) = innS (legalB (wO cc (↑o : Int))) Sg n o (0 : Nat) (6 : Nat), n (7 : Nat) = innS (legalB (wO cc (↑o : Int))) Sg n o (0 : Nat) (7 : Nat), cc.exp = cc.exp, cc.dim = cc.dim, cc.sign = cc.sign, cc.odd = cc.odd, (↑o : Int) = (↑o : Int)], by kernel_rfl, (by refine ⟨?_, ?_, ?_, ?_, ?_, ?_, ?_, ?_, ?_, ?_, ?_, ?_, ?_, ?_, ?_, ?_, ?_, ?_, ?_, ?_, ?_, ?_, ?_, ?_, ?_, ?_, ?_, ?_, ?_, ?_, ?_, ?_, ?_, ?_, ?_, ?_, ?_, ?_, ?_, (?_ : (↑o : Int) = (↑o : Int))⟩ <;> (first | (with_reducible rfl) | exact ⟨rfl, rfl⟩ | rfl | exact (innS_zero _ _ _ _ _).symm)), (by exact Nat.zero_le _)⟩
  · rintro d hd s hI
    cases d
    · -- d = false
      exact Bool.noConfusion (show false = true from hd)
    · -- d = true
      have hs : s ≤ 8 := hI
      have ek : IntKind.i64.wrap ((s : Int) + 1) = ((s + 1 : Nat) : Int) := by rw [w64 (by omega) (by omega)]; omega
      refine Or.elim (Bool.eq_false_or_eq_true (decide ((↑s : Int) < (8 : Int)))) (fun d1 => Or.elim (Bool.eq_false_or_eq_true ([Sg (0 : Nat), Sg (1 : Nat), Sg (2 : Nat), Sg (3 : Nat), Sg (4 : Nat), Sg (5 : Nat), Sg (6 : Nat), Sg (7 : Nat)].getD s false)) (fun d2 => Or.elim (Bool.eq_false_or_eq_true (legalB (Con.mk cc.exp cc.dim cc.sign cc.odd (↑o : Int)))) (fun d3 => ⟨[true, true, true], .inl ⟨(s + 1), [M.length = M.length ∧ (fun i => (M.getD i Con.zero).rvs) = fun i => (M.getD i Con.zero).rvs, tot = tot, l.length = l.length ∧ (fun j => [RV.int IntKind.i64 (l.getD j (0 : Int))]) = fun j => [RV.int IntKind.i64 (l.getD j (0 : Int))], (↑l.length : Int) = (↑l.length : Int), (↑j : Int) = (↑j : Int), Sg (0 : Nat) = Sg (0 : Nat), Sg (1 : Nat) = Sg (1 : Nat), Sg (2 : Nat) = Sg (2 : Nat), Sg (3 : Nat) = Sg (3 : Nat), Sg (4 : Nat) = Sg (4 : Nat), Sg (5 : Nat) = Sg (5 : Nat), Sg (6 : Nat) = Sg (6 : Nat), Sg (7 : Nat) = Sg (7 : Nat), IntKind.i64.wrap ((↑s : Int) + (1 : Int)) = (↑(s + (1 : Nat)) : Int), c.exp = c.exp, c.dim = c.dim, c.sign = c.sign, c.odd = c.odd, c.oddity = c.oddity, Sg (0 : Nat) = Sg (0 : Nat), Sg (1 : Nat) = Sg (1 : Nat), Sg (2 : Nat) = Sg (2 : Nat), Sg (3 : Nat) = Sg (3 : Nat), Sg (4 : Nat) = Sg (4 : Nat), Sg (5 : Nat) = Sg (5 : Nat), Sg (6 : Nat) = Sg (6 : Nat), Sg (7 : Nat) = Sg (7 : Nat), (bif Nat.beq (0 : Nat) (((IntKind.i64.wrap ((↑s : Int) + (↑o : Int))).tmod (8 : Int)).toNat + (0 : Nat)) then true else innS (legalB (wO cc (↑o : Int))) Sg n o s (0 : Nat)) = innS (legalB (wO cc (↑o : Int))) Sg n o (s + (1 : Nat)) (0 : Nat), (bif ((0 : Nat) + (1 : Nat)).beq (((IntKind.i64.wrap ((↑s : Int) + (↑o : Int))).tmod (8 : Int)).toNat + (0 : Nat)) then true else innS (legalB (wO cc (↑o : Int))) Sg n o s (1 : Nat)) = innS (legalB (wO cc (↑o : Int))) Sg n o (s + (1 : Nat)) (1 : Nat), (bif ((0 : Nat) + (1 : Nat) + (1 : Nat)).beq (((IntKind.i64.wrap ((↑s : Int) + (↑o : Int))).tmod (8 : Int)).toNat + (0 : Nat)) then true else innS (legalB (wO cc (↑o : Int))) Sg n o s (2 : Nat)) = innS (legalB (wO cc (↑o : Int))) Sg n o (s + (1 : Nat)) (2 : Nat), (bif ((0 : Nat) + (1 : Nat) + (1 : Nat) + (1 : Nat)).beq (((IntKind.i64.wrap ((↑s : Int) + (↑o : Int))).tmod (8 : Int)).toNat + (0 : Nat)) then true else innS (legalB (wO cc (↑o : Int))) Sg n o s (3 : Nat)) = innS (legalB (wO cc (↑o : Int))) Sg n o (s + (1 : Nat)) (3 : Nat), (bif ((0 : Nat) + (1 : Nat) + (1 : Nat) + (1 : Nat) + (1 : Nat)).beq (((IntKind.i64.wrap ((↑s : Int) + (↑o : Int))).tmod (8 : Int)).toNat + (0 : Nat)) then true else innS (legalB (wO cc (↑o : Int))) Sg n o s (4 : Nat)) = innS (legalB (wO cc (↑o : Int))) Sg n o (s + (1 : Nat)) (4 : Nat), (bif ((0 : Nat) + (1 : Nat) + (1 : Nat) + (1 : Nat) + (1 : Nat) + (1 : Nat)).beq (((IntKind.i64.wrap ((↑s : Int) + (↑o : Int))).tmod (8 : Int)).toNat + (0 : Nat)) then true else innS (legalB (wO cc (↑o : Int))) Sg n o s (5 : Nat)) = innS (legalB (wO cc (↑o : Int))) Sg n o (s + (1 : Nat)) (5 : Nat), (bif ((0 : Nat) + (1 : Nat) + (1 : Nat) + (1 : Nat) + (1 : Nat) + (1 : Nat) + (1 : Nat)).beq (((IntKind.i64.wrap ((↑s : Int) + (↑o : Int))).tmod (8 : Int)).toNat + (0 : Nat)) then true else innS (legalB (wO cc (↑o : Int))) Sg n o s (6 : Nat)) = innS (legalB (wO cc (↑o : Int))) Sg n o (s + (1 : Nat)) (6 : Nat), (bif ((0 : Nat) + (1 : Nat) + (1 : Nat) + (1 : Nat) + (1 : Nat) + (1 : Nat) + (1 : Nat) + (1 : Nat)).beq (((IntKind.i64.wrap ((↑s : Int) + (↑o : Int))).tmod (8 : Int)).toNat + (0 : Nat)) then true else innS (legalB (wO cc (↑o : Int))) Sg n o s (7 : Nat)) = innS (legalB (wO cc (↑o : Int))) Sg n o (s + (1 : Nat)) (7 : Nat), cc.exp = cc.exp, cc.dim = cc.dim, cc.sign = cc.sign, cc.odd = cc.odd, (↑o : Int) = (↑o : Int), ((IntKind.i64.wrap ((↑s : Int) + (↑o : Int))).tmod (8 : Int)).toNat + (0 : Nat) < [innS (legalB (wO cc (↑o : Int))) Sg n o s (0 : Nat), innS (legalB (wO cc (↑o : Int))) Sg n o s (1 : Nat), innS (legalB (wO cc (↑o : Int))) Sg n o s (2 : Nat), innS (legalB (wO cc (↑o : Int))) Sg n o s (3 : Nat), innS (legalB (wO cc (↑o : Int))) Sg n o s (4 : Nat), innS (legalB (wO cc (↑o : Int))) Sg n o s (5 : Nat), innS (legalB (wO cc (↑o : Int))) Sg n o s (6 : Nat), innS (legalB (wO cc (↑o : Int))) Sg n o s (7 : Nat)].length, (0 : Int) ≤ (IntKind.i64.wrap ((↑s : Int) + (↑o : Int))).tmod (8 : Int) ∧ (IntKind.i64.wrap ((↑s : Int) + (↑o : Int))).tmod (8 : Int) < (↑(8 : Nat) : Int), (8 : Int) ≠ (0 : Int), Dec (legalB (Con.mk cc.exp cc.dim cc.sign cc.odd (↑o : Int))) true, Dec ([Sg (0 : Nat), Sg (1 : Nat), Sg (2 : Nat), Sg (3 : Nat), Sg (4 : Nat), Sg (5 : Nat), Sg (6 : Nat), Sg (7 : Nat)].getD s false) true, (0 : Int) ≤ (↑s : Int) ∧ (↑s : Int) < (↑(8 : Nat) : Int) ∧ s < [Sg (0 : Nat), Sg (1 : Nat), Sg (2 : Nat), Sg (3 : Nat), Sg (4 : Nat), Sg (5 : Nat), Sg (6 : Nat), Sg (7 : Nat)].length, Dec (decide ((↑s : Int) < (8 : Int))) true], by kernel_rfl, ⟨?_, ?_, ?_, ?_, ?_, ?_, ?_, ?_, ?_, ?_, ?_, ?_, ?_, ?_, ?_, ?_, ?_, ?_, ?_, ?_, ?_, ?_, ?_, ?_, ?_, ?_, ?_, ?_, ?_, ?_, ?_, ?_, ?_, ?_, ?_, ?_, ?_, ?_, ?_, ?_, ?_, ?_, ?_, d3, d2, ?_, d1⟩, MuG.out ?_, InG.out ?_⟩⟩)
           (fun d3 => ⟨[true, true, false], .inl ⟨(s + 1), [M.length = M.length ∧ (fun i => (M.getD i Con.zero).rvs) = fun i => (M.getD i Con.zero).rvs, tot = tot, l.length = l.length ∧ (fun j => [RV.int IntKind.i64 (l.getD j (0 : Int))]) = fun j => [RV.int IntKind.i64 (l.getD j (0 : Int))], (↑l.length : Int) = (↑l.length : Int), (↑j : Int) = (↑j : Int), Sg (0 : Nat) = Sg (0 : Nat), Sg (1 : Nat) = Sg (1 : Nat), Sg (2 : Nat) = Sg (2 : Nat), Sg (3 : Nat) = Sg (3 : Nat), Sg (4 : Nat) = Sg (4 : Nat), Sg (5 : Nat) = Sg (5 : Nat), Sg (6 : Nat) = Sg (6 : Nat), Sg (7 : Nat) = Sg (7 : Nat), IntKind.i64.wrap ((↑s : Int) + (1 : Int)) = (↑(s + (1 : Nat)) : Int), c.exp = c.exp, c.dim = c.dim, c.sign = c.sign, c.odd = c.odd, c.oddity = c.oddity, Sg (0 : Nat) = Sg (0 : Nat), Sg (1 : Nat) = Sg (1 : Nat), Sg (2 : Nat) = Sg (2 : Nat), Sg (3 : Nat) = Sg (3 : Nat), Sg (4 : Nat) = Sg (4 : Nat), Sg (5 : Nat) = Sg (5 : Nat), Sg (6 : Nat) = Sg (6 : Nat), Sg (7 : Nat) = Sg (7 : Nat), innS (legalB (wO cc (↑o : Int))) Sg n o s (0 : Nat) = innS (legalB (wO cc (↑o : Int))) Sg n o (s + (1 : Nat)) (0 : Nat), innS (legalB (wO cc (↑o : Int))) Sg n o s (1 : Nat) = innS (legalB (wO cc (↑o : Int))) Sg n o (s + (1 : Nat)) (1 : Nat), innS (legalB (wO cc (↑o : Int))) Sg n o s (2 : Nat) = innS (legalB (wO cc (↑o : Int))) Sg n o (s + (1 : Nat)) (2 : Nat), innS (legalB (wO cc (↑o : Int))) Sg n o s (3 : Nat) = innS (legalB (wO cc (↑o : Int))) Sg n o (s + (1 : Nat)) (3 : Nat), innS (legalB (wO cc (↑o : Int))) Sg n o s (4 : Nat) = innS (legalB (wO cc (↑o : Int))) Sg n o (s + (1 : Nat)) (4 : Nat), innS (legalB (wO cc (↑o : Int))) Sg n o s (5 : Nat) = innS (legalB (wO cc (↑o : Int))) Sg n o (s + (1 : Nat)) (5 : Nat), innS (legalB (wO cc (↑o : Int))) Sg n o s (6 : Nat) = innS (legalB (wO cc (↑o : Int))) Sg n o (s + (1 : Nat)) (6 : Nat), innS (legalB (wO cc (↑o : Int))) Sg n o s (7 : Nat) = innS (legalB (wO cc (↑o : Int))) Sg n o (s + (1 : Nat)) (7 : Nat), cc.exp = cc.exp, cc.dim = cc.dim, cc.sign = cc.sign, cc.odd = cc.odd, (↑o : Int) = (↑o : Int), Dec (legalB (Con.mk cc.exp cc.dim cc.sign cc.odd (↑o : Int))) false, Dec ([Sg (0 : Nat), Sg (1 : Nat), Sg (2 : Nat), Sg (3 : Nat), Sg (4 : Nat), Sg (5 : Nat), Sg (6 : Nat), Sg (7 : Nat)].getD s false) true, (0 : Int) ≤ (↑s : Int) ∧ (↑s : Int) < (↑(8 : Nat) : Int) ∧ s < [Sg (0 : Nat), Sg (1 : Nat), Sg (2 : Nat), Sg (3 : Nat), Sg (4 : Nat), Sg (5 : Nat), Sg (6 : Nat), Sg (7 : Nat)].length, Dec (decide ((↑s : Int) < (8 : Int))) true], by kernel_rfl, ⟨?_, ?_, ?_, ?_, ?_, ?_, ?_, ?_, ?_, ?_, ?_, ?_, ?_, ?_, ?_, ?_, ?_, ?_, ?_, ?_, ?_, ?_, ?_, ?_, ?_, ?_, ?_, ?_, ?_, ?_, ?_, ?_, ?_, ?_, ?_, ?_, ?_, ?_, ?_, ?_, d3, d2, ?_, d1⟩, MuG.out ?_, InG.out ?_⟩⟩))
           (fun d2 => ⟨[true, false], .inl ⟨(s + 1), [M.length = M.length ∧ (fun i => (M.getD i Con.zero).rvs) = fun i => (M.getD i Con.zero).rvs, tot = tot, l.length = l.length ∧ (fun j => [RV.int IntKind.i64 (l.getD j (0 : Int))]) = fun j => [RV.int IntKind.i64 (l.getD j (0 : Int))], (↑l.length : Int) = (↑l.length : Int), (↑j : Int) = (↑j : Int), Sg (0 : Nat) = Sg (0 : Nat), Sg (1 : Nat) = Sg (1 : Nat), Sg (2 : Nat) = Sg (2 : Nat), Sg (3 : Nat) = Sg (3 : Nat), Sg (4 : Nat) = Sg (4 : Nat), Sg (5 : Nat) = Sg (5 : Nat), Sg (6 : Nat) = Sg (6 : Nat), Sg (7 : Nat) = Sg (7 : Nat), IntKind.i64.wrap ((↑s : Int) + (1 : Int)) = (↑(s + (1 : Nat)) : Int), c.exp = c.exp, c.dim = c.dim, c.sign = c.sign, c.odd = c.odd, c.oddity = c.oddity, Sg (0 : Nat) = Sg (0 : Nat), Sg (1 : Nat) = Sg (1 : Nat), Sg (2 : Nat) = Sg (2 : Nat), Sg (3 : Nat) = Sg (3 : Nat), Sg (4 : Nat) = Sg (4 : Nat), Sg (5 : Nat) = Sg (5 : Nat), Sg (6 : Nat) = Sg (6 : Nat), Sg (7 : Nat) = Sg (7 : Nat), innS (legalB (wO cc (↑o : Int))) Sg n o s (0 : Nat) = innS (legalB (wO cc (↑o : Int))) Sg n o (s + (1 : Nat)) (0 : Nat), innS (legalB (wO cc (↑o : Int))) Sg n o s (1 : Nat) = innS (legalB (wO cc (↑o : Int))) Sg n o (s + (1 : Nat)) (1 : Nat), innS (legalB (wO cc (↑o : Int))) Sg n o s (2 : Nat) = innS (legalB (wO cc (↑o : Int))) Sg n o (s + (1 : Nat)) (2 : Nat), innS (legalB (wO cc (↑o : Int))) Sg n o s (3 : Nat) = innS (legalB (wO cc (↑o : Int))) Sg n o (s + (1 : Nat)) (3 : Nat), innS (legalB (wO cc (↑o : Int))) Sg n o s (4 : Nat) = innS (legalB (wO cc (↑o : Int))) Sg n o (s + (1 : Nat)) (4 : Nat), innS (legalB (wO cc (↑o : Int))) Sg n o s (5 : Nat) = innS (legalB (wO cc (↑o : Int))) Sg n o (s + (1 : Nat)) (5 : Nat), innS (legalB (wO cc (↑o : Int))) Sg n o s (6 : Nat) = innS (legalB (wO cc (↑o : Int))) Sg n o (s + (1 : Nat)) (6 : Nat), innS (legalB (wO cc (↑o : Int))) Sg n o s (7 : Nat) = innS (legalB (wO cc (↑o : Int))) Sg n o (s + (1 : Nat)) (7 : Nat), cc.exp = cc.exp, cc.dim = cc.dim, cc.sign = cc.sign, cc.odd = cc.odd, (↑o : Int) = (↑o : Int), Dec ([Sg (0 : Nat), Sg (1 : Nat), Sg (2 : Nat), Sg (3 : Nat), Sg (4 : Nat), Sg (5 : Nat), Sg (6 : Nat), Sg (7 : Nat)].getD s false) false, (0 : Int) ≤ (↑s : Int) ∧ (↑s : Int) < (↑(8 : Nat) : Int) ∧ s < [Sg (0 : Nat), Sg (1 : Nat), Sg (2 : Nat), Sg (3 : Nat), Sg (4 : Nat), Sg (5 : Nat), Sg (6 : Nat), Sg (7 : Nat)].length, Dec (decide ((↑s : Int) < (8 : Int))) true], by kernel_rfl, ⟨?_, ?_, ?_, ?_, ?_, ?_, ?_, ?_, ?_, ?_, ?_, ?_, ?_, ?_, ?_, ?_, ?_, ?_, ?_, ?_, ?_, ?_, ?_, ?_, ?_, ?_, ?_, ?_, ?_, ?_, ?_, ?_, ?_, ?_, ?_, ?_, ?_, ?_, ?_, ?_, d2, ?_, d1⟩, MuG.out ?_, InG.out ?_⟩⟩))
           (fun d1 => ⟨[false], .inr ⟨[M.length = M.length ∧ (fun i => (M.getD i Con.zero).rvs) = fun i => (M.getD i Con.zero).rvs, tot = tot, l.length = l.length ∧ (fun j => [RV.int IntKind.i64 (l.getD j (0 : Int))]) = fun j => [RV.int IntKind.i64 (l.getD j (0 : Int))], (↑l.length : Int) = (↑l.length : Int), (↑j : Int) = (↑j : Int), c.exp = c.exp, c.dim = c.dim, c.sign = c.sign, c.odd = c.odd, c.oddity = c.oddity, Sg (0 : Nat) = Sg (0 : Nat), Sg (1 : Nat) = Sg (1 : Nat), Sg (2 : Nat) = Sg (2 : Nat), Sg (3 : Nat) = Sg (3 : Nat), Sg (4 : Nat) = Sg (4 : Nat), Sg (5 : Nat) = Sg (5 : Nat), Sg (6 : Nat) = Sg (6 : Nat), Sg (7 : Nat) = Sg (7 : Nat), innS (legalB (wO cc (↑o : Int))) Sg n o s (0 : Nat) = innS (legalB (wO cc (↑o : Int))) Sg n o (8 : Nat) (0 : Nat), innS (legalB (wO cc (↑o : Int))) Sg n o s (1 : Nat) = innS (legalB (wO cc (↑o : Int))) Sg n o (8 : Nat) (1 : Nat), innS (legalB (wO cc (↑o : Int))) Sg n o s (2 : Nat) = innS (legalB (wO cc (↑o : Int))) Sg n o (8 : Nat) (2 : Nat), innS (legalB (wO cc (↑o : Int))) Sg n o s (3 : Nat) = innS (legalB (wO cc (↑o : Int))) Sg n o (8 : Nat) (3 : Nat), innS (legalB (wO cc (↑o : Int))) Sg n o s (4 : Nat) = innS (legalB (wO cc (↑o : Int))) Sg n o (8 : Nat) (4 : Nat), innS (legalB (wO cc (↑o : Int))) Sg n o s (5 : Nat) = innS (legalB (wO cc (↑o : Int))) Sg n o (8 : Nat) (5 : Nat), innS (legalB (wO cc (↑o : Int))) Sg n o s (6 : Nat) = innS (legalB (wO cc (↑o : Int))) Sg n o (8 : Nat) (6 : Nat), innS (legalB (wO cc (↑o : Int))) Sg n o s (7 : Nat) = innS (legalB (wO cc (↑o : Int))) Sg n o (8 : Nat) (7 : Nat), cc.exp = cc.exp, cc.dim = cc.dim, cc.sign = cc.sign, cc.odd = cc.odd, (↑o : Int) = (↑o : Int), Dec (decide ((↑s : Int) < (8 : Int))) false], by kernel_rfl, ⟨?_, ?_, ?_, ?_, ?_, ?_, ?_, ?_, ?_, ?_, ?_, ?_, ?_, ?_, ?_, ?_, ?_, ?_, ?_, ?_, ?_, ?_, ?_, ?_, ?_, ?_, ?_, ?_, ?_, ?_, ?_, d1⟩, rfl⟩⟩)
      all_goals first | (refine MuG.mk ?_; (simp only [decide_eq_true_eq] at *; show 8 - (s + 1) < 8 - s; omega)) | (refine InG.mk ?_; (simp only [decide_eq_true_eq] at *; show s + 1 ≤ 8; omega)) | (refine CtG.mk ?_; (simp_all)) | (first | (with_reducible rfl) | exact ⟨rfl, rfl⟩ | decide | ((try simp only [ek, Int.toNat_natCast, decide_eq_true_eq, decide_eq_false_iff_not] at *) <;> first | omega | (have h8 : s = 8 := (by omega); subst h8; rfl) | (have h7 : s < 8 := (by omega); have hx := le_idx h7 ho; first | (rw [hx]; first | exact innS_yes (by decide) ho h7 ((b8_get h7).symm.trans d2) d3 | (have h0 := Nat.mod_lt (s + o) (show 0 < 8 by decide); simp only [List.length_cons, List.length_nil]; omega)) | exact innS_no (.inl ((b8_get h7).symm.trans d2)) | exact innS_no (.inr d3) | (have h1 := w64 (n := (s : Int) + (o : Int)) (by omega) (by omega); rw [h1, Int.tmod_eq_emod_of_nonneg (by omega)]; omega) | (simp only [List.length_cons, List.length_nil]; omega))))
noncomputable def leB (c : Con) (M : List Con) (l : List Int) (tot : Int) (j : Nat) (Sg : Nat → Bool) (cc : Con) : Ann := ⟨⟨leT2 M l tot j, leH2 c Sg (midS Sg cc 0) cc (.int .i64 0), 1020⟩, none, fun _ =>
  (.exit 2, ⟨leT2 M l tot j, leH2 c Sg (stepS Sg cc) cc (.int .i64 8), 1020⟩)⟩
theorem le_mid {Sg : Nat → Bool} {cc : Con} {o q : Nat} : innS (legalB (wO cc (o : Int))) Sg (midS Sg cc o) o 8 q = midS Sg cc (o + 1) q := by
  rw [innS_last, midS_succ]
set_option maxRecDepth 100000 in
theorem le_b (c : Con) (M : List Con) (l : List Int) (tot : Int) (j : Nat) (Sg : Nat → Bool) (cc : Con) : AnnOk Tryz.prog EV.ng (Nat.max 4 Tryz.f32.ntmps) (bodyAt Tryz.f32 [0, 1, 0, 1, 1, 1, 0, 0, 1, 1, 0, 0, 1, 0, 1, 1]) (leB c M l tot j Sg cc) := by
  refine ann_ofI evOk (callF_ok evOk (orcOf_ok entsVS_ok) 8) (by kernel_rfl) (by kernel_rfl) (fun i : Nat => (fun (o : Nat) => (⟨leT2 M l tot j, leH2 c Sg (midS Sg cc o) cc (.vint .i64 (o : Int)), 1020⟩ : St)) i) (fun i : Nat => (fun (o : Nat) => (8 - o : Nat)) i) (fun (d : Bool) (i : Nat) => (fun (o : Nat) => (o ≤ 8 : Prop)) i) (fun i : Nat => (fun (o : Nat) => ([([0, 1, 0, 0, 1, 0, 0, 1, 0, 1, 1, 1, 0, 0, 1, 1, 0, 0, 1, 0, 1, 1], leC c M l tot j Sg (midS Sg cc o) cc o)] : List (List Nat × Ann))) i) ?_ ?_ ?_
  · rintro d hd o hI
    exact one_ann (le_c c M l tot j Sg (midS Sg cc o) cc o hI)
  · intro d hd
    exact ⟨(0), [M.length = M.length ∧ (fun i => (M.getD i Con.zero).rvs) = fun i => (M.getD i Con.zero).rvs, tot = tot, l.length = l.length ∧ (fun j => [RV.int IntKind.i64 (l.getD j (0 : Int))]) = fun j => [RV.int IntKind.i64 (l.getD j (0 : Int))], (↑l.length : Int) = (↑l.length : Int), (↑j : Int) = (↑j : Int), c.exp = c.exp, c.dim = c.dim, c.sign = c.sign, c.odd = c.odd, c.oddity = c.oddity, Sg (0 : Nat) = Sg (0 : Nat), Sg (1 : Nat) = Sg (1 : Nat), Sg (2 : Nat) = Sg (2 : Nat), Sg (3 : Nat) = Sg (3 : Nat), Sg (4 : Nat) = Sg (4 : Nat), Sg (5 : Nat) = Sg (5 : Nat), Sg (6 : Nat) = Sg (6 : Nat), Sg (7 : Nat) = Sg (7 : Nat), false = false, false = false, false = false, false = false, false = false, false = false, false = false, false = false, cc.exp = cc.exp, cc.dim = cc.dim, cc.sign = cc.sign, cc.odd = cc.odd, (0 : Int) = (↑(0 : Nat) : Int)], by kernel_rfl, (by refine ⟨?_, ?_, ?_, ?_, ?_, ?_, ?_, ?_, ?_, ?_, ?_, ?_, ?_, ?_, ?_, ?_, ?_, ?_, ?_, ?_, ?_, ?_, ?_, ?_, ?_, ?_, ?_, ?_, ?_, ?_, (?_ : (0 : Int) = (↑(0 : Nat) : Int))⟩ <;> (first | rfl | assumption | omega | simp_all)), (by exact Nat.zero_le _)⟩
  · rintro d hd o hI
    cases d
    · -- d = false
      exact Bool.noConfusion (show false = true from hd)
    · -- d = true
      have hs : o ≤ 8 := hI
      have ek : IntKind.i64.wrap ((o : Int) + 1) = ((o + 1 : Nat) : Int) := by rw [w64 (by omega) (by omega)]; omega
      refine Or.elim (Bool.eq_false_or_eq_true (decide ((↑o : Int) < (8 : Int)))) (fun d1 => ⟨[true], .inl ⟨(o + 1), [M.length = M.length ∧ (fun i => (M.getD i Con.zero).rvs) = fun i => (M.getD i Con.zero).rvs, tot = tot, l.length = l.length ∧ (fun j => [RV.int IntKind.i64 (l.getD j (0 : Int))]) = fun j => [RV.int IntKind.i64 (l.getD j (0 : Int))], (↑l.length : Int) = (↑l.length : Int), (↑j : Int) = (↑j : Int), c.exp = c.exp, c.dim = c.dim, c.sign = c.sign, c.odd = c.odd, c.oddity = c.oddity, Sg (0 : Nat) = Sg (0 : Nat), Sg (1 : Nat) = Sg (1 : Nat), Sg (2 : Nat) = Sg (2 : Nat), Sg (3 : Nat) = Sg (3 : Nat), Sg (4 : Nat) = Sg (4 : Nat), Sg (5 : Nat) = Sg (5 : Nat), Sg (6 : Nat) = Sg (6 : Nat), Sg (7 : Nat) = Sg (7 : Nat), innS (legalB (wO cc (↑o : Int))) Sg (midS Sg cc o) o (8 : Nat) (0 : Nat) = midS Sg cc (o + (1 : Nat)) (0 : Nat), innS (legalB (wO cc (↑o : Int))) Sg (midS Sg cc o) o (8 : Nat) (1 : Nat) = midS Sg cc (o + (1 : Nat)) (1 : Nat), innS (legalB (wO cc (↑o : Int))) Sg (midS Sg cc o) o (8 : Nat) (2 : Nat) = midS Sg cc (o + (1 : Nat)) (2 : Nat), innS (legalB (wO cc (↑o : Int))) Sg (midS Sg cc o) o (8 : Nat) (3 : Nat) = midS Sg cc (o + (1 : Nat)) (3 : Nat), innS (legalB (wO cc (↑o : Int))) Sg (midS Sg cc o) o (8 : Nat) (4 : Nat) = midS Sg cc (o + (1 : Nat)) (4 : Nat), innS (legalB (wO cc (↑o : Int))) Sg (midS Sg cc o) o (8 : Nat) (5 : Nat) = midS Sg cc (o + (1 : Nat)) (5 : Nat), innS (legalB (wO cc (↑o : Int))) Sg (midS Sg cc o) o (8 : Nat) (6 : Nat) = midS Sg cc (o + (1 : Nat)) (6 : Nat), innS (legalB (wO cc (↑o : Int))) Sg (midS Sg cc o) o (8 : Nat) (7 : Nat) = midS Sg cc (o + (1 : Nat)) (7 : Nat), cc.exp = cc.exp, cc.dim = cc.dim, cc.sign = cc.sign, cc.odd = cc.odd, IntKind.i64.wrap ((↑o : Int) + (1 : Int)) = (↑(o + (1 : Nat)) : Int), M.length = M.length ∧ (fun i => (M.getD i Con.zero).rvs) = fun i => (M.getD i Con.zero).rvs, tot = tot, l.length = l.length ∧ (fun j => [RV.int IntKind.i64 (l.getD j (0 : Int))]) = fun j => [RV.int IntKind.i64 (l.getD j (0 : Int))], (↑l.length : Int) = (↑l.length : Int), (↑j : Int) = (↑j : Int), Sg (0 : Nat) = Sg (0 : Nat), Sg (1 : Nat) = Sg (1 : Nat), Sg (2 : Nat) = Sg (2 : Nat), Sg (3 : Nat) = Sg (3 : Nat), Sg (4 : Nat) = Sg (4 : Nat), Sg (5 : Nat) = Sg (5 : Nat), Sg (6 : Nat) = Sg (6 : Nat), Sg (7 : Nat) = Sg (7 : Nat), c.exp = c.exp, c.dim = c.dim, c.sign = c.sign, c.odd = c.odd, c.oddity = c.oddity, Sg (0 : Nat) = Sg (0 : Nat), Sg (1 : Nat) = Sg (1 : Nat), Sg (2 : Nat) = Sg (2 : Nat), Sg (3 : Nat) = Sg (3 : Nat), Sg (4 : Nat) = Sg (4 : Nat), Sg (5 : Nat) = Sg (5 : Nat), Sg (6 : Nat) = Sg (6 : Nat), Sg (7 : Nat) = Sg (7 : Nat), midS Sg cc o (0 : Nat) = midS Sg cc o (0 : Nat), midS Sg cc o (1 : Nat) = midS Sg cc o (1 : Nat), midS Sg cc o (2 : Nat) = midS Sg cc o (2 : Nat), midS Sg cc o (3 : Nat) = midS Sg cc o (3 : Nat), midS Sg cc o (4 : Nat) = midS Sg cc o (4 : Nat), midS Sg cc o (5 : Nat) = midS Sg cc o (5 : Nat), midS Sg cc o (6 : Nat) = midS Sg cc o (6 : Nat), midS Sg cc o (7 : Nat) = midS Sg cc o (7 : Nat), cc.exp = cc.exp, cc.dim = cc.dim, cc.sign = cc.sign, cc.odd = cc.odd, (↑o : Int) = (↑o : Int), Dec (decide ((↑o : Int) < (8 : Int))) true], by kernel_rfl, ⟨?_, ?_, ?_, ?_, ?_, ?_, ?_, ?_, ?_, ?_, ?_, ?_, ?_, ?_, ?_, ?_, ?_, ?_, ?_, ?_, ?_, ?_, ?_, ?_, ?_, ?_, ?_, ?_, ?_, ?_, ?_, ?_, ?_, ?_, ?_, ?_, ?_, ?_, ?_, ?_, ?_, ?_, ?_, ?_, ?_, ?_, ?_, ?_, ?_, ?_, ?_, ?_, ?_, ?_, ?_, ?_, ?_, ?_, ?_, ?_, ?_, ?_, ?_, ?_, ?_, ?_, ?_, ?_, ?_, ?_, d1⟩, MuG.out ?_, InG.out ?_⟩⟩)
           (fun d1 => ⟨[false], .inr ⟨[M.length = M.length ∧ (fun i => (M.getD i Con.zero).rvs) = fun i => (M.getD i Con.zero).rvs, tot = tot, l.length = l.length ∧ (fun j => [RV.int IntKind.i64 (l.getD j (0 : Int))]) = fun j => [RV.int IntKind.i64 (l.getD j (0 : Int))], (↑l.length : Int) = (↑l.length : Int), (↑j : Int) = (↑j : Int), c.exp = c.exp, c.dim = c.dim, c.sign = c.sign, c.odd = c.odd, c.oddity = c.oddity, Sg (0 : Nat) = Sg (0 : Nat), Sg (1 : Nat) = Sg (1 : Nat), Sg (2 : Nat) = Sg (2 : Nat), Sg (3 : Nat) = Sg (3 : Nat), Sg (4 : Nat) = Sg (4 : Nat), Sg (5 : Nat) = Sg (5 : Nat), Sg (6 : Nat) = Sg (6 : Nat), Sg (7 : Nat) = Sg (7 : Nat), midS Sg cc o (0 : Nat) = stepS Sg cc (0 : Nat), midS Sg cc o (1 : Nat) = stepS Sg cc (1 : Nat), midS Sg cc o (2 : Nat) = stepS Sg cc (2 : Nat), midS Sg cc o (3 : Nat) = stepS Sg cc (3 : Nat), midS Sg cc o (4 : Nat) = stepS Sg cc (4 : Nat), midS Sg cc o (5 : Nat) = stepS Sg cc (5 : Nat), midS Sg cc o (6 : Nat) = stepS Sg cc (6 : Nat), midS Sg cc o (7 : Nat) = stepS Sg cc (7 : Nat), cc.exp = cc.exp, cc.dim = cc.dim, cc.sign = cc.sign, cc.odd = cc.odd, (↑o : Int) = (8 : Int), Dec (decide ((↑o : Int) < (8 : Int))) false], by kernel_rfl, ⟨?_, ?_, ?_, ?_, ?_, ?_, ?_, ?_, ?_, ?_, ?_, ?_, ?_, ?_, ?_, ?_, ?_, ?_, ?_, ?_, ?_, ?_, ?_, ?_, ?_, ?_, ?_, ?_, ?_, ?_, ?_, d1⟩, rfl⟩⟩)
      all_goals first | (refine MuG.mk ?_; (simp only [decide_eq_true_eq] at *; show 8 - (o + 1) < 8 - o; omega)) | (refine InG.mk ?_; (simp only [decide_eq_true_eq] at *; show o + 1 ≤ 8; omega)) | (refine CtG.mk ?_; (simp_all)) | (first | (with_reducible rfl) | exact ⟨rfl, rfl⟩ | decide | ((try simp only [ek, Int.toNat_natCast, decide_eq_true_eq, decide_eq_false_iff_not] at *) <;> first | omega | (have h8 : o = 8 := (by omega); subst h8; rfl) | exact le_mid))
noncomputable def leA (c : Con) (M : List Con) (l : List Int) (tot : Int) : Ann := ⟨⟨leT M l tot (.int .i64 0), leH c s0F, 1010⟩, none, fun _ =>
  (.exit 0, ⟨leT M l tot (.vint .i64 (l.length : Int)), leH c (smF M l s0F), 1010⟩)⟩
theorem smF_take {M : List Con} {l : List Int} {j : Nat} (hj : j < l.length) {S : Nat → Bool} : smF M (l.take (j + 1)) S = stepS (smF M (l.take j) S) (at_ M (l.getD j 0).toNat) := by
  rw [take_int hj, smF_append]; rfl
set_option maxRecDepth 100000 in
theorem le_a (c : Con) (M : List Con) (l : List Int) (tot : Int) (hl : l.length ≤ 1000) (hr : inR M.length l) : AnnOk Tryz.prog EV.ng (Nat.max 4 Tryz.f32.ntmps) (bodyAt Tryz.f32 [0, 1, 0, 1, 1]) (leA c M l tot) := by
  refine ann_ofI evOk (callF_ok evOk (orcOf_ok entsVS_ok) 8) (by kernel_rfl) (by kernel_rfl) (fun i : Nat => (fun (j : Nat) => (⟨leT M l tot (.vint .i64 (j : Int)), leH c (smF M (l.take j) s0F), 1010⟩ : St)) i) (fun i : Nat => (fun (j : Nat) => (l.length - j : Nat)) i) (fun (d : Bool) (i : Nat) => (fun (j : Nat) => (j ≤ l.length : Prop)) i) (fun i : Nat => (fun (j : Nat) => ([([0, 1, 0, 1, 1, 1, 0, 0, 1, 1, 0, 0, 1, 0, 1, 1], leB c M l tot j (smF M (l.take j) s0F) (at_ M (l.getD j 0).toNat))] : List (List Nat × Ann))) i) ?_ ?_ ?_
  · rintro d hd j hI
    exact one_ann (le_b c M l tot j (smF M (l.take j) s0F) (at_ M (l.getD j 0).toNat))
  · intro d hd
    exact ⟨(0), [M.length = M.length ∧ (fun i => (M.getD i Con.zero).rvs) = fun i => (M.getD i Con.zero).rvs, tot = tot, l.length = l.length ∧ (fun j => [RV.int IntKind.i64 (l.getD j (0 : Int))]) = fun j => [RV.int IntKind.i64 (l.getD j (0 : Int))], (↑l.length : Int) = (↑l.length : Int), (0 : Int) = (↑(0 : Nat) : Int), c.exp = c.exp, c.dim = c.dim, c.sign = c.sign, c.odd = c.odd, c.oddity = c.oddity, true = true, false = false, false = false, false = false, false = false, false = false, false = false, false = false], by kernel_rfl, (by refine ⟨?_, ?_, ?_, ?_, ?_, ?_, ?_, ?_, ?_, ?_, ?_, ?_, ?_, ?_, ?_, ?_, ?_, (?_ : false = false)⟩ <;> (first | (with_reducible rfl) | exact ⟨rfl, rfl⟩ | rfl)), (by exact Nat.zero_le _)⟩
  · rintro d hd j hI
    cases d
    · -- d = false
      exact Bool.noConfusion (show false = true from hd)
    · -- d = true
      have hs : j ≤ l.length := hI
      have ek : IntKind.i64.wrap ((j : Int) + 1) = ((j + 1 : Nat) : Int) := by rw [w64 (by omega) (by omega)]; omega
      refine Or.elim (Bool.eq_false_or_eq_true (decide ((↑j : Int) < (↑l.length : Int)))) (fun d1 => ⟨[true], .inl ⟨(j + 1), [M.length = M.length ∧ (fun i => (M.getD i Con.zero).rvs) = fun i => (M.getD i Con.zero).rvs, tot = tot, l.length = l.length ∧ (fun j => [RV.int IntKind.i64 (l.getD j (0 : Int))]) = fun j => [RV.int IntKind.i64 (l.getD j (0 : Int))], (↑l.length : Int) = (↑l.length : Int), IntKind.i64.wrap ((↑j : Int) + (1 : Int)) = (↑(j + (1 : Nat)) : Int), c.exp = c.exp, c.dim = c.dim, c.sign = c.sign, c.odd = c.odd, c.oddity = c.oddity, stepS (smF M (List.take j l) s0F) (at_ M (l.getD j (0 : Int)).toNat) (0 : Nat) = smF M (List.take (j + (1 : Nat)) l) s0F (0 : Nat), stepS (smF M (List.take j l) s0F) (at_ M (l.getD j (0 : Int)).toNat) (1 : Nat) = smF M (List.take (j + (1 : Nat)) l) s0F (1 : Nat), stepS (smF M (List.take j l) s0F) (at_ M (l.getD j (0 : Int)).toNat) (2 : Nat) = smF M (List.take (j + (1 : Nat)) l) s0F (2 : Nat), stepS (smF M (List.take j l) s0F) (at_ M (l.getD j (0 : Int)).toNat) (3 : Nat) = smF M (List.take (j + (1 : Nat)) l) s0F (3 : Nat), stepS (smF M (List.take j l) s0F) (at_ M (l.getD j (0 : Int)).toNat) (4 : Nat) = smF M (List.take (j + (1 : Nat)) l) s0F (4 : Nat), stepS (smF M (List.take j l) s0F) (at_ M (l.getD j (0 : Int)).toNat) (5 : Nat) = smF M (List.take (j + (1 : Nat)) l) s0F (5 : Nat), stepS (smF M (List.take j l) s0F) (at_ M (l.getD j (0 : Int)).toNat) (6 : Nat) = smF M (List.take (j + (1 : Nat)) l) s0F (6 : Nat), stepS (smF M (List.take j l) s0F) (at_ M (l.getD j (0 : Int)).toNat) (7 : Nat) = smF M (List.take (j + (1 : Nat)) l) s0F (7 : Nat), M.length = M.length ∧ (fun i => (M.getD i Con.zero).rvs) = fun i => (M.getD i Con.zero).rvs, tot = tot, l.length = l.length ∧ (fun j => [RV.int IntKind.i64 (l.getD j (0 : Int))]) = fun j => [RV.int IntKind.i64 (l.getD j (0 : Int))], (↑l.length : Int) = (↑l.length : Int), (↑j : Int) = (↑j : Int), c.exp = c.exp, c.dim = c.dim, c.sign = c.sign, c.odd = c.odd, c.oddity = c.oddity, smF M (List.take j l) s0F (0 : Nat) = smF M (List.take j l) s0F (0 : Nat), smF M (List.take j l) s0F (1 : Nat) = smF M (List.take j l) s0F (1 : Nat), smF M (List.take j l) s0F (2 : Nat) = smF M (List.take j l) s0F (2 : Nat), smF M (List.take j l) s0F (3 : Nat) = smF M (List.take j l) s0F (3 : Nat), smF M (List.take j l) s0F (4 : Nat) = smF M (List.take j l) s0F (4 : Nat), smF M (List.take j l) s0F (5 : Nat) = smF M (List.take j l) s0F (5 : Nat), smF M (List.take j l) s0F (6 : Nat) = smF M (List.take j l) s0F (6 : Nat), smF M (List.take j l) s0F (7 : Nat) = smF M (List.take j l) s0F (7 : Nat), false = false, false = false, false = false, false = false, false = false, false = false, false = false, false = false, (M.getD (l.getD j (0 : Int)).toNat Con.zero).exp = (at_ M (l.getD j (0 : Int)).toNat).exp, (M.getD (l.getD j (0 : Int)).toNat Con.zero).dim = (at_ M (l.getD j (0 : Int)).toNat).dim, (M.getD (l.getD j (0 : Int)).toNat Con.zero).sign = (at_ M (l.getD j (0 : Int)).toNat).sign, (M.getD (l.getD j (0 : Int)).toNat Con.zero).odd = (at_ M (l.getD j (0 : Int)).toNat).odd, (0 : Int) ≤ l.getD j (0 : Int) ∧ l.getD j (0 : Int) < (↑M.length : Int), (0 : Int) ≤ (↑j : Int) ∧ (↑j : Int) < (↑l.length : Int), Dec (decide ((↑j : Int) < (↑l.length : Int))) true], by kernel_rfl, ⟨?_, ?_, ?_, ?_, ?_, ?_, ?_, ?_, ?_, ?_, ?_, ?_, ?_, ?_, ?_, ?_, ?_, ?_, ?_, ?_, ?_, ?_, ?_, ?_, ?_, ?_, ?_, ?_, ?_, ?_, ?_, ?_, ?_, ?_, ?_, ?_, ?_, ?_, ?_, ?_, ?_, ?_, ?_, ?_, ?_, ?_, ?_, ?_, ?_, ?_, d1⟩, MuG.out ?_, InG.out ?_⟩⟩)
           (fun d1 => ⟨[false], .inr ⟨[M.length = M.length ∧ (fun i => (M.getD i Con.zero).rvs) = fun i => (M.getD i Con.zero).rvs, tot = tot, l.length = l.length ∧ (fun j => [RV.int IntKind.i64 (l.getD j (0 : Int))]) = fun j => [RV.int IntKind.i64 (l.getD j (0 : Int))], (↑l.length : Int) = (↑l.length : Int), (↑j : Int) = (↑l.length : Int), c.exp = c.exp, c.dim = c.dim, c.sign = c.sign, c.odd = c.odd, c.oddity = c.oddity, smF M (List.take j l) s0F (0 : Nat) = smF M l s0F (0 : Nat), smF M (List.take j l) s0F (1 : Nat) = smF M l s0F (1 : Nat), smF M (List.take j l) s0F (2 : Nat) = smF M l s0F (2 : Nat), smF M (List.take j l) s0F (3 : Nat) = smF M l s0F (3 : Nat), smF M (List.take j l) s0F (4 : Nat) = smF M l s0F (4 : Nat), smF M (List.take j l) s0F (5 : Nat) = smF M l s0F (5 : Nat), smF M (List.take j l) s0F (6 : Nat) = smF M l s0F (6 : Nat), smF M (List.take j l) s0F (7 : Nat) = smF M l s0F (7 : Nat), Dec (decide ((↑j : Int) < (↑l.length : Int))) false], by kernel_rfl, ⟨?_, ?_, ?_, ?_, ?_, ?_, ?_, ?_, ?_, ?_, ?_, ?_, ?_, ?_, ?_, ?_, ?_, ?_, d1⟩, rfl⟩⟩)
      all_goals first | (refine MuG.mk ?_; (simp only [decide_eq_true_eq] at *; show l.length - (j + 1) < l.length - j; omega)) | (refine InG.mk ?_; (simp only [decide_eq_true_eq] at *; show j + 1 ≤ l.length; omega)) | (refine CtG.mk ?_; (simp_all)) | (first | (with_reducible rfl) | exact ⟨rfl, rfl⟩ | decide | ((try simp only [ek, Int.toNat_natCast, decide_eq_true_eq, decide_eq_false_iff_not] at *) <;> first | omega | (have h1 := hr.at (t := j) (by omega); omega) | (rw [smF_take (by omega)]; done) | (rw [List.take_of_length_le (by omega)]; done) | (congr 1; omega) | rfl))
noncomputable def leDH (c : Con) (F : Nat → Bool) (o : AV) : List (Nat × Blk) := [(1000, ⟨.plain (cAv c o), 25, 0, false, true⟩), (1001, ⟨.plain (b8 F), 80, 0, false, true⟩)]
noncomputable def leDT (tot : Int) : List (Nat × AV) := [(3, .vint .i64 tot), (4, .ptr 1000 0), (10, .ptr 1001 0)]
noncomputable def leD (c : Con) (M : List Con) (l : List Int) (tot : Int) : Ann := ⟨⟨leDT tot, leDH c (smF M l s0F) (.int .i64 0), 1010⟩, some (lsF c M l tot).isSome, fun d => match d with
  | true => (.ret, ⟨[(8, .vint .i64 (((lsF c M l tot).getD 0 : Nat) : Int)), (9, .bool true)], [], 1010⟩)
  | false => (.exit 6, ⟨[], [], 1010⟩)⟩
theorem le_tot {tot : Int} {t : Nat} (h0 : 0 ≤ tot) (h1 : tot ≤ 7) (ht : t < 8) : (IntKind.i64.wrap (IntKind.i64.wrap (tot - (t : Int)) + 8)).tmod 8 = (tot - (t : Int) + 8) % 8 := by
  rw [w64 (n := tot - (t : Int)) (by omega) (by omega), w64 (by omega) (by omega), Int.tmod_eq_emod_of_nonneg (by omega)]
theorem le_can {M : List Con} {l : List Int} {x : Int} (h0 : 0 ≤ x) (h1 : x < 8) : [smF M l s0F 0, smF M l s0F 1, smF M l s0F 2, smF M l s0F 3, smF M l s0F 4, smF M l s0F 5, smF M l s0F 6, smF M l s0F 7].getD (x.toNat + 0) false = canR M l x := by
  rw [Nat.add_zero, b8_get (n := smF M l s0F) (by omega), smF_canR (by omega), Int.toNat_of_nonneg h0]
theorem findT_yes {p : Nat → Bool} {t : Nat} (ht : t < 8) (h : p t = true) : findT p (8 - t) t = some t := by
  rw [show 8 - t = (8 - (t + 1)) + 1 by omega]
  simp only [findT, h, cond_true]
theorem findT_no {p : Nat → Bool} {t : Nat} (ht : t < 8) (h : p t = false) : findT p (8 - t) t = findT p (8 - (t + 1)) (t + 1) := by
  rw [show 8 - t = (8 - (t + 1)) + 1 by omega]
  simp only [findT, h, cond_false]
theorem lst_yes {c : Con} {M : List Con} {l : List Int} {tot : Int} {t : Nat} (h1 : legalB (wO c (t : Int)) = true) (h2 : canR M l ((tot - (t : Int) + 8) % 8) = true) : lstC c M l tot t = true := by unfold lstC; rw [h1, h2]; rfl
theorem lst_no1 {c : Con} {M : List Con} {l : List Int} {tot : Int} {t : Nat} (h1 : legalB (wO c (t : Int)) = false) : lstC c M l tot t = false := by unfold lstC; rw [h1]; rfl
theorem lst_no2 {c : Con} {M : List Con} {l : List Int} {tot : Int} {t : Nat} (h2 : canR M l ((tot - (t : Int) + 8) % 8) = false) : lstC c M l tot t = false := by unfold lstC; rw [h2, Bool.and_false]
set_option maxRecDepth 100000 in
theorem le_d (c : Con) (M : List Con) (l : List Int) (tot : Int) (h0 : 0 ≤ tot) (h1 : tot ≤ 7) : AnnOk Tryz.prog EV.ng (Nat.max 4 Tryz.f32.ntmps) (bodyAt Tryz.f32 [0, 1, 0, 1, 1, 1]) (leD c M l tot) := by
  refine ann_of evOk (callF_ok evOk (orcOf_ok entsVS_ok) 8) none_ann (by kernel_rfl) (by kernel_rfl) (fun i : Nat => (fun (t : Nat) => (⟨leDT tot, leDH c (smF M l s0F) (.vint .i64 (t : Int)), 1010⟩ : St)) i) (fun i : Nat => (fun (t : Nat) => (8 - t : Nat)) i) (fun (d : Bool) (i : Nat) => (fun (t : Nat) => (t ≤ 8 ∧ findT (lstC c M l tot) (8 - t) t = lsF c M l tot ∧ (lsF c M l tot).isSome = d : Prop)) i) ?_ ?_
  · intro d hd
    exact ⟨(0), [tot = tot, c.exp = c.exp, c.dim = c.dim, c.sign = c.sign, c.odd = c.odd, (0 : Int) = (↑(0 : Nat) : Int), smF M l s0F (0 : Nat) = smF M l s0F (0 : Nat), smF M l s0F (1 : Nat) = smF M l s0F (1 : Nat), smF M l s0F (2 : Nat) = smF M l s0F (2 : Nat), smF M l s0F (3 : Nat) = smF M l s0F (3 : Nat), smF M l s0F (4 : Nat) = smF M l s0F (4 : Nat), smF M l s0F (5 : Nat) = smF M l s0F (5 : Nat), smF M l s0F (6 : Nat) = smF M l s0F (6 : Nat), smF M l s0F (7 : Nat) = smF M l s0F (7 : Nat)], by kernel_rfl, (by refine ⟨?_, ?_, ?_, ?_, ?_, ?_, ?_, ?_, ?_, ?_, ?_, ?_, ?_, (?_ : smF M l s0F (7 : Nat) = smF M l s0F (7 : Nat))⟩ <;> (first | rfl | assumption | omega | simp_all)), (by exact ⟨Nat.zero_le _, rfl, hd⟩)⟩
  · rintro d hd t hI
    cases d
    · -- d = false
      obtain ⟨ht, hf, hs⟩ := hI
      have ht : t ≤ 8 := ht
      have hf : findT (lstC c M l tot) (8 - t) t = lsF c M l tot := hf
      have ek : IntKind.i64.wrap ((t : Int) + 1) = ((t + 1 : Nat) : Int) := by rw [w64 (by omega) (by omega)]; omega
      refine Or.elim (Bool.eq_false_or_eq_true (decide ((↑t : Int) < (8 : Int)))) (fun d1 => Or.elim (Bool.eq_false_or_eq_true (legalB (Con.mk c.exp c.dim c.sign c.odd (↑t : Int)))) (fun d2 => Or.elim (Bool.eq_false_or_eq_true ([smF M l s0F (0 : Nat), smF M l s0F (1 : Nat), smF M l s0F (2 : Nat), smF M l s0F (3 : Nat), smF M l s0F (4 : Nat), smF M l s0F (5 : Nat), smF M l s0F (6 : Nat), smF M l s0F (7 : Nat)].getD (((IntKind.i64.wrap (IntKind.i64.wrap (tot - (↑t : Int)) + (8 : Int))).tmod (8 : Int)).toNat + (0 : Nat)) false)) (fun d3 => CtG.no ?_)
           (fun d3 => ⟨[true, true, false], .inl ⟨(t + 1), [tot = tot, c.exp = c.exp, c.dim = c.dim, c.sign = c.sign, c.odd = c.odd, IntKind.i64.wrap ((↑t : Int) + (1 : Int)) = (↑(t + (1 : Nat)) : Int), smF M l s0F (0 : Nat) = smF M l s0F (0 : Nat), smF M l s0F (1 : Nat) = smF M l s0F (1 : Nat), smF M l s0F (2 : Nat) = smF M l s0F (2 : Nat), smF M l s0F (3 : Nat) = smF M l s0F (3 : Nat), smF M l s0F (4 : Nat) = smF M l s0F (4 : Nat), smF M l s0F (5 : Nat) = smF M l s0F (5 : Nat), smF M l s0F (6 : Nat) = smF M l s0F (6 : Nat), smF M l s0F (7 : Nat) = smF M l s0F (7 : Nat), Dec ([smF M l s0F (0 : Nat), smF M l s0F (1 : Nat), smF M l s0F (2 : Nat), smF M l s0F (3 : Nat), smF M l s0F (4 : Nat), smF M l s0F (5 : Nat), smF M l s0F (6 : Nat), smF M l s0F (7 : Nat)].getD (((IntKind.i64.wrap (IntKind.i64.wrap (tot - (↑t : Int)) + (8 : Int))).tmod (8 : Int)).toNat + (0 : Nat)) false) false, ((IntKind.i64.wrap (IntKind.i64.wrap (tot - (↑t : Int)) + (8 : Int))).tmod (8 : Int)).toNat + (0 : Nat) < [smF M l s0F (0 : Nat), smF M l s0F (1 : Nat), smF M l s0F (2 : Nat), smF M l s0F (3 : Nat), smF M l s0F (4 : Nat), smF M l s0F (5 : Nat), smF M l s0F (6 : Nat), smF M l s0F (7 : Nat)].length, (0 : Int) ≤ (IntKind.i64.wrap (IntKind.i64.wrap (tot - (↑t : Int)) + (8 : Int))).tmod (8 : Int) ∧ (IntKind.i64.wrap (IntKind.i64.wrap (tot - (↑t : Int)) + (8 : Int))).tmod (8 : Int) < (↑(8 : Nat) : Int), (8 : Int) ≠ (0 : Int), Dec (legalB (Con.mk c.exp c.dim c.sign c.odd (↑t : Int))) true, Dec (decide ((↑t : Int) < (8 : Int))) true], by kernel_rfl, ⟨?_, ?_, ?_, ?_, ?_, ?_, ?_, ?_, ?_, ?_, ?_, ?_, ?_, ?_, d3, ?_, ?_, ?_, d2, d1⟩, MuG.out ?_, InG.out ?_⟩⟩))
           (fun d2 => ⟨[true, false], .inl ⟨(t + 1), [tot = tot, c.exp = c.exp, c.dim = c.dim, c.sign = c.sign, c.odd = c.odd, IntKind.i64.wrap ((↑t : Int) + (1 : Int)) = (↑(t + (1 : Nat)) : Int), smF M l s0F (0 : Nat) = smF M l s0F (0 : Nat), smF M l s0F (1 : Nat) = smF M l s0F (1 : Nat), smF M l s0F (2 : Nat) = smF M l s0F (2 : Nat), smF M l s0F (3 : Nat) = smF M l s0F (3 : Nat), smF M l s0F (4 : Nat) = smF M l s0F (4 : Nat), smF M l s0F (5 : Nat) = smF M l s0F (5 : Nat), smF M l s0F (6 : Nat) = smF M l s0F (6 : Nat), smF M l s0F (7 : Nat) = smF M l s0F (7 : Nat), Dec (legalB (Con.mk c.exp c.dim c.sign c.odd (↑t : Int))) false, Dec (decide ((↑t : Int) < (8 : Int))) true], by kernel_rfl, ⟨?_, ?_, ?_, ?_, ?_, ?_, ?_, ?_, ?_, ?_, ?_, ?_, ?_, ?_, d2, d1⟩, MuG.out ?_, InG.out ?_⟩⟩))
           (fun d1 => ⟨[false], .inr ⟨[Dec (decide ((↑t : Int) < (8 : Int))) false], by kernel_rfl, d1, rfl⟩⟩)
      all_goals first | (refine MuG.mk ?_; (simp only [decide_eq_true_eq] at *; show 8 - (t + 1) < 8 - t; omega)) | (refine InG.mk ?_; (simp only [decide_eq_true_eq] at *; have h7 : t < 8 := (by omega); have hx := le_tot h0 h1 h7; refine ⟨h7, ?_, hs⟩; first | (rw [← hf, findT_no h7 (lst_no1 d2)]; done) | (rw [hx, le_can (by omega) (by omega)] at d3; rw [← hf, findT_no h7 (lst_no2 d3)]; done))) | (refine CtG.mk ?_; (simp only [decide_eq_true_eq, decide_eq_false_iff_not] at *; first | (have h8 : t = 8 := (by omega); subst h8; rw [← hf] at hs; cases hs; done) | (have h7 : t < 8 := (by omega); have hx := le_tot h0 h1 h7; rw [hx, le_can (by omega) (by omega)] at d3; rw [← hf, findT_yes h7 (lst_yes d2 d3)] at hs; cases hs; done))) | (first | (with_reducible rfl) | exact ⟨rfl, rfl⟩ | decide | ((try simp only [ek, Int.toNat_natCast, decide_eq_true_eq, decide_eq_false_iff_not] at *) <;> first | omega | (have h7 : t < 8 := (by omega); have hx := le_tot h0 h1 h7; rw [hx]; first | omega | (simp only [List.length_cons, List.length_nil]; omega)) | (have h7 : t < 8 := (by omega); have hx := le_tot h0 h1 h7; rw [hx, le_can (by omega) (by omega)] at d3; rw [← hf, findT_yes h7 (lst_yes d2 d3)]; rfl)))
    · -- d = true
      obtain ⟨ht, hf, hs⟩ := hI
      have ht : t ≤ 8 := ht
      have hf : findT (lstC c M l tot) (8 - t) t = lsF c M l tot := hf
      have ek : IntKind.i64.wrap ((t : Int) + 1) = ((t + 1 : Nat) : Int) := by rw [w64 (by omega) (by omega)]; omega
      refine Or.elim (Bool.eq_false_or_eq_true (decide ((↑t : Int) < (8 : Int)))) (fun d1 => Or.elim (Bool.eq_false_or_eq_true (legalB (Con.mk c.exp c.dim c.sign c.odd (↑t : Int)))) (fun d2 => Or.elim (Bool.eq_false_or_eq_true ([smF M l s0F (0 : Nat), smF M l s0F (1 : Nat), smF M l s0F (2 : Nat), smF M l s0F (3 : Nat), smF M l s0F (4 : Nat), smF M l s0F (5 : Nat), smF M l s0F (6 : Nat), smF M l s0F (7 : Nat)].getD (((IntKind.i64.wrap (IntKind.i64.wrap (tot - (↑t : Int)) + (8 : Int))).tmod (8 : Int)).toNat + (0 : Nat)) false)) (fun d3 => ⟨[true, true, true], .inr ⟨[(↑t : Int) = (↑((lsF c M l tot).getD (0 : Nat)) : Int), Dec ([smF M l s0F (0 : Nat), smF M l s0F (1 : Nat), smF M l s0F (2 : Nat), smF M l s0F (3 : Nat), smF M l s0F (4 : Nat), smF M l s0F (5 : Nat), smF M l s0F (6 : Nat), smF M l s0F (7 : Nat)].getD (((IntKind.i64.wrap (IntKind.i64.wrap (tot - (↑t : Int)) + (8 : Int))).tmod (8 : Int)).toNat + (0 : Nat)) false) true, ((IntKind.i64.wrap (IntKind.i64.wrap (tot - (↑t : Int)) + (8 : Int))).tmod (8 : Int)).toNat + (0 : Nat) < [smF M l s0F (0 : Nat), smF M l s0F (1 : Nat), smF M l s0F (2 : Nat), smF M l s0F (3 : Nat), smF M l s0F (4 : Nat), smF M l s0F (5 : Nat), smF M l s0F (6 : Nat), smF M l s0F (7 : Nat)].length, (0 : Int) ≤ (IntKind.i64.wrap (IntKind.i64.wrap (tot - (↑t : Int)) + (8 : Int))).tmod (8 : Int) ∧ (IntKind.i64.wrap (IntKind.i64.wrap (tot - (↑t : Int)) + (8 : Int))).tmod (8 : Int) < (↑(8 : Nat) : Int), (8 : Int) ≠ (0 : Int), Dec (legalB (Con.mk c.exp c.dim c.sign c.odd (↑t : Int))) true, Dec (decide ((↑t : Int) < (8 : Int))) true], by kernel_rfl, ⟨?_, d3, ?_, ?_, ?_, d2, d1⟩, rfl⟩⟩)
           (fun d3 => ⟨[true, true, false], .inl ⟨(t + 1), [tot = tot, c.exp = c.exp, c.dim = c.dim, c.sign = c.sign, c.odd = c.odd, IntKind.i64.wrap ((↑t : Int) + (1 : Int)) = (↑(t + (1 : Nat)) : Int), smF M l s0F (0 : Nat) = smF M l s0F (0 : Nat), smF M l s0F (1 : Nat) = smF M l s0F (1 : Nat), smF M l s0F (2 : Nat) = smF M l s0F (2 : Nat), smF M l s0F (3 : Nat) = smF M l s0F (3 : Nat), smF M l s0F (4 : Nat) = smF M l s0F (4 : Nat), smF M l s0F (5 : Nat) = smF M l s0F (5 : Nat), smF M l s0F (6 : Nat) = smF M l s0F (6 : Nat), smF M l s0F (7 : Nat) = smF M l s0F (7 : Nat), Dec ([smF M l s0F (0 : Nat), smF M l s0F (1 : Nat), smF M l s0F (2 : Nat), smF M l s0F (3 : Nat), smF M l s0F (4 : Nat), smF M l s0F (5 : Nat), smF M l s0F (6 : Nat), smF M l s0F (7 : Nat)].getD (((IntKind.i64.wrap (IntKind.i64.wrap (tot - (↑t : Int)) + (8 : Int))).tmod (8 : Int)).toNat + (0 : Nat)) false) false, ((IntKind.i64.wrap (IntKind.i64.wrap (tot - (↑t : Int)) + (8 : Int))).tmod (8 : Int)).toNat + (0 : Nat) < [smF M l s0F (0 : Nat), smF M l s0F (1 : Nat), smF M l s0F (2 : Nat), smF M l s0F (3 : Nat), smF M l s0F (4 : Nat), smF M l s0F (5 : Nat), smF M l s0F (6 : Nat), smF M l s0F (7 : Nat)].length, (0 : Int) ≤ (IntKind.i64.wrap (IntKind.i64.wrap (tot - (↑t : Int)) + (8 : Int))).tmod (8 : Int) ∧ (IntKind.i64.wrap (IntKind.i64.wrap (tot - (↑t : Int)) + (8 : Int))).tmod (8 : Int) < (↑(8 : Nat) : Int), (8 : Int) ≠ (0 : Int), Dec (legalB (Con.mk c.exp c.dim c.sign c.odd (↑t : Int))) true, Dec (decide ((↑t : Int) < (8 : Int))) true], by kernel_rfl, ⟨?_, ?_, ?_, ?_, ?_, ?_, ?_, ?_, ?_, ?_, ?_, ?_, ?_, ?_, d3, ?_, ?_, ?_, d2, d1⟩, MuG.out ?_, InG.out ?_⟩⟩))
           (fun d2 => ⟨[true, false], .inl ⟨(t + 1), [tot = tot, c.exp = c.exp, c.dim = c.dim, c.sign = c.sign, c.odd = c.odd, IntKind.i64.wrap ((↑t : Int) + (1 : Int)) = (↑(t + (1 : Nat)) : Int), smF M l s0F (0 : Nat) = smF M l s0F (0 : Nat), smF M l s0F (1 : Nat) = smF M l s0F (1 : Nat), smF M l s0F (2 : Nat) = smF M l s0F (2 : Nat), smF M l s0F (3 : Nat) = smF M l s0F (3 : Nat), smF M l s0F (4 : Nat) = smF M l s0F (4 : Nat), smF M l s0F (5 : Nat) = smF M l s0F (5 : Nat), smF M l s0F (6 : Nat) = smF M l s0F (6 : Nat), smF M l s0F (7 : Nat) = smF M l s0F (7 : Nat), Dec (legalB (Con.mk c.exp c.dim c.sign c.odd (↑t : Int))) false, Dec (decide ((↑t : Int) < (8 : Int))) true], by kernel_rfl, ⟨?_, ?_, ?_, ?_, ?_, ?_, ?_, ?_, ?_, ?_, ?_, ?_, ?_, ?_, d2, d1⟩, MuG.out ?_, InG.out ?_⟩⟩))
           (fun d1 => CtG.no ?_)
      all_goals first | (refine MuG.mk ?_; (simp only [decide_eq_true_eq] at *; show 8 - (t + 1) < 8 - t; omega)) | (refine InG.mk ?_; (simp only [decide_eq_true_eq] at *; have h7 : t < 8 := (by omega); have hx := le_tot h0 h1 h7; refine ⟨h7, ?_, hs⟩; first | (rw [← hf, findT_no h7 (lst_no1 d2)]; done) | (rw [hx, le_can (by omega) (by omega)] at d3; rw [← hf, findT_no h7 (lst_no2 d3)]; done))) | (refine CtG.mk ?_; (simp only [decide_eq_true_eq, decide_eq_false_iff_not] at *; first | (have h8 : t = 8 := (by omega); subst h8; rw [← hf] at hs; cases hs; done) | (have h7 : t < 8 := (by omega); have hx := le_tot h0 h1 h7; rw [hx, le_can (by omega) (by omega)] at d3; rw [← hf, findT_yes h7 (lst_yes d2 d3)] at hs; cases hs; done))) | (first | (with_reducible rfl) | exact ⟨rfl, rfl⟩ | decide | ((try simp only [ek, Int.toNat_natCast, decide_eq_true_eq, decide_eq_false_iff_not] at *) <;> first | omega | (have h7 : t < 8 := (by omega); have hx := le_tot h0 h1 h7; rw [hx]; first | omega | (simp only [List.length_cons, List.length_nil]; omega)) | (have h7 : t < 8 := (by omega); have hx := le_tot h0 h1 h7; rw [hx, le_can (by omega) (by omega)] at d3; rw [← hf, findT_yes h7 (lst_yes d2 d3)]; rfl)))
theorem ls_none {o : Option Nat} (h : o.isSome = false) : (0 : Int) = ((o.getD 0 : Nat) : Int) := by cases o with | none => rfl | some v => cases h
theorem two_ann {P : Program} {ng N : Nat} {fn : Func} {p q : List Nat} {A B : Ann} (h : AnnOk P ng N (bodyAt fn p) A) (k : AnnOk P ng N (bodyAt fn q) B) : ∀ x ∈ [(p, A), (q, B)], AnnOk P ng N (bodyAt fn x.1) x.2 := fun x hx => by
  rcases List.mem_cons.1 hx with rfl | hx
  · exact h
  · rw [List.mem_singleton.1 hx]; exact k
set_option maxRecDepth 100000 in
theorem least_pure (c : Con) (M : List Con) (l : List Int) (tot : Int) (hl : l.length ≤ 1000) (hr : inR M.length l) (h0 : 0 ≤ tot) (h1 : tot ≤ 7) : PureC Tryz.prog [] 32 [.agg c.rvs, roC M, rI .i64 l, .int .i64 tot] (.tup [.int .i64 (((lsF c M l tot).getD 0 : Nat) : Int), .bool (lsF c M l tot).isSome]) := by
  have rr := fun (tp : List Bool) (ms : List Prop) h hm => pure_run evOk (callF_ok evOk (orcOf_ok entsVS_ok) 8) Tryz.func32 (A := [.agg c.rvs, roC M, rI .i64 l, .int .i64 tot]) (N := Nat.max 4 Tryz.f32.ntmps) rfl (two_ann (le_a c M l tot hl hr) (le_d c M l tot h0 h1)) rfl rfl evNg (tabs := []) (R := .tup [.int .i64 (((lsF c M l tot).getD 0 : Nat) : Int), .bool (lsF c M l tot).isSome]) (tp := tp) (ms := ms) h hm
  refine Or.elim (Bool.eq_false_or_eq_true ((lsF c M l tot).isSome)) (fun d1 => rr [true] [(↑((lsF c M l tot).getD (0 : Nat)) : Int) = (↑((lsF c M l tot).getD (0 : Nat)) : Int), true = (lsF c M l tot).isSome, tot = tot, c.exp = c.exp, c.dim = c.dim, c.sign = c.sign, c.odd = c.odd, smF M l s0F (0 : Nat) = smF M l s0F (0 : Nat), smF M l s0F (1 : Nat) = smF M l s0F (1 : Nat), smF M l s0F (2 : Nat) = smF M l s0F (2 : Nat), smF M l s0F (3 : Nat) = smF M l s0F (3 : Nat), smF M l s0F (4 : Nat) = smF M l s0F (4 : Nat), smF M l s0F (5 : Nat) = smF M l s0F (5 : Nat), smF M l s0F (6 : Nat) = smF M l s0F (6 : Nat), smF M l s0F (7 : Nat) = smF M l s0F (7 : Nat), Dec (lsF c M l tot).isSome true, M.length = M.length ∧ (fun i => (M.getD i Con.zero).rvs) = fun i => (M.getD i Con.zero).rvs, tot = tot, l.length = l.length ∧ (fun j => [RV.int IntKind.i64 (l.getD j (0 : Int))]) = fun j => [RV.int IntKind.i64 (l.getD j (0 : Int))], (↑l.length : Int) = (↑l.length : Int), c.exp = c.exp, c.dim = c.dim, c.sign = c.sign, c.odd = c.odd, c.oddity = c.oddity, true = true, false = false, false = false, false = false, false = false, false = false, false = false, false = false] (by kernel_rfl) ⟨?_, ?_, ?_, ?_, ?_, ?_, ?_, ?_, ?_, ?_, ?_, ?_, ?_, ?_, ?_, d1, ?_, ?_, ?_, ?_, ?_, ?_, ?_, ?_, ?_, ?_, ?_, ?_, ?_, ?_, ?_, ?_, (?_ : false = false)⟩)
           (fun d1 => rr [false] [(0 : Int) = (↑((lsF c M l tot).getD (0 : Nat)) : Int), false = (lsF c M l tot).isSome, tot = tot, c.exp = c.exp, c.dim = c.dim, c.sign = c.sign, c.odd = c.odd, smF M l s0F (0 : Nat) = smF M l s0F (0 : Nat), smF M l s0F (1 : Nat) = smF M l s0F (1 : Nat), smF M l s0F (2 : Nat) = smF M l s0F (2 : Nat), smF M l s0F (3 : Nat) = smF M l s0F (3 : Nat), smF M l s0F (4 : Nat) = smF M l s0F (4 : Nat), smF M l s0F (5 : Nat) = smF M l s0F (5 : Nat), smF M l s0F (6 : Nat) = smF M l s0F (6 : Nat), smF M l s0F (7 : Nat) = smF M l s0F (7 : Nat), Dec (lsF c M l tot).isSome false, M.length = M.length ∧ (fun i => (M.getD i Con.zero).rvs) = fun i => (M.getD i Con.zero).rvs, tot = tot, l.length = l.length ∧ (fun j => [RV.int IntKind.i64 (l.getD j (0 : Int))]) = fun j => [RV.int IntKind.i64 (l.getD j (0 : Int))], (↑l.length : Int) = (↑l.length : Int), c.exp = c.exp, c.dim = c.dim, c.sign = c.sign, c.odd = c.odd, c.oddity = c.oddity, true = true, false = false, false = false, false = false, false = false, false = false, false = false, false = false] (by kernel_rfl) ⟨?_, ?_, ?_, ?_, ?_, ?_, ?_, ?_, ?_, ?_, ?_, ?_, ?_, ?_, ?_, d1, ?_, ?_, ?_, ?_, ?_, ?_, ?_, ?_, ?_, ?_, ?_, ?_, ?_, ?_, ?_, ?_, (?_ : false = false)⟩)
  all_goals first | (first | (with_reducible rfl) | exact ⟨rfl, rfl⟩ | rfl | exact ls_none d1 | exact d1.symm)
end Go.Proofs.YtkkmlbhmcdoibaaGreatDoor.S

namespace Go.Proofs.YtkkmlbhmcdoibaaGreatDoor.S
open Go.QfSy Go.RowKit
theorem inR.drop {N : Nat} {l : List Int} (h : inR N l) (k : Nat) : inR N (l.drop k) := fun x hx => h x (List.mem_of_mem_drop hx)
theorem refF_len {N : Nat} {l : List Int} (h : inR N l) {tot : Int} {M : List Con} (hM : M.length = N) : (refF l tot M).2.length = N := ((ref_spec h).2.1 tot M hM).len.trans hM
end Go.Proofs.YtkkmlbhmcdoibaaGreatDoor.S

namespace Go.Proofs.YtkkmlbhmcdoibaaGreatDoor.S
open Go.QfSy Go.RowKit
end Go.Proofs.YtkkmlbhmcdoibaaGreatDoor.S

namespace Go.Proofs.YtkkmlbhmcdoibaaGreatDoor.S
open Go.QfSy Go.RowKit
noncomputable def entsT3 : List OEnt := [
  ⟨19, [], fun A => match A with
    | [.agg [.int .i64 p, .sl n 5 row]] => some (.bool (val2M p (consR n row)), [(∀ i, i < n → row i = (Con.ofR (row i)).rvs) ∧ n ≤ 1000])
    | _ => none⟩,
  ⟨29, [], fun A => match A with
    | [.agg [.int .i64 p, .sl n 5 row]] => some (.bool (fusM p (consR n row)), [(∀ i, i < n → row i = (Con.ofR (row i)).rvs) ∧ n ≤ 1000])
    | _ => none⟩,
  ⟨27, [], fun A => match A with
    | [.agg [.int .i64 p, .sl n 5 row], .int .i64 a] => some (.bool (linkM (consR n row) a.toNat), [(∀ i, i < n → row i = (Con.ofR (row i)).rvs) ∧ okL (consR n row) ∧ 1 ≤ a ∧ a < (n : Int)])
    | _ => none⟩]
theorem entsT3_ok : ∀ e ∈ entsT3, EntOk Tryz.prog e := by
  intro e he
  simp only [entsT3, List.mem_cons, List.not_mem_nil, or_false] at he
  rcases he with rfl | rfl | rfl
  all_goals
    intro A R ms h hm
    simp only at h
    split at h
    all_goals first | (cases h; done) | cases h
  · obtain ⟨h1, h2⟩ := all_one hm
    exact PureC.imp (tvalid_pure _ _ (by rw [consR_len]; exact h2)) (.cons (.agg (.cons .same (.cons (.con h1) .nil))) .nil)
  · obtain ⟨h1, h2⟩ := all_one hm
    exact PureC.imp (tfused_pure _ _ (by rw [consR_len]; exact h2)) (.cons (.agg (.cons .same (.cons (.con h1) .nil))) .nil)
  · obtain ⟨h1, h3, h4, h5⟩ := all_one hm
    rename_i p _ _ a
    have e : ((a.toNat : Nat) : Int) = a := by omega
    have := tlinked_pure p _ a.toNat h3 (by omega) (by rw [consR_len]; omega)
    rw [e] at this
    exact PureC.imp this (.cons (.agg (.cons .same (.cons (.con h1) .nil))) (.cons .same .nil))
end Go.Proofs.YtkkmlbhmcdoibaaGreatDoor.S

namespace Go.Proofs.YtkkmlbhmcdoibaaGreatDoor.S
open Go.QfSy Go.RowKit
theorem refG_len {L : List Con} : ∀ {P : List (List Int)} {M R : List Con}, (∀ l ∈ P, inR L.length l) → M.length = L.length → refG L P M = some R → R.length = L.length
  | [], M, R, _, hM, h => by cases h; exact hM
  | l :: P, M, R, hP, hM, h => by
    simp only [refG] at h
    cases hc : (refF l (totM L l) M).1 with
    | false => rw [hc] at h; cases h
    | true =>
      rw [hc, cond_true] at h
      exact refG_len (fun x hx => hP x (List.mem_cons_of_mem _ hx)) (refF_len (hP l List.mem_cons_self) hM) h
theorem refM_len {L R : List Con} (h : refM L = some R) : R.length = L.length := refG_len (fun l hl => (parts_rows l hl).2.1) rfl h
end Go.Proofs.YtkkmlbhmcdoibaaGreatDoor.S

namespace Go.Proofs.YtkkmlbhmcdoibaaGreatDoor.S
open Go.QfSy Go.RowKit
noncomputable def entsTR : List OEnt := (entsT3 ++ entsVC) ++ [
  ⟨32, [], fun A => match A with
    | [.agg [.int .i64 a, .int .i64 b, .int .i64 c, .bool d, .int .i64 e], .sl n 5 row, .sl m 1 row', .int .i64 t] => some (.tup [.int .i64 (((lsF ⟨a, b, c, d, e⟩ (consR n row) (intsR m row') t).getD 0 : Nat) : Int), .bool (lsF ⟨a, b, c, d, e⟩ (consR n row) (intsR m row') t).isSome], [(∀ i, i < n → row i = (Con.ofR (row i)).rvs) ∧ (∀ i, i < m → row' i = [.int .i64 (intR (row' i))]) ∧ m ≤ 1000 ∧ inR n (intsR m row') ∧ 0 ≤ t ∧ t ≤ 7])
    | _ => none⟩]
theorem entsTR_ok : ∀ e ∈ entsTR, EntOk Tryz.prog e := by
  intro e he
  rcases List.mem_append.1 he with he | he
  · rcases List.mem_append.1 he with he | he
    · exact entsT3_ok e he
    · exact entsVC_ok e he
  · rw [List.mem_singleton.1 he]
    intro A R ms h hm
    simp only at h
    split at h
    · cases h
      obtain ⟨h1, h2, h3, h4, h5, h6⟩ := all_one hm
      exact PureC.imp (least_pure ⟨_, _, _, _, _⟩ _ _ _ (by rw [intsR_len]; exact h3) (by rw [consR_len]; exact h4) h5 h6) (.cons .same (.cons (.con h1) (.cons (.ints h2) (.cons .same .nil))))
    · cases h
theorem consR_ro2 {n : Nat} {L : List Con} (h : n = L.length) : consR n (fun i => (L.getD i Con.zero).rvs) = L := by subst h; exact consR_ro L
theorem at_out {M : List Con} {x : Nat} (h : M.length ≤ x) : at_ M x = Con.zero := by simp [at_, h]
theorem intsR_drop (k : IntKind) (l : List Int) (s : Nat) : intsR (l.length - s) (fun i => [.int k (l.getD (i + s) 0)]) = l.drop s := by
  apply List.ext_getElem?
  intro m
  unfold intsR
  rw [List.getElem?_map, List.getElem?_drop]
  rcases Nat.lt_or_ge m (l.length - s) with h | h
  · rw [List.getElem?_range h]
    have h2 : s + m < l.length := by omega
    simp [intR, List.getElem?_eq_getElem h2, Nat.add_comm m s]
  · rw [List.getElem?_eq_none (by simpa using h), List.getElem?_eq_none (by omega)]
    rfl
def lsV (M : List Con) (l : List Int) (k : Nat) (tot : Int) : Nat := (lsF (at_ M (l.getD k 0).toNat) M (l.drop (k + 1)) tot).getD 0
theorem lsV_b (M : List Con) (l : List Int) (k : Nat) (tot : Int) : lsV M l k tot < 8 := by
  unfold lsV
  cases h : lsF (at_ M (l.getD k 0).toNat) M (l.drop (k + 1)) tot with
  | none => decide
  | some t => have := findT_some h; simp only [Option.getD_some]; omega
theorem trF_1 {M : List Con} {l : List Int} {k : Nat} {tot : Int} (hk : k < l.length) (h : (lsF (at_ M (l.getD k 0).toNat) M (l.drop (k + 1)) tot).isSome = true) : trF (l.drop k) tot M = trF (l.drop (k + 1)) ((tot - (lsV M l k tot : Int) + 8) % 8) (setO M (l.getD k 0) (lsV M l k tot : Int)) := by
  rw [drop_int hk]
  unfold lsV
  simp only [trF, lstC_P]
  unfold lsF at h ⊢
  cases hq : findT (lstC (at_ M (l.getD k 0).toNat) M (l.drop (k + 1)) tot) 8 0 with
  | none => rw [hq] at h; cases h
  | some t => rfl
theorem trF_2 {M : List Con} {l : List Int} {k : Nat} {tot : Int} (hk : k < l.length) (h : (lsF (at_ M (l.getD k 0).toNat) M (l.drop (k + 1)) tot).isSome = false) : trF (l.drop k) tot M = none := by
  rw [drop_int hk]
  simp only [trF, lstC_P]
  unfold lsF at h
  cases hq : findT (lstC (at_ M (l.getD k 0).toNat) M (l.drop (k + 1)) tot) 8 0 with
  | none => rfl
  | some t => rw [hq] at h; cases h
theorem trF_3 {M : List Con} {l : List Int} {k : Nat} {tot : Int} (hk : l.length ≤ k) : trF (l.drop k) tot M = some M := by
  rw [List.drop_eq_nil_of_le hk]; rfl
noncomputable def trT (N : Nat) (P : List (List Int)) (j : AV) : List (Nat × AV) := [(2, .ptr 1001 0), (4, .lo 1003 N), (20, (roR .i64 P).av), (21, .vint .i64 P.length), (22, j)]
noncomputable def trI (N : Nat) (P : List (List Int)) (j : Nat) (tot : Int) (k : AV) : List (Nat × AV) := trT N P (.vint .i64 (j : Int)) ++ [(6, (rI .i64 (rowAt P j)).av), (7, .vint .i64 tot), (33, (rI .i64 (rowAt P j)).av), (34, .vint .i64 (rowAt P j).length), (35, k)]
noncomputable def trZ : AEx × St := (.ret, ⟨[(2, .ptr 1001 0), (3, .bool false)], [(1001, ⟨.plain [.int .i64 0, .nils], 30, 0, false, true⟩)], 1020⟩)
noncomputable def trIn (N : Nat) (P : List (List Int)) (j : Nat) (tot : Int) (M : List Con) : Ann := ⟨⟨trI N P j tot (.int .i64 0), tfH N M, 1020⟩, some (trF (rowAt P j) tot M).isSome, fun d => match d with
  | true => (.exit 2, ⟨trT N P (.vint .i64 (j : Int)), tfH N ((trF (rowAt P j) tot M).getD []), 1020⟩)
  | false => trZ⟩
set_option maxRecDepth 100000 in
theorem tr_in (N : Nat) (P : List (List Int)) (j : Nat) (tot0 : Int) (M0 : List Con) (hr : inR N (rowAt P j)) (hn : (rowAt P j).length ≤ 1000) (hM0 : M0.length = N) (h0 : 0 ≤ tot0) (h1 : tot0 ≤ 7) : AnnOk Tryz.prog EV.ng (Nat.max 1 Tryz.f15.ntmps) (bodyAt Tryz.f15 [0, 1, 1, 1, 0, 0, 1, 1, 0, 0, 1, 0, 1, 1, 1]) (trIn N P j tot0 M0) := by
  refine ann_of evOk (callF_ok evOk (orcOf_ok entsTR_ok) 8) none_ann (by kernel_rfl) (by kernel_rfl) (fun i : Nat × Int × List Con => (fun (k : Nat) (tot : Int) (M : List Con) => (⟨trI N P j tot (.vint .i64 (k : Int)), tfH N M, 1020⟩ : St)) i.1 i.2.1 i.2.2) (fun i : Nat × Int × List Con => (fun (k : Nat) (tot : Int) (M : List Con) => ((rowAt P j).length - k : Nat)) i.1 i.2.1 i.2.2) (fun (d : Bool) (i : Nat × Int × List Con) => (fun (k : Nat) (tot : Int) (M : List Con) => (k ≤ (rowAt P j).length ∧ M.length = N ∧ (0 ≤ tot ∧ tot ≤ 7) ∧ trF ((rowAt P j).drop k) tot M = trF (rowAt P j) tot0 M0 ∧ (trF (rowAt P j) tot0 M0).isSome = d : Prop)) i.1 i.2.1 i.2.2) ?_ ?_
  · intro d hd
    exact ⟨(0, tot0, M0), [N = N, P.length = P.length ∧ (fun i => [rI IntKind.i64 (P.getD i [])]) = fun i => [rI IntKind.i64 (P.getD i [])], (↑P.length : Int) = (↑P.length : Int), (↑j : Int) = (↑j : Int), (rowAt P j).length = (rowAt P j).length ∧ (fun j_1 => [RV.int IntKind.i64 ((rowAt P j).getD j_1 (0 : Int))]) = fun j_1 => [RV.int IntKind.i64 ((rowAt P j).getD j_1 (0 : Int))], tot0 = tot0, (rowAt P j).length = (rowAt P j).length ∧ (fun j_1 => [RV.int IntKind.i64 ((rowAt P j).getD j_1 (0 : Int))]) = fun j_1 => [RV.int IntKind.i64 ((rowAt P j).getD j_1 (0 : Int))], (↑(rowAt P j).length : Int) = (↑(rowAt P j).length : Int), (0 : Int) = (↑(0 : Nat) : Int), M0 = M0], by kernel_rfl, (by refine ⟨?_, ?_, ?_, ?_, ?_, ?_, ?_, ?_, ?_, (?_ : M0 = M0)⟩ <;> (first | rfl | assumption | omega | simp_all)), (by exact ⟨Nat.zero_le _, hM0, ⟨h0, h1⟩, rfl, hd⟩)⟩
  · rintro d hd ⟨k, tot, M⟩ hI
    cases d
    · -- d = false
      obtain ⟨ht, hM, hb, hf, hs⟩ := hI
      have ht : k ≤ (rowAt P j).length := ht
      have hM : M.length = N := hM
      have hb : 0 ≤ tot ∧ tot ≤ 7 := hb
      have hf : trF ((rowAt P j).drop k) tot M = trF (rowAt P j) tot0 M0 := hf
      have ek : IntKind.i64.wrap ((k : Int) + 1) = ((k + 1 : Nat) : Int) := by rw [w64 (by omega) (by omega)]; omega
      have ec : consR N (fun i => (M.getD i Con.zero).rvs) = M := consR_ro2 hM.symm
      have hv := lsV_b M (rowAt P j) k tot
      have el := le_tot hb.1 hb.2 hv
      refine Or.elim (Bool.eq_false_or_eq_true (decide ((↑k : Int) < (↑(rowAt P j).length : Int)))) (fun d1 => Or.elim (Bool.eq_false_or_eq_true ((lsF (M.getD ((rowAt P j).getD k (0 : Int)).toNat Con.zero) (consR N fun i => (M.getD i Con.zero).rvs) (intsR ((rowAt P j).length - (IntKind.i64.wrap ((↑k : Int) + (1 : Int))).toNat) fun i => (fun j_1 => [RV.int IntKind.i64 ((rowAt P j).getD j_1 (0 : Int))]) (i + (IntKind.i64.wrap ((↑k : Int) + (1 : Int))).toNat)) tot).isSome)) (fun d2 => ⟨[true, false], .inl ⟨(k + 1, (tot - (lsV M (rowAt P j) k tot : Int) + 8) % 8, setO M ((rowAt P j).getD k 0) (lsV M (rowAt P j) k tot : Int)), [N = N, P.length = P.length ∧ (fun i => [rI IntKind.i64 (P.getD i [])]) = fun i => [rI IntKind.i64 (P.getD i [])], (↑P.length : Int) = (↑P.length : Int), (↑j : Int) = (↑j : Int), (rowAt P j).length = (rowAt P j).length ∧ (fun j_1 => [RV.int IntKind.i64 ((rowAt P j).getD j_1 (0 : Int))]) = fun j_1 => [RV.int IntKind.i64 ((rowAt P j).getD j_1 (0 : Int))], (IntKind.i64.wrap (IntKind.i64.wrap (tot - (↑((lsF (M.getD ((rowAt P j).getD k (0 : Int)).toNat Con.zero) (consR N fun i => (M.getD i Con.zero).rvs) (intsR ((rowAt P j).length - (IntKind.i64.wrap ((↑k : Int) + (1 : Int))).toNat) fun i => (fun j_1 => [RV.int IntKind.i64 ((rowAt P j).getD j_1 (0 : Int))]) (i + (IntKind.i64.wrap ((↑k : Int) + (1 : Int))).toNat)) tot).getD (0 : Nat)) : Int)) + (8 : Int))).tmod (8 : Int) = (tot - (↑(lsV M (rowAt P j) k tot) : Int) + (8 : Int)) % (8 : Int), (rowAt P j).length = (rowAt P j).length ∧ (fun j_1 => [RV.int IntKind.i64 ((rowAt P j).getD j_1 (0 : Int))]) = fun j_1 => [RV.int IntKind.i64 ((rowAt P j).getD j_1 (0 : Int))], (↑(rowAt P j).length : Int) = (↑(rowAt P j).length : Int), IntKind.i64.wrap ((↑k : Int) + (1 : Int)) = (↑(k + (1 : Nat)) : Int), updT M ((rowAt P j).getD k (0 : Int)).toNat (↑((lsF (M.getD ((rowAt P j).getD k (0 : Int)).toNat Con.zero) (consR N fun i => (M.getD i Con.zero).rvs) (intsR ((rowAt P j).length - (IntKind.i64.wrap ((↑k : Int) + (1 : Int))).toNat) fun i => (fun j_1 => [RV.int IntKind.i64 ((rowAt P j).getD j_1 (0 : Int))]) (i + (IntKind.i64.wrap ((↑k : Int) + (1 : Int))).toNat)) tot).getD (0 : Nat)) : Int) = setO M ((rowAt P j).getD k (0 : Int)) (↑(lsV M (rowAt P j) k tot) : Int), (8 : Int) ≠ (0 : Int), ((rowAt P j).getD k (0 : Int)).toNat < M.length, (0 : Int) ≤ (rowAt P j).getD k (0 : Int) ∧ (rowAt P j).getD k (0 : Int) < (↑N : Int), Dec (!(lsF (M.getD ((rowAt P j).getD k (0 : Int)).toNat Con.zero) (consR N fun i => (M.getD i Con.zero).rvs) (intsR ((rowAt P j).length - (IntKind.i64.wrap ((↑k : Int) + (1 : Int))).toNat) fun i => (fun j_1 => [RV.int IntKind.i64 ((rowAt P j).getD j_1 (0 : Int))]) (i + (IntKind.i64.wrap ((↑k : Int) + (1 : Int))).toNat)) tot).isSome) false, N = M.length, (∀ (i : Nat), i < N → (fun i => (M.getD i Con.zero).rvs) i = (Con.ofR ((fun i => (M.getD i Con.zero).rvs) i)).rvs) ∧ (∀ (i : Nat), i < (rowAt P j).length - (IntKind.i64.wrap ((↑k : Int) + (1 : Int))).toNat → (fun i => (fun j_1 => [RV.int IntKind.i64 ((rowAt P j).getD j_1 (0 : Int))]) (i + (IntKind.i64.wrap ((↑k : Int) + (1 : Int))).toNat)) i = [RV.int IntKind.i64 (intR ((fun i => (fun j_1 => [RV.int IntKind.i64 ((rowAt P j).getD j_1 (0 : Int))]) (i + (IntKind.i64.wrap ((↑k : Int) + (1 : Int))).toNat)) i))]) ∧ (rowAt P j).length - (IntKind.i64.wrap ((↑k : Int) + (1 : Int))).toNat ≤ (1000 : Nat) ∧ inR N (intsR ((rowAt P j).length - (IntKind.i64.wrap ((↑k : Int) + (1 : Int))).toNat) fun i => (fun j_1 => [RV.int IntKind.i64 ((rowAt P j).getD j_1 (0 : Int))]) (i + (IntKind.i64.wrap ((↑k : Int) + (1 : Int))).toNat)) ∧ (0 : Int) ≤ tot ∧ tot ≤ (7 : Int), (0 : Int) ≤ IntKind.i64.wrap ((↑k : Int) + (1 : Int)) ∧ IntKind.i64.wrap ((↑k : Int) + (1 : Int)) ≤ (↑(rowAt P j).length : Int), ((rowAt P j).getD k (0 : Int)).toNat < M.length, (0 : Int) ≤ (rowAt P j).getD k (0 : Int) ∧ (rowAt P j).getD k (0 : Int) < (↑N : Int), (0 : Int) ≤ (↑k : Int) ∧ (↑k : Int) < (↑(rowAt P j).length : Int), Dec (decide ((↑k : Int) < (↑(rowAt P j).length : Int))) true], by kernel_rfl, ⟨?_, ?_, ?_, ?_, ?_, ?_, ?_, ?_, ?_, ?_, ?_, ?_, ?_, (dN d2), ?_, ?_, ?_, ?_, ?_, ?_, d1⟩, MuG.out ?_, InG.out ?_⟩⟩)
           (fun d2 => ⟨[true, true], .inr ⟨[Dec (!(lsF (M.getD ((rowAt P j).getD k (0 : Int)).toNat Con.zero) (consR N fun i => (M.getD i Con.zero).rvs) (intsR ((rowAt P j).length - (IntKind.i64.wrap ((↑k : Int) + (1 : Int))).toNat) fun i => (fun j_1 => [RV.int IntKind.i64 ((rowAt P j).getD j_1 (0 : Int))]) (i + (IntKind.i64.wrap ((↑k : Int) + (1 : Int))).toNat)) tot).isSome) true, N = M.length, (∀ (i : Nat), i < N → (fun i => (M.getD i Con.zero).rvs) i = (Con.ofR ((fun i => (M.getD i Con.zero).rvs) i)).rvs) ∧ (∀ (i : Nat), i < (rowAt P j).length - (IntKind.i64.wrap ((↑k : Int) + (1 : Int))).toNat → (fun i => (fun j_1 => [RV.int IntKind.i64 ((rowAt P j).getD j_1 (0 : Int))]) (i + (IntKind.i64.wrap ((↑k : Int) + (1 : Int))).toNat)) i = [RV.int IntKind.i64 (intR ((fun i => (fun j_1 => [RV.int IntKind.i64 ((rowAt P j).getD j_1 (0 : Int))]) (i + (IntKind.i64.wrap ((↑k : Int) + (1 : Int))).toNat)) i))]) ∧ (rowAt P j).length - (IntKind.i64.wrap ((↑k : Int) + (1 : Int))).toNat ≤ (1000 : Nat) ∧ inR N (intsR ((rowAt P j).length - (IntKind.i64.wrap ((↑k : Int) + (1 : Int))).toNat) fun i => (fun j_1 => [RV.int IntKind.i64 ((rowAt P j).getD j_1 (0 : Int))]) (i + (IntKind.i64.wrap ((↑k : Int) + (1 : Int))).toNat)) ∧ (0 : Int) ≤ tot ∧ tot ≤ (7 : Int), (0 : Int) ≤ IntKind.i64.wrap ((↑k : Int) + (1 : Int)) ∧ IntKind.i64.wrap ((↑k : Int) + (1 : Int)) ≤ (↑(rowAt P j).length : Int), ((rowAt P j).getD k (0 : Int)).toNat < M.length, (0 : Int) ≤ (rowAt P j).getD k (0 : Int) ∧ (rowAt P j).getD k (0 : Int) < (↑N : Int), (0 : Int) ≤ (↑k : Int) ∧ (↑k : Int) < (↑(rowAt P j).length : Int), Dec (decide ((↑k : Int) < (↑(rowAt P j).length : Int))) true], by kernel_rfl, ⟨(dN d2), ?_, ?_, ?_, ?_, ?_, ?_, d1⟩, rfl⟩⟩))
           (fun d1 => CtG.no ?_)
      all_goals first | (refine MuG.mk ?_; (simp only [decide_eq_true_eq] at d1; show (rowAt P j).length - (k + 1) < (rowAt P j).length - k; omega)) | (refine InG.mk ?_; (simp only [ek, ec, intsR_drop, consR_ro, Int.toNat_natCast, decide_eq_true_eq] at *; exact ⟨by omega, by rw [setO_len]; exact hM, by omega, by rw [← hf, trF_1 (by omega) d2], hs⟩)) | (refine CtG.mk ?_; (simp only [ek, ec, intsR_drop, consR_ro, Int.toNat_natCast, decide_eq_true_eq, decide_eq_false_iff_not] at *; first | (rw [← hf, trF_3 (by omega)] at hs; cases hs; done) | (rw [← hf, trF_2 (by omega) d2] at hs; cases hs; done))) | (first | (with_reducible rfl) | exact ⟨rfl, rfl⟩ | decide | ((try simp only [ek, ec, intsR_drop, consR_ro, Int.toNat_natCast, decide_eq_true_eq, decide_eq_false_iff_not] at *) <;> first | omega | (rw [← hf, trF_3 (by omega)]; rfl) | exact el | rfl | (have h2 := hr.at (t := k) (by omega); first | omega | exact ⟨fun _ _ => rfl, fun _ _ => rfl, by omega, hr.drop _, hb.1, hb.2⟩ | exact (5 : Nat))))
    · -- d = true
      obtain ⟨ht, hM, hb, hf, hs⟩ := hI
      have ht : k ≤ (rowAt P j).length := ht
      have hM : M.length = N := hM
      have hb : 0 ≤ tot ∧ tot ≤ 7 := hb
      have hf : trF ((rowAt P j).drop k) tot M = trF (rowAt P j) tot0 M0 := hf
      have ek : IntKind.i64.wrap ((k : Int) + 1) = ((k + 1 : Nat) : Int) := by rw [w64 (by omega) (by omega)]; omega
      have ec : consR N (fun i => (M.getD i Con.zero).rvs) = M := consR_ro2 hM.symm
      have hv := lsV_b M (rowAt P j) k tot
      have el := le_tot hb.1 hb.2 hv
      refine Or.elim (Bool.eq_false_or_eq_true (decide ((↑k : Int) < (↑(rowAt P j).length : Int)))) (fun d1 => Or.elim (Bool.eq_false_or_eq_true ((lsF (M.getD ((rowAt P j).getD k (0 : Int)).toNat Con.zero) (consR N fun i => (M.getD i Con.zero).rvs) (intsR ((rowAt P j).length - (IntKind.i64.wrap ((↑k : Int) + (1 : Int))).toNat) fun i => (fun j_1 => [RV.int IntKind.i64 ((rowAt P j).getD j_1 (0 : Int))]) (i + (IntKind.i64.wrap ((↑k : Int) + (1 : Int))).toNat)) tot).isSome)) (fun d2 => ⟨[true, false], .inl ⟨(k + 1, (tot - (lsV M (rowAt P j) k tot : Int) + 8) % 8, setO M ((rowAt P j).getD k 0) (lsV M (rowAt P j) k tot : Int)), [N = N, P.length = P.length ∧ (fun i => [rI IntKind.i64 (P.getD i [])]) = fun i => [rI IntKind.i64 (P.getD i [])], (↑P.length : Int) = (↑P.length : Int), (↑j : Int) = (↑j : Int), (rowAt P j).length = (rowAt P j).length ∧ (fun j_1 => [RV.int IntKind.i64 ((rowAt P j).getD j_1 (0 : Int))]) = fun j_1 => [RV.int IntKind.i64 ((rowAt P j).getD j_1 (0 : Int))], (IntKind.i64.wrap (IntKind.i64.wrap (tot - (↑((lsF (M.getD ((rowAt P j).getD k (0 : Int)).toNat Con.zero) (consR N fun i => (M.getD i Con.zero).rvs) (intsR ((rowAt P j).length - (IntKind.i64.wrap ((↑k : Int) + (1 : Int))).toNat) fun i => (fun j_1 => [RV.int IntKind.i64 ((rowAt P j).getD j_1 (0 : Int))]) (i + (IntKind.i64.wrap ((↑k : Int) + (1 : Int))).toNat)) tot).getD (0 : Nat)) : Int)) + (8 : Int))).tmod (8 : Int) = (tot - (↑(lsV M (rowAt P j) k tot) : Int) + (8 : Int)) % (8 : Int), (rowAt P j).length = (rowAt P j).length ∧ (fun j_1 => [RV.int IntKind.i64 ((rowAt P j).getD j_1 (0 : Int))]) = fun j_1 => [RV.int IntKind.i64 ((rowAt P j).getD j_1 (0 : Int))], (↑(rowAt P j).length : Int) = (↑(rowAt P j).length : Int), IntKind.i64.wrap ((↑k : Int) + (1 : Int)) = (↑(k + (1 : Nat)) : Int), updT M ((rowAt P j).getD k (0 : Int)).toNat (↑((lsF (M.getD ((rowAt P j).getD k (0 : Int)).toNat Con.zero) (consR N fun i => (M.getD i Con.zero).rvs) (intsR ((rowAt P j).length - (IntKind.i64.wrap ((↑k : Int) + (1 : Int))).toNat) fun i => (fun j_1 => [RV.int IntKind.i64 ((rowAt P j).getD j_1 (0 : Int))]) (i + (IntKind.i64.wrap ((↑k : Int) + (1 : Int))).toNat)) tot).getD (0 : Nat)) : Int) = setO M ((rowAt P j).getD k (0 : Int)) (↑(lsV M (rowAt P j) k tot) : Int), (8 : Int) ≠ (0 : Int), ((rowAt P j).getD k (0 : Int)).toNat < M.length, (0 : Int) ≤ (rowAt P j).getD k (0 : Int) ∧ (rowAt P j).getD k (0 : Int) < (↑N : Int), Dec (!(lsF (M.getD ((rowAt P j).getD k (0 : Int)).toNat Con.zero) (consR N fun i => (M.getD i Con.zero).rvs) (intsR ((rowAt P j).length - (IntKind.i64.wrap ((↑k : Int) + (1 : Int))).toNat) fun i => (fun j_1 => [RV.int IntKind.i64 ((rowAt P j).getD j_1 (0 : Int))]) (i + (IntKind.i64.wrap ((↑k : Int) + (1 : Int))).toNat)) tot).isSome) false, N = M.length, (∀ (i : Nat), i < N → (fun i => (M.getD i Con.zero).rvs) i = (Con.ofR ((fun i => (M.getD i Con.zero).rvs) i)).rvs) ∧ (∀ (i : Nat), i < (rowAt P j).length - (IntKind.i64.wrap ((↑k : Int) + (1 : Int))).toNat → (fun i => (fun j_1 => [RV.int IntKind.i64 ((rowAt P j).getD j_1 (0 : Int))]) (i + (IntKind.i64.wrap ((↑k : Int) + (1 : Int))).toNat)) i = [RV.int IntKind.i64 (intR ((fun i => (fun j_1 => [RV.int IntKind.i64 ((rowAt P j).getD j_1 (0 : Int))]) (i + (IntKind.i64.wrap ((↑k : Int) + (1 : Int))).toNat)) i))]) ∧ (rowAt P j).length - (IntKind.i64.wrap ((↑k : Int) + (1 : Int))).toNat ≤ (1000 : Nat) ∧ inR N (intsR ((rowAt P j).length - (IntKind.i64.wrap ((↑k : Int) + (1 : Int))).toNat) fun i => (fun j_1 => [RV.int IntKind.i64 ((rowAt P j).getD j_1 (0 : Int))]) (i + (IntKind.i64.wrap ((↑k : Int) + (1 : Int))).toNat)) ∧ (0 : Int) ≤ tot ∧ tot ≤ (7 : Int), (0 : Int) ≤ IntKind.i64.wrap ((↑k : Int) + (1 : Int)) ∧ IntKind.i64.wrap ((↑k : Int) + (1 : Int)) ≤ (↑(rowAt P j).length : Int), ((rowAt P j).getD k (0 : Int)).toNat < M.length, (0 : Int) ≤ (rowAt P j).getD k (0 : Int) ∧ (rowAt P j).getD k (0 : Int) < (↑N : Int), (0 : Int) ≤ (↑k : Int) ∧ (↑k : Int) < (↑(rowAt P j).length : Int), Dec (decide ((↑k : Int) < (↑(rowAt P j).length : Int))) true], by kernel_rfl, ⟨?_, ?_, ?_, ?_, ?_, ?_, ?_, ?_, ?_, ?_, ?_, ?_, ?_, (dN d2), ?_, ?_, ?_, ?_, ?_, ?_, d1⟩, MuG.out ?_, InG.out ?_⟩⟩)
           (fun d2 => CtG.no ?_))
           (fun d1 => ⟨[false], .inr ⟨[N = N, P.length = P.length ∧ (fun i => [rI IntKind.i64 (P.getD i [])]) = fun i => [rI IntKind.i64 (P.getD i [])], (↑P.length : Int) = (↑P.length : Int), (↑j : Int) = (↑j : Int), M = (trF (rowAt P j) tot0 M0).getD [], Dec (decide ((↑k : Int) < (↑(rowAt P j).length : Int))) false], by kernel_rfl, ⟨?_, ?_, ?_, ?_, ?_, d1⟩, rfl⟩⟩)
      all_goals first | (refine MuG.mk ?_; (simp only [decide_eq_true_eq] at d1; show (rowAt P j).length - (k + 1) < (rowAt P j).length - k; omega)) | (refine InG.mk ?_; (simp only [ek, ec, intsR_drop, consR_ro, Int.toNat_natCast, decide_eq_true_eq] at *; exact ⟨by omega, by rw [setO_len]; exact hM, by omega, by rw [← hf, trF_1 (by omega) d2], hs⟩)) | (refine CtG.mk ?_; (simp only [ek, ec, intsR_drop, consR_ro, Int.toNat_natCast, decide_eq_true_eq, decide_eq_false_iff_not] at *; first | (rw [← hf, trF_3 (by omega)] at hs; cases hs; done) | (rw [← hf, trF_2 (by omega) d2] at hs; cases hs; done))) | (first | (with_reducible rfl) | exact ⟨rfl, rfl⟩ | decide | ((try simp only [ek, ec, intsR_drop, consR_ro, Int.toNat_natCast, decide_eq_true_eq, decide_eq_false_iff_not] at *) <;> first | omega | (rw [← hf, trF_3 (by omega)]; rfl) | exact el | rfl | (have h2 := hr.at (t := k) (by omega); first | omega | exact ⟨fun _ _ => rfl, fun _ _ => rfl, by omega, hr.drop _, hb.1, hb.2⟩ | exact (5 : Nat))))
theorem trF_ok2 : ∀ {l : List Int} {tot : Int} {M R : List Con}, okL M → inR M.length l → trF l tot M = some R → okL R ∧ R.length = M.length
  | [], tot, M, R, hM, hl, h => by cases h; exact ⟨hM, rfl⟩
  | i :: l, tot, M, R, hM, hl, h => by
    simp only [trF] at h
    cases hq : findT (lstP M i l tot) 8 0 with
    | none => rw [hq] at h; cases h
    | some t =>
      rw [hq] at h
      have h1 := hl i List.mem_cons_self
      have h2 := findT_some hq
      have h3 := trF_ok2 (setO_ok hM h1 (t := (t : Int)) ⟨by omega, by omega⟩) (by rw [setO_len]; exact fun x hx => hl x (List.mem_cons_of_mem _ hx)) h
      rw [setO_len] at h3
      exact h3
theorem trG_1 {M R : List Con} {P : List (List Int)} {j : Nat} (hj : j < P.length) (h : trF (rowAt P j) (at_ M ((rowAt P j).getD 0 0).toNat).oddity M = some R) : trG (P.drop j) M = trG (P.drop (j + 1)) R := by
  rw [drop_row hj]; simp only [trG, h]
theorem trG_2 {M : List Con} {P : List (List Int)} {j : Nat} (hj : j < P.length) (h : trF (rowAt P j) (at_ M ((rowAt P j).getD 0 0).toNat).oddity M = none) : trG (P.drop j) M = none := by
  rw [drop_row hj]; simp only [trG, h]
theorem trG_3 {M : List Con} {P : List (List Int)} {j : Nat} (hj : P.length ≤ j) : trG (P.drop j) M = some M := by
  rw [List.drop_eq_nil_of_le hj]; rfl
theorem some_getD {o : Option (List Con)} (h : o.isSome = true) : o = some (o.getD []) := by cases o with | none => cases h | some x => rfl
theorem none_of {o : Option (List Con)} (h : o.isSome = false) : o = none := by cases o with | none => rfl | some x => cases h
noncomputable def trOut (L : List Con) (P : List (List Int)) : Ann := ⟨⟨trT L.length P (.int .i64 0), tfH L.length L, 1020⟩, some (trG P L).isSome, fun d => match d with
  | true => (.exit 0, ⟨[(2, .ptr 1001 0), (4, .lo 1003 L.length)], tfH L.length ((trG P L).getD []), 1020⟩)
  | false => trZ⟩
set_option maxRecDepth 100000 in
theorem tr_out (L : List Con) (P : List (List Int)) (hP : ∀ l ∈ P, l ≠ [] ∧ inR L.length l ∧ l.length ≤ L.length) (hn : P.length ≤ 1000) (hL : okL L) : AnnOk Tryz.prog EV.ng (Nat.max 1 Tryz.f15.ntmps) (bodyAt Tryz.f15 [0, 1, 0, 1, 1, 1]) (trOut L P) := by
  refine ann_ofI evOk (callF_ok evOk (orcOf_ok entsTR_ok) 8) (by kernel_rfl) (by kernel_rfl) (fun i : Nat × List Con => (fun (j : Nat) (M : List Con) => (⟨trT L.length P (.vint .i64 (j : Int)), tfH L.length M, 1020⟩ : St)) i.1 i.2) (fun i : Nat × List Con => (fun (j : Nat) (M : List Con) => (P.length - j : Nat)) i.1 i.2) (fun (d : Bool) (i : Nat × List Con) => (fun (j : Nat) (M : List Con) => (j ≤ P.length ∧ okL M ∧ M.length = L.length ∧ trG (P.drop j) M = trG P L ∧ (trG P L).isSome = d : Prop)) i.1 i.2) (fun i : Nat × List Con => (fun (j : Nat) (M : List Con) => ([([0, 1, 1, 1, 0, 0, 1, 1, 0, 0, 1, 0, 1, 1, 1], trIn L.length P j (at_ M ((rowAt P j).getD 0 0).toNat).oddity M)] : List (List Nat × Ann))) i.1 i.2) ?_ ?_ ?_
  · rintro d hd ⟨j, M⟩ hI
    obtain ⟨ht, hM, hlen, hf, hs⟩ := hI
    have ht : j ≤ P.length := ht
    have hM : okL M := hM
    have hlen : M.length = L.length := hlen
    have hb : 0 ≤ (at_ M ((rowAt P j).getD 0 0).toNat).oddity ∧ (at_ M ((rowAt P j).getD 0 0).toNat).oddity ≤ 7 := by
      rcases Nat.lt_or_ge ((rowAt P j).getD 0 0).toNat M.length with h | h
      · exact (hM.at h).2.2.2
      · rw [at_out h]; decide
    have hr : inR L.length (rowAt P j) ∧ (rowAt P j).length ≤ 1000 := by
      have := hL.1
      rcases Nat.lt_or_ge j P.length with h | h
      · have h1 := hP _ (rowAt_mem h)
        exact ⟨h1.2.1, by omega⟩
      · have e : rowAt P j = [] := by simp [rowAt, h]
        rw [e]; exact ⟨fun x hx => by simp at hx, by simp⟩
    exact one_ann (tr_in L.length P j _ M hr.1 hr.2 hlen hb.1 hb.2)
  · intro d hd
    exact ⟨(0, L), [L.length = L.length, P.length = P.length ∧ (fun i => [rI IntKind.i64 (P.getD i [])]) = fun i => [rI IntKind.i64 (P.getD i [])], (↑P.length : Int) = (↑P.length : Int), (0 : Int) = (↑(0 : Nat) : Int), L = L], by kernel_rfl, (by refine ⟨?_, ?_, ?_, ?_, (?_ : L = L)⟩ <;> (first | rfl | assumption | omega | simp_all)), (by exact ⟨Nat.zero_le _, hL, rfl, rfl, hd⟩)⟩
  · rintro d hd ⟨j, M⟩ hI
    cases d
    · -- d = false
      obtain ⟨ht, hM, hlen, hf, hs⟩ := hI
      have ht : j ≤ P.length := ht
      have hM : okL M := hM
      have hlen : M.length = L.length := hlen
      have hf : trG (P.drop j) M = trG P L := hf
      have ek : IntKind.i64.wrap ((j : Int) + 1) = ((j + 1 : Nat) : Int) := by rw [w64 (by omega) (by omega)]; omega
      refine Or.elim (Bool.eq_false_or_eq_true (decide ((↑j : Int) < (↑P.length : Int)))) (fun d1 => Or.elim (Bool.eq_false_or_eq_true ((trF (rowAt P j) (at_ M ((rowAt P j).getD (0 : Nat) (0 : Int)).toNat).oddity M).isSome)) (fun d2 => ⟨[true, true], .inl ⟨(j + 1, (trF (rowAt P j) (at_ M ((rowAt P j).getD 0 0).toNat).oddity M).getD []), [L.length = L.length, P.length = P.length ∧ (fun i => [rI IntKind.i64 (P.getD i [])]) = fun i => [rI IntKind.i64 (P.getD i [])], (↑P.length : Int) = (↑P.length : Int), IntKind.i64.wrap ((↑j : Int) + (1 : Int)) = (↑(j + (1 : Nat)) : Int), (trF (rowAt P j) (at_ M ((rowAt P j).getD (0 : Nat) (0 : Int)).toNat).oddity M).getD [] = (trF (rowAt P j) (at_ M ((rowAt P j).getD (0 : Nat) (0 : Int)).toNat).oddity M).getD [], L.length = L.length, P.length = P.length ∧ (fun i => [rI IntKind.i64 (P.getD i [])]) = fun i => [rI IntKind.i64 (P.getD i [])], (↑P.length : Int) = (↑P.length : Int), (↑j : Int) = (↑j : Int), (P.getD j []).length = (rowAt P j).length ∧ (fun j_1 => [RV.int IntKind.i64 ((P.getD j []).getD j_1 (0 : Int))]) = fun j_1 => [RV.int IntKind.i64 ((rowAt P j).getD j_1 (0 : Int))], (M.getD ((P.getD j []).getD (Int.toNat (0 : Int)) (0 : Int)).toNat Con.zero).oddity = (at_ M ((rowAt P j).getD (0 : Nat) (0 : Int)).toNat).oddity, (P.getD j []).length = (rowAt P j).length ∧ (fun j_1 => [RV.int IntKind.i64 ((P.getD j []).getD j_1 (0 : Int))]) = fun j_1 => [RV.int IntKind.i64 ((rowAt P j).getD j_1 (0 : Int))], (↑(P.getD j []).length : Int) = (↑(rowAt P j).length : Int), M = M, Dec (trF (rowAt P j) (at_ M ((rowAt P j).getD (0 : Nat) (0 : Int)).toNat).oddity M).isSome true, ((P.getD j []).getD (Int.toNat (0 : Int)) (0 : Int)).toNat < M.length, (0 : Int) ≤ (P.getD j []).getD (Int.toNat (0 : Int)) (0 : Int) ∧ (P.getD j []).getD (Int.toNat (0 : Int)) (0 : Int) < (↑L.length : Int), (0 : Int) ≤ (0 : Int) ∧ (0 : Int) < (↑(P.getD j []).length : Int), (0 : Int) ≤ (↑j : Int) ∧ (↑j : Int) < (↑P.length : Int), Dec (decide ((↑j : Int) < (↑P.length : Int))) true], by kernel_rfl, ⟨?_, ?_, ?_, ?_, ?_, ?_, ?_, ?_, ?_, ?_, ?_, ?_, ?_, ?_, d2, ?_, ?_, ?_, ?_, d1⟩, MuG.out ?_, InG.out ?_⟩⟩)
           (fun d2 => ⟨[true, false], .inr ⟨[L.length = L.length, P.length = P.length ∧ (fun i => [rI IntKind.i64 (P.getD i [])]) = fun i => [rI IntKind.i64 (P.getD i [])], (↑P.length : Int) = (↑P.length : Int), (↑j : Int) = (↑j : Int), (P.getD j []).length = (rowAt P j).length ∧ (fun j_1 => [RV.int IntKind.i64 ((P.getD j []).getD j_1 (0 : Int))]) = fun j_1 => [RV.int IntKind.i64 ((rowAt P j).getD j_1 (0 : Int))], (M.getD ((P.getD j []).getD (Int.toNat (0 : Int)) (0 : Int)).toNat Con.zero).oddity = (at_ M ((rowAt P j).getD (0 : Nat) (0 : Int)).toNat).oddity, (P.getD j []).length = (rowAt P j).length ∧ (fun j_1 => [RV.int IntKind.i64 ((P.getD j []).getD j_1 (0 : Int))]) = fun j_1 => [RV.int IntKind.i64 ((rowAt P j).getD j_1 (0 : Int))], (↑(P.getD j []).length : Int) = (↑(rowAt P j).length : Int), M = M, Dec (trF (rowAt P j) (at_ M ((rowAt P j).getD (0 : Nat) (0 : Int)).toNat).oddity M).isSome false, ((P.getD j []).getD (Int.toNat (0 : Int)) (0 : Int)).toNat < M.length, (0 : Int) ≤ (P.getD j []).getD (Int.toNat (0 : Int)) (0 : Int) ∧ (P.getD j []).getD (Int.toNat (0 : Int)) (0 : Int) < (↑L.length : Int), (0 : Int) ≤ (0 : Int) ∧ (0 : Int) < (↑(P.getD j []).length : Int), (0 : Int) ≤ (↑j : Int) ∧ (↑j : Int) < (↑P.length : Int), Dec (decide ((↑j : Int) < (↑P.length : Int))) true], by kernel_rfl, ⟨?_, ?_, ?_, ?_, ?_, ?_, ?_, ?_, ?_, d2, ?_, ?_, ?_, ?_, d1⟩, rfl⟩⟩))
           (fun d1 => CtG.no ?_)
      all_goals first | (refine MuG.mk ?_; (simp only [decide_eq_true_eq] at d1; show P.length - (j + 1) < P.length - j; omega)) | (refine InG.mk ?_; (simp only [decide_eq_true_eq] at d1; have h0 := hP _ (rowAt_mem (P := P) (t := j) (by omega)); have h1 := some_getD d2; have h2 := trF_ok2 hM (by rw [hlen]; exact h0.2.1) h1; exact ⟨by omega, h2.1, h2.2.trans hlen, by rw [← hf]; exact (trG_1 (by omega) h1).symm, hs⟩)) | (refine CtG.mk ?_; (simp only [decide_eq_true_eq, decide_eq_false_iff_not] at d1; first | (rw [← hf, trG_3 (by omega)] at hs; cases hs; done) | (rw [← hf, trG_2 (by omega) (none_of d2)] at hs; cases hs; done))) | (first | (with_reducible rfl) | exact ⟨rfl, rfl⟩ | decide | ((try simp only [ek, Int.toNat_natCast, Int.toNat_zero, decide_eq_true_eq, decide_eq_false_iff_not] at *) <;> first | omega | (rw [← hf, trG_3 (by omega)]; rfl) | (have h0 := hP _ (rowAt_mem (P := P) (t := j) (by omega)); have h1 : 0 < (rowAt P j).length := List.length_pos_iff.2 h0.1; have h5 : 0 ≤ (P.getD j []).getD 0 0 ∧ (P.getD j []).getD 0 0 < (L.length : Int) := h0.2.1.at (t := 0) h1; have h7 : 0 < (P.getD j []).length := h1; first | omega)))
    · -- d = true
      obtain ⟨ht, hM, hlen, hf, hs⟩ := hI
      have ht : j ≤ P.length := ht
      have hM : okL M := hM
      have hlen : M.length = L.length := hlen
      have hf : trG (P.drop j) M = trG P L := hf
      have ek : IntKind.i64.wrap ((j : Int) + 1) = ((j + 1 : Nat) : Int) := by rw [w64 (by omega) (by omega)]; omega
      refine Or.elim (Bool.eq_false_or_eq_true (decide ((↑j : Int) < (↑P.length : Int)))) (fun d1 => Or.elim (Bool.eq_false_or_eq_true ((trF (rowAt P j) (at_ M ((rowAt P j).getD (0 : Nat) (0 : Int)).toNat).oddity M).isSome)) (fun d2 => ⟨[true, true], .inl ⟨(j + 1, (trF (rowAt P j) (at_ M ((rowAt P j).getD 0 0).toNat).oddity M).getD []), [L.length = L.length, P.length = P.length ∧ (fun i => [rI IntKind.i64 (P.getD i [])]) = fun i => [rI IntKind.i64 (P.getD i [])], (↑P.length : Int) = (↑P.length : Int), IntKind.i64.wrap ((↑j : Int) + (1 : Int)) = (↑(j + (1 : Nat)) : Int), (trF (rowAt P j) (at_ M ((rowAt P j).getD (0 : Nat) (0 : Int)).toNat).oddity M).getD [] = (trF (rowAt P j) (at_ M ((rowAt P j).getD (0 : Nat) (0 : Int)).toNat).oddity M).getD [], L.length = L.length, P.length = P.length ∧ (fun i => [rI IntKind.i64 (P.getD i [])]) = fun i => [rI IntKind.i64 (P.getD i [])], (↑P.length : Int) = (↑P.length : Int), (↑j : Int) = (↑j : Int), (P.getD j []).length = (rowAt P j).length ∧ (fun j_1 => [RV.int IntKind.i64 ((P.getD j []).getD j_1 (0 : Int))]) = fun j_1 => [RV.int IntKind.i64 ((rowAt P j).getD j_1 (0 : Int))], (M.getD ((P.getD j []).getD (Int.toNat (0 : Int)) (0 : Int)).toNat Con.zero).oddity = (at_ M ((rowAt P j).getD (0 : Nat) (0 : Int)).toNat).oddity, (P.getD j []).length = (rowAt P j).length ∧ (fun j_1 => [RV.int IntKind.i64 ((P.getD j []).getD j_1 (0 : Int))]) = fun j_1 => [RV.int IntKind.i64 ((rowAt P j).getD j_1 (0 : Int))], (↑(P.getD j []).length : Int) = (↑(rowAt P j).length : Int), M = M, Dec (trF (rowAt P j) (at_ M ((rowAt P j).getD (0 : Nat) (0 : Int)).toNat).oddity M).isSome true, ((P.getD j []).getD (Int.toNat (0 : Int)) (0 : Int)).toNat < M.length, (0 : Int) ≤ (P.getD j []).getD (Int.toNat (0 : Int)) (0 : Int) ∧ (P.getD j []).getD (Int.toNat (0 : Int)) (0 : Int) < (↑L.length : Int), (0 : Int) ≤ (0 : Int) ∧ (0 : Int) < (↑(P.getD j []).length : Int), (0 : Int) ≤ (↑j : Int) ∧ (↑j : Int) < (↑P.length : Int), Dec (decide ((↑j : Int) < (↑P.length : Int))) true], by kernel_rfl, ⟨?_, ?_, ?_, ?_, ?_, ?_, ?_, ?_, ?_, ?_, ?_, ?_, ?_, ?_, d2, ?_, ?_, ?_, ?_, d1⟩, MuG.out ?_, InG.out ?_⟩⟩)
           (fun d2 => CtG.no ?_))
           (fun d1 => ⟨[false], .inr ⟨[L.length = L.length, M = (trG P L).getD [], Dec (decide ((↑j : Int) < (↑P.length : Int))) false], by kernel_rfl, ⟨?_, ?_, d1⟩, rfl⟩⟩)
      all_goals first | (refine MuG.mk ?_; (simp only [decide_eq_true_eq] at d1; show P.length - (j + 1) < P.length - j; omega)) | (refine InG.mk ?_; (simp only [decide_eq_true_eq] at d1; have h0 := hP _ (rowAt_mem (P := P) (t := j) (by omega)); have h1 := some_getD d2; have h2 := trF_ok2 hM (by rw [hlen]; exact h0.2.1) h1; exact ⟨by omega, h2.1, h2.2.trans hlen, by rw [← hf]; exact (trG_1 (by omega) h1).symm, hs⟩)) | (refine CtG.mk ?_; (simp only [decide_eq_true_eq, decide_eq_false_iff_not] at d1; first | (rw [← hf, trG_3 (by omega)] at hs; cases hs; done) | (rw [← hf, trG_2 (by omega) (none_of d2)] at hs; cases hs; done))) | (first | (with_reducible rfl) | exact ⟨rfl, rfl⟩ | decide | ((try simp only [ek, Int.toNat_natCast, Int.toNat_zero, decide_eq_true_eq, decide_eq_false_iff_not] at *) <;> first | omega | (rw [← hf, trG_3 (by omega)]; rfl) | (have h0 := hP _ (rowAt_mem (P := P) (t := j) (by omega)); have h1 : 0 < (rowAt P j).length := List.length_pos_iff.2 h0.1; have h5 : 0 ≤ (P.getD j []).getD 0 0 ∧ (P.getD j []).getD 0 0 < (L.length : Int) := h0.2.1.at (t := 0) h1; have h7 : 0 < (P.getD j []).length := h1; first | omega)))
set_option maxRecDepth 100000 in
theorem tref_yes (L R : List Con) (hf : fusM 2 L = true) (hR : refM L = some R) (hlen : R.length = L.length) : PureC Tryz.prog [] 15 [.agg [.int .i64 2, roC L]] (.tup [.agg [.int .i64 2, roC R], .bool true]) := by
  have hL := fus_okL hf; have hl := hL.1; have hne := (fus_parts hf).2.1; have k1 : fusM 2 (consR L.length fun i => (L.getD i Con.zero).rvs) = true := (by rw [consR_ro]; exact hf); have k2 : L.length.beq 0 = false := (by cases h : L.length.beq 0 with | false => rfl | true => have := Nat.eq_of_beq_eq_true h; omega); have k0 : trG (partsM L) L = some R := (by rw [trG_refM hf]; exact hR); have k3 : (trG (partsM L) L).isSome = true := (by rw [k0]; rfl); have k4 : (trG (partsM L) L).getD [] = R := (by rw [k0]; rfl)
  have rr := fun (tp : List Bool) (ms : List Prop) h hm => pure_run evOk (callF_ok evOk (orcOf_ok entsTR_ok) 8) Tryz.func15 (A := [.agg [.int .i64 2, roC L]]) (N := Nat.max 1 Tryz.f15.ntmps) rfl (one_ann (tr_out L (partsM L) parts_rows (Nat.le_trans parts_len (fus_okL hf).1) (fus_okL hf))) rfl rfl evNg (tabs := []) (R := .tup [.agg [.int .i64 2, roC R], .bool true]) (tp := tp) (ms := ms) h hm
  refine rr [false, false, true] [(2 : Int) = (2 : Int), L.length = R.length ∧ L.length = ((trG (partsM L) L).getD []).length ∧ ∀ (i : Nat), i < L.length → (fun i => (R.getD i Con.zero).rvs) i = (((trG (partsM L) L).getD []).getD i Con.zero).rvs, true = true, L.length = L.length, (partsM (consR L.length fun i => (L.getD i Con.zero).rvs)).length = (partsM L).length ∧ (fun i => [rI IntKind.i64 ((partsM (consR L.length fun i => (L.getD i Con.zero).rvs)).getD i [])]) = fun i => [rI IntKind.i64 ((partsM L).getD i [])], (↑(partsM (consR L.length fun i => (L.getD i Con.zero).rvs)).length : Int) = (↑(partsM L).length : Int), (consR L.length fun i => (L.getD i Con.zero).rvs) = L, Dec (trG (partsM L) L).isSome true, (∀ (i : Nat), i < L.length → (fun i => (L.getD i Con.zero).rvs) i = (Con.ofR ((fun i => (L.getD i Con.zero).rvs) i)).rvs) ∧ okE (consR L.length fun i => (L.getD i Con.zero).rvs), (0 : Nat) < L.length ∧ L.length ≤ (1000000 : Nat), ∀ (i : Nat), i < L.length → (fun i => (L.getD i Con.zero).rvs) i = (Con.ofR ((fun i => (L.getD i Con.zero).rvs) i)).rvs, Dec (L.length.beq (0 : Nat)) false, (0 : Nat) < L.length, Dec (!fusM (2 : Int) (consR L.length fun i => (L.getD i Con.zero).rvs)) false, (∀ (i : Nat), i < L.length → (fun i => (L.getD i Con.zero).rvs) i = (Con.ofR ((fun i => (L.getD i Con.zero).rvs) i)).rvs) ∧ L.length ≤ (1000 : Nat)] (by kernel_rfl) ⟨?_, ?_, ?_, ?_, ?_, ?_, ?_, k3, ?_, ?_, ?_, k2, ?_, (dN k1), (?_ : (∀ (i : Nat), i < L.length → (fun i => (L.getD i Con.zero).rvs) i = (Con.ofR ((fun i => (L.getD i Con.zero).rvs) i)).rvs) ∧ L.length ≤ (1000 : Nat))⟩
  all_goals first | (first | (with_reducible rfl) | exact ⟨rfl, rfl⟩ | exact consR_ro L | exact ⟨hne, by omega⟩ | exact hne | exact fun _ _ => rfl | exact ⟨fun _ _ => rfl, by rw [consR_ro]; exact hL.e⟩ | exact ⟨fun _ _ => rfl, hl⟩ | (rw [consR_ro]; first | done | rfl | exact ⟨rfl, rfl⟩) | (rw [k4]; exact ⟨hlen.symm, hlen.symm, fun _ _ => rfl⟩) | exact (5 : Nat))
end Go.Proofs.YtkkmlbhmcdoibaaGreatDoor.S

namespace Go.Proofs.YtkkmlbhmcdoibaaGreatDoor.S
open Go.QfSy Go.RowKit
theorem dm_listM {most : Int} {two : Bool} : ∀ {X : List Prt} {e n : Int}, (∀ p ∈ X, p.ok) → n ≤ most → dimS (listM most two X e n) ≤ most - n
  | [], e, n, _, h => by simp [listM, dimS]; omega
  | p :: X, e, n, hX, h => by
    simp only [listM]
    split
    · simp [dimS]; omega
    · have hd := dimM_b (hX p (by simp)) (r := most - n) (by omega)
      have ih := dm_listM (most := most) (two := two) (X := X) (e := expM p e) (n := n + dimM p (most - n)) (fun x hx => hX x (by simp [hx])) (by omega)
      simp only [dimS]
      show dimM p (most - n) + _ ≤ _
      omega
theorem dm_listV {most : Int} (h1 : 1 ≤ most) {two : Bool} {X : List Prt} (hX : ∀ p ∈ X, p.ok) : dimS (listV most two X) ≤ most := by
  unfold listV
  cases (listF most two X).isEmpty with
  | false => have := dm_listM (most := most) (two := two) (e := -1) (n := 0) hX (by omega : (0 : Int) ≤ most); simp only [cond_false]; unfold listF; omega
  | true =>
    have hd := dimM_b zero_ok (r := 1) (by decide)
    simp only [cond_true, dimS]
    show dimM Prt.zero 1 + 0 ≤ most
    omega
end Go.Proofs.YtkkmlbhmcdoibaaGreatDoor.S

namespace Go.Proofs.YtkkmlbhmcdoibaaGreatDoor.S
open Go.QfSy Go.RowKit
theorem lg_canS {L : List Con} (hf : fusM 2 L = true) (ha : lgAll L = true) {k : Nat} (h1 : 1 ≤ k) (h2 : k < L.length) : lgAll (canS L k) = true := by
  unfold canS
  cases hs : ((at_ L k).sign == -1 && linkM L k) with
  | false => exact ha
  | true =>
    simp only [Bool.and_eq_true] at hs
    exact lg_step hf h1 h2 hs.2 ha
theorem lg_canG : ∀ {k : Nat} {L : List Con}, fusM 2 L = true → lgAll L = true → k < L.length → lgAll (canG L k) = true
  | 0, L, _, ha, _ => ha
  | k + 1, L, hf, ha, hk => by
    simp only [canG]
    exact lg_canG (canS_fus hf (by omega) hk) (lg_canS hf ha (by omega) hk) (by rw [canS_len]; omega)
theorem lg_can {L : List Con} (h : val2M 2 L = true) : lgAll (canM L) = true := by
  have hf := fus_fuse h
  have hn := (fus_parts hf).2.1
  exact lg_canG hf (lg_fuse h) (by omega)
end Go.Proofs.YtkkmlbhmcdoibaaGreatDoor.S

namespace Go.Proofs.YtkkmlbhmcdoibaaGreatDoor.S
open Go.QfSy Go.RowKit
noncomputable def entsSs (R : List Con) : List OEnt := [
  ⟨11, [], fun A => match A with
    | [.agg [.int .i64 p, .sl n 5 row], .agg [.int .i64 q, .sl m 5 row']] => some (.tup [.agg [.int .i64 2, roC (addM (consR n row) (consR m row'))], .int .i64 0], [(∀ i, i < n → row i = (Con.ofR (row i)).rvs) ∧ (∀ i, i < m → row' i = (Con.ofR (row' i)).rvs) ∧ p = 2 ∧ q = 2 ∧ val2M 2 (consR n row) = true ∧ val2M 2 (consR m row') = true ∧ val2M 2 (addM (consR n row) (consR m row')) = true])
    | _ => none⟩,
  ⟨14, [], fun A => match A with
    | [.agg [.int .i64 p, .sl n 5 row]] => some (.tup [.agg [.int .i64 2, roC (canM (consR n row))], .bool true], [(∀ i, i < n → row i = (Con.ofR (row i)).rvs) ∧ p = 2 ∧ val2M 2 (consR n row) = true])
    | _ => none⟩,
  ⟨15, [], fun A => match A with
    | [.agg [.int .i64 p, .sl n 5 row]] => some (.tup [.agg [.int .i64 2, roC R], .bool true], [(∀ i, i < n → row i = (Con.ofR (row i)).rvs) ∧ p = 2 ∧ fusM 2 (consR n row) = true ∧ refM (consR n row) = some R])
    | _ => none⟩,
  ⟨13, [], fun A => match A with
    | [.agg [.int .i64 p, .sl n 5 row], .agg [.int .i64 q, .sl m 5 row']] => some (.bool true, [(∀ i, i < n → row i = (Con.ofR (row i)).rvs) ∧ (∀ i, i < m → row' i = (Con.ofR (row' i)).rvs) ∧ p = q ∧ consR n row = consR m row' ∧ n ≤ 1000])
    | _ => none⟩,
  ⟨10, [], fun A => match A with
    | [.agg [.int .u8 pr, .sl n 5 row], .int .i64 most] => some (.agg [.int .i64 2, roC (listV most true (prtR n row))], [(∀ i, i < n → row i = (Prt.ofR (row i)).rvs) ∧ (∀ p ∈ prtR n row, p.ok) ∧ n ≤ 900 ∧ 1 ≤ most ∧ most ≤ 8])
    | _ => none⟩,
  ⟨7, tabs, fun A => match A with
    | [] => some (.bool true, [])
    | _ => none⟩]
theorem entsSs_ok {R : List Con} : ∀ e ∈ entsSs R, EntOk Tryz.prog e := by
  intro e he
  simp only [entsSs, List.mem_cons, List.not_mem_nil, or_false] at he
  rcases he with rfl | rfl | rfl | rfl | rfl | rfl
  all_goals
    intro A R' ms h hm
    simp only at h
    split at h
    all_goals first | (cases h; done) | cases h
  · obtain ⟨h1, h2, h3, h4, h5, h6, h7⟩ := all_one hm
    subst h3
    subst h4
    have := tsum_pure 2 2 _ _ (val2_ok h5).1.1 (val2_ok h6).1.1
    rw [show smV 2 2 _ _ = true by unfold smV; rw [h5, h6, h7]; rfl] at this
    exact PureC.imp this (.cons (.agg (.cons .same (.cons (.con h1) .nil))) (.cons (.agg (.cons .same (.cons (.con h2) .nil))) .nil))
  · obtain ⟨h1, h2, h3⟩ := all_one hm
    subst h2
    exact PureC.imp (tcan_yes _ (val2_ok h3).1 h3 (val2_ok h3).2.2.1) (.cons (.agg (.cons .same (.cons (.con h1) .nil))) .nil)
  · obtain ⟨h1, h2, h3, h4⟩ := all_one hm
    subst h2
    exact PureC.imp (tref_yes _ _ h3 h4 (refM_len h4)) (.cons (.agg (.cons .same (.cons (.con h1) .nil))) .nil)
  · obtain ⟨h1, h2, h3, h4, h5⟩ := all_one hm
    subst h3
    exact PureC.imp (same_pure _ _ (by rw [consR_len]; exact h5)) (.cons (.agg (.cons .same (.cons (.con h1) .nil))) (.cons (.agg (.cons .same (.cons (by rw [h4]; exact .con h2) .nil))) .nil))
  · obtain ⟨h1, h2, h3, h4, h5⟩ := all_one hm
    exact PureC.imp (rawM _ _ _ h2 (by rw [prtR_len]; exact h3) h4 h5) (.cons (.agg (.cons .same (.cons (.prt h1) .nil))) .same)
  · exact awake_pure
set_option maxHeartbeats 2000000 in
set_option maxRecDepth 100000 in
theorem sums_y (kx : Int) (X : List Prt) (ky : Int) (Y : List Prt) (R : List Con) (hX : ∀ p ∈ X, p.ok) (hY : ∀ p ∈ Y, p.ok) (hL : val2M 2 (listV 5 true X) = true) (hC : val2M 2 (listV 3 true Y) = true) (hR : val2M 2 R = true) (hf : fusM 2 (canM (listV 5 true X)) = true) (hr : refM (canM (listV 5 true X)) = some R) (hLC : val2M 2 (addM (listV 5 true X) (listV 3 true Y)) = true) (hRC : val2M 2 (addM R (listV 3 true Y)) = true) (he : canM (addM (listV 5 true X) (listV 3 true Y)) = canM (addM R (listV 3 true Y))) (hl : (canM (addM (listV 5 true X) (listV 3 true Y))).length ≤ 1000) : PureC Tryz.prog tabs 5 [.agg [.int .u8 kx, roP X], .agg [.int .u8 ky, roP Y]] (.bool true) := by
  have l5 := listV_len (most := 5) (two := true) (X := X); have l3 := listV_len (most := 3) (two := true) (X := Y)
  have rr := fun (tp : List Bool) (ms : List Prop) h hm => pure_run evOk (callF_ok evOk (orcOf_ok (entsSs_ok (R := R))) 8) Tryz.func5 (A := [.agg [.int .u8 kx, roP X], .agg [.int .u8 ky, roP Y]]) rfl none_ann rfl rfl evNg (tabs := tabs) (R := .bool true) (tp := tp) (ms := ms) h hm
  refine Or.elim (Bool.eq_false_or_eq_true (decide ((↑X.length : Int) > (20 : Int)))) (fun d1 => rr [true] [true = true, Dec (decide ((↑X.length : Int) > (20 : Int))) true] (by kernel_rfl) ⟨?_, d1⟩)
           (fun d1 => Or.elim (Bool.eq_false_or_eq_true (decide ((↑Y.length : Int) > (20 : Int)))) (fun d2 => rr [false, true] [true = true, Dec (decide ((↑Y.length : Int) > (20 : Int))) true, Dec (decide ((↑X.length : Int) > (20 : Int))) false] (by kernel_rfl) ⟨?_, d2, d1⟩)
           (fun d2 => rr [false, false, true, true, true, true, true, true, true] [true = true, Dec true true, (∀ (i : Nat), i < (canM (consR (addM (consR (listV (5 : Int) true (prtR X.length fun i => (X.getD i Prt.zero).rvs)).length fun i => ((listV (5 : Int) true (prtR X.length fun i => (X.getD i Prt.zero).rvs)).getD i Con.zero).rvs) (consR (listV (3 : Int) true (prtR Y.length fun i => (Y.getD i Prt.zero).rvs)).length fun i => ((listV (3 : Int) true (prtR Y.length fun i => (Y.getD i Prt.zero).rvs)).getD i Con.zero).rvs)).length fun i => ((addM (consR (listV (5 : Int) true (prtR X.length fun i => (X.getD i Prt.zero).rvs)).length fun i => ((listV (5 : Int) true (prtR X.length fun i => (X.getD i Prt.zero).rvs)).getD i Con.zero).rvs) (consR (listV (3 : Int) true (prtR Y.length fun i => (Y.getD i Prt.zero).rvs)).length fun i => ((listV (3 : Int) true (prtR Y.length fun i => (Y.getD i Prt.zero).rvs)).getD i Con.zero).rvs)).getD i Con.zero).rvs)).length → (fun i => ((canM (consR (addM (consR (listV (5 : Int) true (prtR X.length fun i => (X.getD i Prt.zero).rvs)).length fun i => ((listV (5 : Int) true (prtR X.length fun i => (X.getD i Prt.zero).rvs)).getD i Con.zero).rvs) (consR (listV (3 : Int) true (prtR Y.length fun i => (Y.getD i Prt.zero).rvs)).length fun i => ((listV (3 : Int) true (prtR Y.length fun i => (Y.getD i Prt.zero).rvs)).getD i Con.zero).rvs)).length fun i => ((addM (consR (listV (5 : Int) true (prtR X.length fun i => (X.getD i Prt.zero).rvs)).length fun i => ((listV (5 : Int) true (prtR X.length fun i => (X.getD i Prt.zero).rvs)).getD i Con.zero).rvs) (consR (listV (3 : Int) true (prtR Y.length fun i => (Y.getD i Prt.zero).rvs)).length fun i => ((listV (3 : Int) true (prtR Y.length fun i => (Y.getD i Prt.zero).rvs)).getD i Con.zero).rvs)).getD i Con.zero).rvs)).getD i Con.zero).rvs) i = (Con.ofR ((fun i => ((canM (consR (addM (consR (listV (5 : Int) true (prtR X.length fun i => (X.getD i Prt.zero).rvs)).length fun i => ((listV (5 : Int) true (prtR X.length fun i => (X.getD i Prt.zero).rvs)).getD i Con.zero).rvs) (consR (listV (3 : Int) true (prtR Y.length fun i => (Y.getD i Prt.zero).rvs)).length fun i => ((listV (3 : Int) true (prtR Y.length fun i => (Y.getD i Prt.zero).rvs)).getD i Con.zero).rvs)).length fun i => ((addM (consR (listV (5 : Int) true (prtR X.length fun i => (X.getD i Prt.zero).rvs)).length fun i => ((listV (5 : Int) true (prtR X.length fun i => (X.getD i Prt.zero).rvs)).getD i Con.zero).rvs) (consR (listV (3 : Int) true (prtR Y.length fun i => (Y.getD i Prt.zero).rvs)).length fun i => ((listV (3 : Int) true (prtR Y.length fun i => (Y.getD i Prt.zero).rvs)).getD i Con.zero).rvs)).getD i Con.zero).rvs)).getD i Con.zero).rvs) i)).rvs) ∧ (∀ (i : Nat), i < (canM (consR (addM (consR R.length fun i => (R.getD i Con.zero).rvs) (consR (listV (3 : Int) true (prtR Y.length fun i => (Y.getD i Prt.zero).rvs)).length fun i => ((listV (3 : Int) true (prtR Y.length fun i => (Y.getD i Prt.zero).rvs)).getD i Con.zero).rvs)).length fun i => ((addM (consR R.length fun i => (R.getD i Con.zero).rvs) (consR (listV (3 : Int) true (prtR Y.length fun i => (Y.getD i Prt.zero).rvs)).length fun i => ((listV (3 : Int) true (prtR Y.length fun i => (Y.getD i Prt.zero).rvs)).getD i Con.zero).rvs)).getD i Con.zero).rvs)).length → (fun i => ((canM (consR (addM (consR R.length fun i => (R.getD i Con.zero).rvs) (consR (listV (3 : Int) true (prtR Y.length fun i => (Y.getD i Prt.zero).rvs)).length fun i => ((listV (3 : Int) true (prtR Y.length fun i => (Y.getD i Prt.zero).rvs)).getD i Con.zero).rvs)).length fun i => ((addM (consR R.length fun i => (R.getD i Con.zero).rvs) (consR (listV (3 : Int) true (prtR Y.length fun i => (Y.getD i Prt.zero).rvs)).length fun i => ((listV (3 : Int) true (prtR Y.length fun i => (Y.getD i Prt.zero).rvs)).getD i Con.zero).rvs)).getD i Con.zero).rvs)).getD i Con.zero).rvs) i = (Con.ofR ((fun i => ((canM (consR (addM (consR R.length fun i => (R.getD i Con.zero).rvs) (consR (listV (3 : Int) true (prtR Y.length fun i => (Y.getD i Prt.zero).rvs)).length fun i => ((listV (3 : Int) true (prtR Y.length fun i => (Y.getD i Prt.zero).rvs)).getD i Con.zero).rvs)).length fun i => ((addM (consR R.length fun i => (R.getD i Con.zero).rvs) (consR (listV (3 : Int) true (prtR Y.length fun i => (Y.getD i Prt.zero).rvs)).length fun i => ((listV (3 : Int) true (prtR Y.length fun i => (Y.getD i Prt.zero).rvs)).getD i Con.zero).rvs)).getD i Con.zero).rvs)).getD i Con.zero).rvs) i)).rvs) ∧ (2 : Int) = (2 : Int) ∧ ((consR (canM (consR (addM (consR (listV (5 : Int) true (prtR X.length fun i => (X.getD i Prt.zero).rvs)).length fun i => ((listV (5 : Int) true (prtR X.length fun i => (X.getD i Prt.zero).rvs)).getD i Con.zero).rvs) (consR (listV (3 : Int) true (prtR Y.length fun i => (Y.getD i Prt.zero).rvs)).length fun i => ((listV (3 : Int) true (prtR Y.length fun i => (Y.getD i Prt.zero).rvs)).getD i Con.zero).rvs)).length fun i => ((addM (consR (listV (5 : Int) true (prtR X.length fun i => (X.getD i Prt.zero).rvs)).length fun i => ((listV (5 : Int) true (prtR X.length fun i => (X.getD i Prt.zero).rvs)).getD i Con.zero).rvs) (consR (listV (3 : Int) true (prtR Y.length fun i => (Y.getD i Prt.zero).rvs)).length fun i => ((listV (3 : Int) true (prtR Y.length fun i => (Y.getD i Prt.zero).rvs)).getD i Con.zero).rvs)).getD i Con.zero).rvs)).length fun i => ((canM (consR (addM (consR (listV (5 : Int) true (prtR X.length fun i => (X.getD i Prt.zero).rvs)).length fun i => ((listV (5 : Int) true (prtR X.length fun i => (X.getD i Prt.zero).rvs)).getD i Con.zero).rvs) (consR (listV (3 : Int) true (prtR Y.length fun i => (Y.getD i Prt.zero).rvs)).length fun i => ((listV (3 : Int) true (prtR Y.length fun i => (Y.getD i Prt.zero).rvs)).getD i Con.zero).rvs)).length fun i => ((addM (consR (listV (5 : Int) true (prtR X.length fun i => (X.getD i Prt.zero).rvs)).length fun i => ((listV (5 : Int) true (prtR X.length fun i => (X.getD i Prt.zero).rvs)).getD i Con.zero).rvs) (consR (listV (3 : Int) true (prtR Y.length fun i => (Y.getD i Prt.zero).rvs)).length fun i => ((listV (3 : Int) true (prtR Y.length fun i => (Y.getD i Prt.zero).rvs)).getD i Con.zero).rvs)).getD i Con.zero).rvs)).getD i Con.zero).rvs) = consR (canM (consR (addM (consR R.length fun i => (R.getD i Con.zero).rvs) (consR (listV (3 : Int) true (prtR Y.length fun i => (Y.getD i Prt.zero).rvs)).length fun i => ((listV (3 : Int) true (prtR Y.length fun i => (Y.getD i Prt.zero).rvs)).getD i Con.zero).rvs)).length fun i => ((addM (consR R.length fun i => (R.getD i Con.zero).rvs) (consR (listV (3 : Int) true (prtR Y.length fun i => (Y.getD i Prt.zero).rvs)).length fun i => ((listV (3 : Int) true (prtR Y.length fun i => (Y.getD i Prt.zero).rvs)).getD i Con.zero).rvs)).getD i Con.zero).rvs)).length fun i => ((canM (consR (addM (consR R.length fun i => (R.getD i Con.zero).rvs) (consR (listV (3 : Int) true (prtR Y.length fun i => (Y.getD i Prt.zero).rvs)).length fun i => ((listV (3 : Int) true (prtR Y.length fun i => (Y.getD i Prt.zero).rvs)).getD i Con.zero).rvs)).length fun i => ((addM (consR R.length fun i => (R.getD i Con.zero).rvs) (consR (listV (3 : Int) true (prtR Y.length fun i => (Y.getD i Prt.zero).rvs)).length fun i => ((listV (3 : Int) true (prtR Y.length fun i => (Y.getD i Prt.zero).rvs)).getD i Con.zero).rvs)).getD i Con.zero).rvs)).getD i Con.zero).rvs) ∧ (canM (consR (addM (consR (listV (5 : Int) true (prtR X.length fun i => (X.getD i Prt.zero).rvs)).length fun i => ((listV (5 : Int) true (prtR X.length fun i => (X.getD i Prt.zero).rvs)).getD i Con.zero).rvs) (consR (listV (3 : Int) true (prtR Y.length fun i => (Y.getD i Prt.zero).rvs)).length fun i => ((listV (3 : Int) true (prtR Y.length fun i => (Y.getD i Prt.zero).rvs)).getD i Con.zero).rvs)).length fun i => ((addM (consR (listV (5 : Int) true (prtR X.length fun i => (X.getD i Prt.zero).rvs)).length fun i => ((listV (5 : Int) true (prtR X.length fun i => (X.getD i Prt.zero).rvs)).getD i Con.zero).rvs) (consR (listV (3 : Int) true (prtR Y.length fun i => (Y.getD i Prt.zero).rvs)).length fun i => ((listV (3 : Int) true (prtR Y.length fun i => (Y.getD i Prt.zero).rvs)).getD i Con.zero).rvs)).getD i Con.zero).rvs)).length ≤ (1000 : Nat), Dec ((0 : Int) == (0 : Int)) true, Dec ((0 : Int) == (0 : Int)) true, Dec true true, Dec true true, Dec true true, Dec true true, (∀ (i : Nat), i < (addM (consR R.length fun i => (R.getD i Con.zero).rvs) (consR (listV (3 : Int) true (prtR Y.length fun i => (Y.getD i Prt.zero).rvs)).length fun i => ((listV (3 : Int) true (prtR Y.length fun i => (Y.getD i Prt.zero).rvs)).getD i Con.zero).rvs)).length → (fun i => ((addM (consR R.length fun i => (R.getD i Con.zero).rvs) (consR (listV (3 : Int) true (prtR Y.length fun i => (Y.getD i Prt.zero).rvs)).length fun i => ((listV (3 : Int) true (prtR Y.length fun i => (Y.getD i Prt.zero).rvs)).getD i Con.zero).rvs)).getD i Con.zero).rvs) i = (Con.ofR ((fun i => ((addM (consR R.length fun i => (R.getD i Con.zero).rvs) (consR (listV (3 : Int) true (prtR Y.length fun i => (Y.getD i Prt.zero).rvs)).length fun i => ((listV (3 : Int) true (prtR Y.length fun i => (Y.getD i Prt.zero).rvs)).getD i Con.zero).rvs)).getD i Con.zero).rvs) i)).rvs) ∧ (2 : Int) = (2 : Int) ∧ val2M (2 : Int) (consR (addM (consR R.length fun i => (R.getD i Con.zero).rvs) (consR (listV (3 : Int) true (prtR Y.length fun i => (Y.getD i Prt.zero).rvs)).length fun i => ((listV (3 : Int) true (prtR Y.length fun i => (Y.getD i Prt.zero).rvs)).getD i Con.zero).rvs)).length fun i => ((addM (consR R.length fun i => (R.getD i Con.zero).rvs) (consR (listV (3 : Int) true (prtR Y.length fun i => (Y.getD i Prt.zero).rvs)).length fun i => ((listV (3 : Int) true (prtR Y.length fun i => (Y.getD i Prt.zero).rvs)).getD i Con.zero).rvs)).getD i Con.zero).rvs) = true, (∀ (i : Nat), i < (addM (consR (listV (5 : Int) true (prtR X.length fun i => (X.getD i Prt.zero).rvs)).length fun i => ((listV (5 : Int) true (prtR X.length fun i => (X.getD i Prt.zero).rvs)).getD i Con.zero).rvs) (consR (listV (3 : Int) true (prtR Y.length fun i => (Y.getD i Prt.zero).rvs)).length fun i => ((listV (3 : Int) true (prtR Y.length fun i => (Y.getD i Prt.zero).rvs)).getD i Con.zero).rvs)).length → (fun i => ((addM (consR (listV (5 : Int) true (prtR X.length fun i => (X.getD i Prt.zero).rvs)).length fun i => ((listV (5 : Int) true (prtR X.length fun i => (X.getD i Prt.zero).rvs)).getD i Con.zero).rvs) (consR (listV (3 : Int) true (prtR Y.length fun i => (Y.getD i Prt.zero).rvs)).length fun i => ((listV (3 : Int) true (prtR Y.length fun i => (Y.getD i Prt.zero).rvs)).getD i Con.zero).rvs)).getD i Con.zero).rvs) i = (Con.ofR ((fun i => ((addM (consR (listV (5 : Int) true (prtR X.length fun i => (X.getD i Prt.zero).rvs)).length fun i => ((listV (5 : Int) true (prtR X.length fun i => (X.getD i Prt.zero).rvs)).getD i Con.zero).rvs) (consR (listV (3 : Int) true (prtR Y.length fun i => (Y.getD i Prt.zero).rvs)).length fun i => ((listV (3 : Int) true (prtR Y.length fun i => (Y.getD i Prt.zero).rvs)).getD i Con.zero).rvs)).getD i Con.zero).rvs) i)).rvs) ∧ (2 : Int) = (2 : Int) ∧ val2M (2 : Int) (consR (addM (consR (listV (5 : Int) true (prtR X.length fun i => (X.getD i Prt.zero).rvs)).length fun i => ((listV (5 : Int) true (prtR X.length fun i => (X.getD i Prt.zero).rvs)).getD i Con.zero).rvs) (consR (listV (3 : Int) true (prtR Y.length fun i => (Y.getD i Prt.zero).rvs)).length fun i => ((listV (3 : Int) true (prtR Y.length fun i => (Y.getD i Prt.zero).rvs)).getD i Con.zero).rvs)).length fun i => ((addM (consR (listV (5 : Int) true (prtR X.length fun i => (X.getD i Prt.zero).rvs)).length fun i => ((listV (5 : Int) true (prtR X.length fun i => (X.getD i Prt.zero).rvs)).getD i Con.zero).rvs) (consR (listV (3 : Int) true (prtR Y.length fun i => (Y.getD i Prt.zero).rvs)).length fun i => ((listV (3 : Int) true (prtR Y.length fun i => (Y.getD i Prt.zero).rvs)).getD i Con.zero).rvs)).getD i Con.zero).rvs) = true, (∀ (i : Nat), i < R.length → (fun i => (R.getD i Con.zero).rvs) i = (Con.ofR ((fun i => (R.getD i Con.zero).rvs) i)).rvs) ∧ (∀ (i : Nat), i < (listV (3 : Int) true (prtR Y.length fun i => (Y.getD i Prt.zero).rvs)).length → (fun i => ((listV (3 : Int) true (prtR Y.length fun i => (Y.getD i Prt.zero).rvs)).getD i Con.zero).rvs) i = (Con.ofR ((fun i => ((listV (3 : Int) true (prtR Y.length fun i => (Y.getD i Prt.zero).rvs)).getD i Con.zero).rvs) i)).rvs) ∧ (2 : Int) = (2 : Int) ∧ (2 : Int) = (2 : Int) ∧ val2M (2 : Int) (consR R.length fun i => (R.getD i Con.zero).rvs) = true ∧ val2M (2 : Int) (consR (listV (3 : Int) true (prtR Y.length fun i => (Y.getD i Prt.zero).rvs)).length fun i => ((listV (3 : Int) true (prtR Y.length fun i => (Y.getD i Prt.zero).rvs)).getD i Con.zero).rvs) = true ∧ val2M (2 : Int) (addM (consR R.length fun i => (R.getD i Con.zero).rvs) (consR (listV (3 : Int) true (prtR Y.length fun i => (Y.getD i Prt.zero).rvs)).length fun i => ((listV (3 : Int) true (prtR Y.length fun i => (Y.getD i Prt.zero).rvs)).getD i Con.zero).rvs)) = true, (∀ (i : Nat), i < (listV (5 : Int) true (prtR X.length fun i => (X.getD i Prt.zero).rvs)).length → (fun i => ((listV (5 : Int) true (prtR X.length fun i => (X.getD i Prt.zero).rvs)).getD i Con.zero).rvs) i = (Con.ofR ((fun i => ((listV (5 : Int) true (prtR X.length fun i => (X.getD i Prt.zero).rvs)).getD i Con.zero).rvs) i)).rvs) ∧ (∀ (i : Nat), i < (listV (3 : Int) true (prtR Y.length fun i => (Y.getD i Prt.zero).rvs)).length → (fun i => ((listV (3 : Int) true (prtR Y.length fun i => (Y.getD i Prt.zero).rvs)).getD i Con.zero).rvs) i = (Con.ofR ((fun i => ((listV (3 : Int) true (prtR Y.length fun i => (Y.getD i Prt.zero).rvs)).getD i Con.zero).rvs) i)).rvs) ∧ (2 : Int) = (2 : Int) ∧ (2 : Int) = (2 : Int) ∧ val2M (2 : Int) (consR (listV (5 : Int) true (prtR X.length fun i => (X.getD i Prt.zero).rvs)).length fun i => ((listV (5 : Int) true (prtR X.length fun i => (X.getD i Prt.zero).rvs)).getD i Con.zero).rvs) = true ∧ val2M (2 : Int) (consR (listV (3 : Int) true (prtR Y.length fun i => (Y.getD i Prt.zero).rvs)).length fun i => ((listV (3 : Int) true (prtR Y.length fun i => (Y.getD i Prt.zero).rvs)).getD i Con.zero).rvs) = true ∧ val2M (2 : Int) (addM (consR (listV (5 : Int) true (prtR X.length fun i => (X.getD i Prt.zero).rvs)).length fun i => ((listV (5 : Int) true (prtR X.length fun i => (X.getD i Prt.zero).rvs)).getD i Con.zero).rvs) (consR (listV (3 : Int) true (prtR Y.length fun i => (Y.getD i Prt.zero).rvs)).length fun i => ((listV (3 : Int) true (prtR Y.length fun i => (Y.getD i Prt.zero).rvs)).getD i Con.zero).rvs)) = true, (∀ (i : Nat), i < (canM (consR (listV (5 : Int) true (prtR X.length fun i => (X.getD i Prt.zero).rvs)).length fun i => ((listV (5 : Int) true (prtR X.length fun i => (X.getD i Prt.zero).rvs)).getD i Con.zero).rvs)).length → (fun i => ((canM (consR (listV (5 : Int) true (prtR X.length fun i => (X.getD i Prt.zero).rvs)).length fun i => ((listV (5 : Int) true (prtR X.length fun i => (X.getD i Prt.zero).rvs)).getD i Con.zero).rvs)).getD i Con.zero).rvs) i = (Con.ofR ((fun i => ((canM (consR (listV (5 : Int) true (prtR X.length fun i => (X.getD i Prt.zero).rvs)).length fun i => ((listV (5 : Int) true (prtR X.length fun i => (X.getD i Prt.zero).rvs)).getD i Con.zero).rvs)).getD i Con.zero).rvs) i)).rvs) ∧ (2 : Int) = (2 : Int) ∧ fusM (2 : Int) (consR (canM (consR (listV (5 : Int) true (prtR X.length fun i => (X.getD i Prt.zero).rvs)).length fun i => ((listV (5 : Int) true (prtR X.length fun i => (X.getD i Prt.zero).rvs)).getD i Con.zero).rvs)).length fun i => ((canM (consR (listV (5 : Int) true (prtR X.length fun i => (X.getD i Prt.zero).rvs)).length fun i => ((listV (5 : Int) true (prtR X.length fun i => (X.getD i Prt.zero).rvs)).getD i Con.zero).rvs)).getD i Con.zero).rvs) = true ∧ refM (consR (canM (consR (listV (5 : Int) true (prtR X.length fun i => (X.getD i Prt.zero).rvs)).length fun i => ((listV (5 : Int) true (prtR X.length fun i => (X.getD i Prt.zero).rvs)).getD i Con.zero).rvs)).length fun i => ((canM (consR (listV (5 : Int) true (prtR X.length fun i => (X.getD i Prt.zero).rvs)).length fun i => ((listV (5 : Int) true (prtR X.length fun i => (X.getD i Prt.zero).rvs)).getD i Con.zero).rvs)).getD i Con.zero).rvs) = some R, (∀ (i : Nat), i < (listV (5 : Int) true (prtR X.length fun i => (X.getD i Prt.zero).rvs)).length → (fun i => ((listV (5 : Int) true (prtR X.length fun i => (X.getD i Prt.zero).rvs)).getD i Con.zero).rvs) i = (Con.ofR ((fun i => ((listV (5 : Int) true (prtR X.length fun i => (X.getD i Prt.zero).rvs)).getD i Con.zero).rvs) i)).rvs) ∧ (2 : Int) = (2 : Int) ∧ val2M (2 : Int) (consR (listV (5 : Int) true (prtR X.length fun i => (X.getD i Prt.zero).rvs)).length fun i => ((listV (5 : Int) true (prtR X.length fun i => (X.getD i Prt.zero).rvs)).getD i Con.zero).rvs) = true, (∀ (i : Nat), i < Y.length → (fun i => (Y.getD i Prt.zero).rvs) i = (Prt.ofR ((fun i => (Y.getD i Prt.zero).rvs) i)).rvs) ∧ (∀ (p : Prt), (p ∈ prtR Y.length fun i => (Y.getD i Prt.zero).rvs) → p.ok) ∧ Y.length ≤ (900 : Nat) ∧ (1 : Int) ≤ (3 : Int) ∧ (3 : Int) ≤ (8 : Int), ky = ky, Y.length = Y.length ∧ (fun i => (Y.getD i Prt.zero).rvs) = fun i => (Y.getD i Prt.zero).rvs, (∀ (i : Nat), i < X.length → (fun i => (X.getD i Prt.zero).rvs) i = (Prt.ofR ((fun i => (X.getD i Prt.zero).rvs) i)).rvs) ∧ (∀ (p : Prt), (p ∈ prtR X.length fun i => (X.getD i Prt.zero).rvs) → p.ok) ∧ X.length ≤ (900 : Nat) ∧ (1 : Int) ≤ (5 : Int) ∧ (5 : Int) ≤ (8 : Int), Dec (decide ((↑Y.length : Int) > (20 : Int))) false, Dec (decide ((↑X.length : Int) > (20 : Int))) false] (by kernel_rfl) ⟨?_, rfl, ?_, (by rfl), (by rfl), rfl, rfl, rfl, rfl, ?_, ?_, ?_, ?_, ?_, ?_, ?_, ?_, ?_, ?_, d2, d1⟩))
  all_goals first | (first | (with_reducible rfl) | (with_reducible exact ⟨rfl, rfl⟩) | (simp only [prtR_ro, consR_ro, decide_eq_false_iff_not, gt_iff_lt] at * <;> first | trivial | exact ⟨fun _ _ => rfl, hX, by omega, by decide, by decide⟩ | exact ⟨fun _ _ => rfl, hY, by omega, by decide, by decide⟩ | exact ⟨fun _ _ => rfl, by trivial, hL⟩ | exact ⟨fun _ _ => rfl, by trivial, hLC⟩ | exact ⟨fun _ _ => rfl, by trivial, hRC⟩ | exact ⟨fun _ _ => rfl, by trivial, hf, hr⟩ | exact ⟨fun _ _ => rfl, fun _ _ => rfl, by trivial, by trivial, hL, hC, hLC⟩ | exact ⟨fun _ _ => rfl, fun _ _ => rfl, by trivial, by trivial, hR, hC, hRC⟩ | exact ⟨fun _ _ => rfl, fun _ _ => rfl, by trivial, he, hl⟩ | exact (5 : Nat)))
theorem dim_same : ∀ {L M : List Con}, sameT L M → dimS L = dimS M
  | [], [], _ => rfl
  | [], m :: M, h => absurd h.1 (by simp)
  | l :: L, [], h => absurd h.1 (by simp)
  | l :: L, m :: M, h => by
    have h0 : l.dim = m.dim := by simpa [at_] using (h.2 0 (by simp)).2.2
    have ih := dim_same (L := L) (M := M) ⟨by simpa using h.1, fun k hk => by have := h.2 (k + 1) (by simp; omega); simpa [at_] using this⟩
    simp only [dimS]
    omega
theorem trainSums_pure (kx : Int) (X : List Prt) (ky : Int) (Y : List Prt) (hX : ∀ p ∈ X, p.ok) (hY : ∀ p ∈ Y, p.ok) : PureC Tryz.prog tabs 5 [.agg [.int .u8 kx, roP X], .agg [.int .u8 ky, roP Y]] (.bool true) := by
  have hL := val2_listV (most := 5) (by decide) (by decide) hX
  have hC := val2_listV (most := 3) (by decide) (by decide) hY
  have dL := dm_listV (most := 5) (by decide) (two := true) hX
  have dC := dm_listV (most := 3) (by decide) (two := true) hY
  obtain ⟨a1, a2, a3, a4⟩ := canM_all hL
  obtain ⟨R, hr, _, hR, hF⟩ := ref_some a2 (lg_can hL)
  have dR : dimS R = dimS (listV 5 true X) := by
    have h1 := dim_same (fuseM_same (L := R))
    rw [hF, dim_same a1] at h1
    exact h1.symm
  have hLC := val2_add hL hC (by omega)
  have hRC := val2_add hR hC (by omega)
  refine sums_y kx X ky Y R hX hY hL hC hR a2 hr hLC hRC (sum_alike hL hR hF (val2_asc hC) (val2_okH hC)) ?_
  have := (canM_all hLC).1.1
  have := val2_le hLC
  omega
end Go.Proofs.YtkkmlbhmcdoibaaGreatDoor.S

namespace Go.Proofs.YtkkmlbhmcdoibaaGreatDoor.trainSums
open Go.ChangeShapes Go.WideShapes Go.ChangeAt Go.RowKit Go.Joins Go.Deep
open Go.QfSy (Con RV RRel RsRel FzAt roC Fz Tb TabW PureC)
open S
theorem readable : ∀ t ∈ Tryz.f5.params.toList, Tryz.prog.readableRec t = true ∧ t < Tryz.prog.types.size := by
  have h : (Tryz.f5.params.toList.all fun t => Tryz.prog.readableRec t && Nat.blt t Tryz.prog.types.size) = true := by kernel_rfl
  intro t ht
  have := List.all_eq_true.1 h t ht
  simp only [Bool.and_eq_true] at this
  exact ⟨this.1, Nat.le_of_ble_eq_true this.2⟩
set_option maxRecDepth 100000 in
theorem contract (H : Type) (enc : TypeId × Value → H) (W : World) (base : Nat) (args : Array Value) (ds gs : List (DataW H)) (before : List MemPlace)
    (hval : ∀ (j : Nat) t v, Tryz.f5.params[j]? = some t → args[j]? = some v → Value.okWide Tryz.prog W .any base t v)
    (hW : DataW.Whole enc Tryz.prog Tryz.f5.params.toList Rows.trainSumsSpec.vars false W args.toList ds gs before) (hO : TabW tabs W) :
    Calls Tryz.prog 5 args W fun e W' => ∃ v, e = .returned v ∧ Rows.trainSumsSpec.post enc Tryz.prog Tryz.f5 false true false false W args v W' := by
  have hW' := hW
  obtain ⟨p, q, hA0, hV, rfl, hfz, hnd⟩ := hW
  have hA : DataW.TrodAll enc Tryz.prog W 0 (fun _ => true) true Tryz.f5.params.toList args.toList ds p := hA0
  rw [Tryz.params5] at hA hval
  obtain ⟨v0, vs0, d0, ds0, p0, q0, hargs0, rfl, rfl, h0, r0⟩ := trodAll_cons hA
  obtain ⟨v1, vs1, d1, ds1, p1, q1, hargs1, rfl, rfl, h1, r1⟩ := trodAll_cons r0
  obtain ⟨rfl, rfl, rfl⟩ := trodAll_nil r1
  obtain rfl : args = #[v0, v1] := by cases args; simp_all
  obtain ⟨P0, X0, hr0, hP0, hn0, ho0⟩ := open_symbol symbolTys (hval 0 33 v0 rfl rfl) h0
  obtain ⟨P1, X1, hr1, hP1, hn1, ho1⟩ := open_symbol symbolTys (hval 1 33 v1 rfl rfl) h1
  refine (pure_calls (trainSums_pure P0 X0 P1 X1 ho0 ho1) hO (.cons hr0 (.cons hr1 .nil))).mono fun e W' ⟨he, hb⟩ => ?_
  exact ⟨_, he, law_post laidOut readable rfl Tryz.underlying4 rfl hW' rfl hb⟩
def wArgs : Array Value := #[.agg #[.int .u8 0, .slice none 0 0], .agg #[.int .u8 0, .slice none 0 0]]
theorem laid_met (os : Os) : laidMet Tryz.prog Rows.trainSumsRow.laid ((laidWorld os).forCall (fun _ _ => 0) ⟨#[], wArgs, []⟩).memory :=
  laidMet_of_run' 8 (by kernel_rfl) (by kernel_rfl)
theorem reads (os : Os) {H : Type} (enc : TypeId × Value → H) : ∃ ds places, DataW.whole enc Tryz.prog ((laidWorld os).forCall (fun _ _ => 0) ⟨#[], wArgs, []⟩).memory Tryz.f5.params.toList Rows.trainSumsSpec.vars false wArgs.toList 8 = some (ds, [], places) :=
  ⟨[.agg [.lit (.int .u8 0), .nil], .agg [.lit (.int .u8 0), .nil]], [], by kernel_rfl⟩
set_option maxRecDepth 100000 in
theorem lifted (os : Os) (started : os.Started) (H : Type) (enc : TypeId × Value → H) (F : Stop.Interp) :
    ReturnsInHanded {} Tryz.checked os 5 .any ((OpenSpec.ofChange Rows.trainSumsSpec).preRow enc Tryz.prog Tryz.f5 Rows.trainSumsRow.domain false Rows.trainSumsRow.laid) (((OpenSpec.ofChange Rows.trainSumsSpec).at F).post enc Tryz.prog Tryz.f5 false true false false) := by
  refine returnsInHanded_of_row (C := Tryz.checked) (s := OpenSpec.ofChange Rows.trainSumsSpec) own started (by kernel_rfl) Tryz.func5
    (witness_row_at (enc := enc) (C := Tryz.checked) false (laidWorld os) wArgs rfl (by kernel_rfl) (by kernel_rfl) (by kernel_rfl)
      (OpenSpec.preRow_of_cond 8 (reads os enc).choose_spec.choose_spec (by kernel_rfl) (fun k hk => by cases hk) (by kernel_rfl) (laid_met os))) ?_
  intro W base args ds gs before hval hW _ _ _ hL hS _
  exact contract H enc W base args ds gs before hval hW (tabs_of hL hS)
theorem named : Tryz.prog.funcNamed Rows.trainSumsRow.func = some 5 := by kernel_rfl
theorem facts : joinedFacts Tryz.prog 5 Tryz.f5 (OpenSpec.ofChange Rows.trainSumsSpec).bare Rows.trainSumsRow = true := by kernel_rfl
theorem inst : Tryz.f5.isInstance Tryz.prog Rows.trainSumsRow.origin Rows.trainSumsRow.targs := of_decide_eq_true (by kernel_rfl)
theorem wrap : Tryz.f5.isWrapper Tryz.prog Rows.trainSumsRow.wrapper Rows.trainSumsRow.mainSum := by
  unfold Func.isWrapper; first | (rw [if_pos (by decide +kernel)]; kernel_rfl) | (rw [if_neg (by decide +kernel)]; exact ⟨rfl, rfl⟩)
theorem said : Rows.TrainSumsSaid :=
  OpenClaim.holds_of_cond 5 Tryz.f5 rfl rfl rfl rfl rfl rfl rfl ⟨rfl, rfl, rfl, rfl, rfl⟩ rfl rfl rfl rfl rfl named Tryz.func5 facts inst wrap
    (fun os started H enc _ F => by rw [OpenClaim.pre_eq_preRow]; exact lifted os started H enc F)
end Go.Proofs.YtkkmlbhmcdoibaaGreatDoor.trainSums

namespace Go.Proofs.YtkkmlbhmcdoibaaGreatDoor.trainSums
open Go.ChangeShapes Go.WideShapes Go.ChangeAt Go.RowKit Go.Joins Go.Deep
theorem stands : (Tryz.f5.params.toList.all fun t => !Tryz.prog.wantsStandIn t) = true := by kernel_rfl
theorem looks : false = Tryz.prog.looks [] := by kernel_rfl
theorem plain (f : FuncId) (fn : Func) (hf : Tryz.pinned.checked.prog.funcNamed "quadform/quadformlaw27.TrainSums" = some f) (hfn : Tryz.pinned.checked.prog.funcs[f]? = some fn) :
    false = Tryz.pinned.checked.prog.looks [] ∧ ∀ (j : Nat) t, fn.params[j]? = some t → Tryz.pinned.checked.prog.wantsStandIn t = false := by
  obtain rfl : f = 5 := Option.some.inj (named.symm.trans hf) |>.symm
  obtain rfl : fn = Tryz.f5 := (Option.some.inj (Tryz.func5.symm.trans hfn)).symm
  refine ⟨looks, fun j t ht => ?_⟩
  have := List.all_eq_true.1 stands t (by simpa using Array.mem_of_getElem? ht)
  exact (by simpa using this : Tryz.prog.wantsStandIn t = false)
theorem holds : Rows.TrainSumsCardSaid :=
  Claim7.holds_tied_plain_at .later [] _ _ _ _ said (fun _ h => by cases h) (by kernel_rfl) (fun _ h => by cases h) trainSums_row_tie rfl ⟨rfl, rfl⟩ (by kernel_rfl) rfl plain (by kernel_rfl)
end Go.Proofs.YtkkmlbhmcdoibaaGreatDoor.trainSums

