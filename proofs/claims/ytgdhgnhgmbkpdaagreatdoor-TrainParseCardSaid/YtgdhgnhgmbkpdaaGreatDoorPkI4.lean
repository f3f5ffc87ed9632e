/- A part of the proof of TiedTrainParse: RX, RY, NB, NC, ND, PO, RZ, NE, Y5, LN, CardTrainParse, TiedTrainParse. -/
import Derived.Test.YtgdhgnhgmbkpdaaGreatDoorPkI3
import Derived.Test.YtgdhgnhgmbkpdaaGreatDoorPkIM3
import Derived.Test.YtgdhgnhgmbkpdaaGreatDoorPkI1
import Derived.Test.YtgdhgnhgmbkpdaaGreatDoorPkI2
import Derived.ChangeMaps5
set_option linter.unusedSimpArgs false
set_option linter.unusedVariables false
set_option maxRecDepth 100000
namespace Go.Proofs.YtgdhgnhgmbkpdaaGreatDoor.S
open Go.QfSy Go.RowKit
def nxV (s : ByteArray) (a : Int) : Int := bif decide (a < (s.size : Int)) then ((s[a.toNat]?.getD 0).toNat : Int) else 0
def skA (s : ByteArray) (b a : Int) : Int := bif nxV s a == b then a + 1 else a
def skB (s : ByteArray) (b a : Int) (f : Bool) : Bool := bif nxV s a == b then f else true
def skp (s : ByteArray) (b : Int) (t : Int × Bool) : Int × Bool := (skA s b t.1, skB s b t.1 t.2)
def digQ (s : ByteArray) (a : Int) : Bool := decide (48 ≤ nxV s a) && decide (nxV s a ≤ 57)
def numG (s : ByteArray) : Nat → Int → Int → Int × Int
  | 0, n, a => (n, a)
  | k + 1, n, a => bif digQ s a then numG s k (10 * n + (nxV s a - 48)) (a + 1) else (n, a)
def numV (s : ByteArray) (a : Int) : Int := (numG s 9 0 a).1
def numE (s : ByteArray) (a : Int) : Int := (numG s 9 0 a).2
def numB (s : ByteArray) (a : Int) (f : Bool) : Bool := bif numE s a == a then true else f
def numS (s : ByteArray) (t : Int × Bool) : Int × Bool := (numE s t.1, numB s t.1 t.2)
def sgT (s : ByteArray) (t : Int × Bool) : Int × Bool := bif nxV s t.1 == 45 then skp s 45 t else skp s 43 t
def sgN (s : ByteArray) (t : Int × Bool) : Int := bif nxV s t.1 == 45 then -1 else 1
def t0 (s : ByteArray) (t : Int × Bool) : Int × Bool := skp s 32 t
def t1 (s : ByteArray) (t : Int × Bool) : Int × Bool := skp s 94 (numS s (t0 s t))
def t2 (s : ByteArray) (t : Int × Bool) : Int × Bool := sgT s (t1 s t)
def t3 (s : ByteArray) (t : Int × Bool) : Int × Bool := numS s (t2 s t)
def t4 (s : ByteArray) (t : Int × Bool) : Int × Bool := skp s 95 (t3 s t)
def evQ (s : ByteArray) (t : Int × Bool) : Bool := nxV s (t4 s t).1 == 73
def rdC (s : ByteArray) (p : Int) (t : Int × Bool) : Con :=
  ⟨numV s (t0 s t).1, numV s (t2 s t).1, sgN s (t1 s t), (p == 2) && !evQ s t, bif (p == 2) && !evQ s t then numV s (t4 s t).1 else 0⟩
def rdE (s : ByteArray) (p : Int) (t : Int × Bool) : Int × Bool :=
  bif p == 2 then bif evQ s t then skp s 73 (skp s 73 (t4 s t)) else numS s (t4 s t) else t3 s t
def rdL (s : ByteArray) (p : Int) : Nat → List Con → Int × Bool → List Con × (Int × Bool)
  | 0, L, t => (L, t)
  | k + 1, L, t => bif !t.2 && decide (t.1 < (s.size : Int)) then rdL s p k (L ++ [rdC s p t]) (rdE s p t) else (L, t)
def rdP (s : ByteArray) : Int := numV s 0
def rdT (s : ByteArray) : List Con × (Int × Bool) := rdL s (rdP s) (s.size + 2) [] (skp s 58 (numS s (0, false)))
theorem sz_app {s : ByteArray} {l : List UInt8} (h : s.data.toList = l) : s.size = l.length := by rw [← h]; rfl
theorem at_app {s : ByteArray} {A B : List UInt8} {x : UInt8} (h : s.data.toList = A ++ x :: B) : s[A.length]? = some x := by
  obtain ⟨⟨l⟩⟩ := s
  have h : l = A ++ x :: B := h
  subst h
  have hl : A.length < (ByteArray.mk ⟨A ++ x :: B⟩).size := by
    show A.length < (A ++ x :: B).length
    simp
  rw [getElem?_pos (ByteArray.mk ⟨A ++ x :: B⟩) A.length hl]
  show some ((A ++ x :: B)[A.length]'(by simp)) = _
  simp
theorem nx_app {s : ByteArray} {A B : List UInt8} {x : UInt8} (h : s.data.toList = A ++ x :: B) : nxV s A.length = (x.toNat : Int) := by
  have hs := sz_app h
  unfold nxV
  rw [decide_eq_true (by rw [hs]; simp; omega)]
  simp only [cond_true]
  have e : ((A.length : Int)).toNat = A.length := by omega
  rw [e, at_app h]
  rfl
theorem nx_end {s : ByteArray} {A : List UInt8} (h : s.data.toList = A) : nxV s A.length = 0 := by
  unfold nxV
  rw [decide_eq_false (by rw [sz_app h]; omega)]
  rfl
def stopD (B : List UInt8) : Prop := ∀ c r, B = c :: r → c.toNat < 48 ∨ 57 < c.toNat
theorem nx_stop {s : ByteArray} {A B : List UInt8} (h : s.data.toList = A ++ B) (hB : stopD B) : digQ s A.length = false := by
  unfold digQ
  cases B with
  | nil => rw [nx_end (by simpa using h)]; rfl
  | cons c r =>
    rw [nx_app h]
    rcases hB c r rfl with h | h
    · rw [decide_eq_false (by omega)]; rfl
    · rw [decide_eq_false (p := (c.toNat : Int) ≤ 57) (by omega)]; simp
theorem num_digits {s : ByteArray} : ∀ (ds : List UInt8) (k acc m : Nat) (A B : List UInt8), s.data.toList = A ++ (ds ++ B) → stopD B → Lib.decFrom acc ds = some m → ds.length ≤ k → numG s k acc A.length = ((m : Int), ((A ++ ds).length : Int))
  | [], k, acc, m, A, B, h, hB, hd, hk => by
    cases hd
    have h : s.data.toList = A ++ B := h
    cases k with
    | zero => simp [numG]
    | succ k => rw [numG, nx_stop h hB]; simp
  | c :: r, k, acc, m, A, B, h, hB, hd, hk => by
    have h : s.data.toList = A ++ c :: (r ++ B) := h
    cases k with
    | zero => simp at hk
    | succ k =>
      unfold Lib.decFrom at hd
      split at hd
      · rename_i d hv
        obtain ⟨g1, g2, g3⟩ := Lib.digitVal_eq hv
        have ih := num_digits r k (acc * 10 + d) m (A ++ [c]) B (by rw [h]; simp) hB hd (by simp at hk; omega)
        have e1 : 10 * (acc : Int) + ((c.toNat : Int) - 48) = ((acc * 10 + d : Nat) : Int) := by omega
        have e2 : (A.length : Int) + 1 = ((A ++ [c]).length : Int) := by simp
        have e3 : digQ s A.length = true := by
          unfold digQ
          rw [nx_app h, decide_eq_true (by omega), decide_eq_true (by omega)]; rfl
        rw [numG, e3, cond_true, nx_app h, e1, e2, ih]
        simp
      · cases hd
theorem num_itoa {s : ByteArray} {n : Int} {A B : List UInt8} (h0 : 0 ≤ n) (h1 : n < 10000) (h : s.data.toList = A ++ (Lib.itoa n ++ B)) (hB : stopD B) : numV s A.length = n ∧ ∀ f, numS s ((A.length : Int), f) = (((A ++ Lib.itoa n).length : Int), f) := by
  have hl := dec_len 3 n.toNat (by omega)
  rw [itoa_nat h0] at h ⊢
  have := num_digits (Lib.decDigits n.toNat) 9 0 n.toNat A B h hB (decFrom_dig _) (by omega)
  have this : numG s 9 0 A.length = ((n.toNat : Int), ((A ++ Lib.decDigits n.toNat).length : Int)) := this
  refine ⟨?_, fun f => ?_⟩
  · unfold numV; rw [this]; show (n.toNat : Int) = n; omega
  · unfold numS numB numE
    simp only
    rw [this]
    have hp : 0 < (Lib.decDigits n.toNat).length := List.length_pos_iff.2 (dec_ne _)
    have : (((A ++ Lib.decDigits n.toNat).length : Int) == (A.length : Int)) = false := by
      rw [beq_eq_false_iff_ne]; simp; omega
    rw [this]
    rfl
theorem skp_app {s : ByteArray} {A B : List UInt8} {x : UInt8} {b : Int} (h : s.data.toList = A ++ x :: B) (hb : (x.toNat : Int) = b) (f : Bool) : skp s b ((A.length : Int), f) = (((A ++ [x]).length : Int), f) := by
  unfold skp skA skB
  simp only
  rw [nx_app h, hb, beq_self_eq_true]
  simp
theorem stop_of {x : UInt8} (B : List UInt8) (h : x.toNat < 48 ∨ 57 < x.toNat) : stopD (x :: B) := by
  rintro c r e
  cases e
  exact h
theorem sg_byte (c : Con) (hs : c.sign = 1 ∨ c.sign = -1) : ((sgB8 c).toNat : Int) = (bif c.sign == -1 then 45 else 43) ∧ c.sign = (bif c.sign == -1 then -1 else 1) := by
  unfold sgB8
  rcases hs with h | h <;> rw [h] <;> exact ⟨rfl, rfl⟩
theorem read_head {s : ByteArray} {c : Con} {A B : List UInt8} (hc : 0 ≤ c.exp ∧ c.exp ≤ 60 ∧ 1 ≤ c.dim ∧ c.dim ≤ 8) (hs : c.sign = 1 ∨ c.sign = -1) (h : s.data.toList = A ++ (32 :: wL c ++ B)) (hB : stopD B) :
    numV s (t0 s ((A.length : Int), false)).1 = c.exp ∧ numV s (t2 s ((A.length : Int), false)).1 = c.dim ∧ sgN s (t1 s ((A.length : Int), false)) = c.sign ∧ t3 s ((A.length : Int), false) = (((A ++ (32 :: wL c)).length : Int), false) := by
  unfold wL at h ⊢
  have h0 : s.data.toList = A ++ 32 :: (Lib.itoa c.exp ++ 94 :: sgB8 c :: Lib.itoa c.dim ++ B) := h
  have h1 : s.data.toList = (A ++ [32]) ++ (Lib.itoa c.exp ++ (94 :: sgB8 c :: (Lib.itoa c.dim ++ B))) := by rw [h0]; simp
  have h2 : s.data.toList = (A ++ [32] ++ Lib.itoa c.exp) ++ 94 :: (sgB8 c :: (Lib.itoa c.dim ++ B)) := by rw [h0]; simp
  have h3 : s.data.toList = (A ++ [32] ++ Lib.itoa c.exp ++ [94]) ++ sgB8 c :: (Lib.itoa c.dim ++ B) := by rw [h0]; simp
  have h4 : s.data.toList = (A ++ [32] ++ Lib.itoa c.exp ++ [94] ++ [sgB8 c]) ++ (Lib.itoa c.dim ++ B) := by rw [h0]; simp
  have e0 : t0 s ((A.length : Int), false) = (((A ++ [32]).length : Int), false) := skp_app h0 rfl false
  obtain ⟨n1, n2⟩ := num_itoa hc.1 (by omega) h1 (stop_of _ (.inr (by decide)))
  have e1 : t1 s ((A.length : Int), false) = (((A ++ [32] ++ Lib.itoa c.exp ++ [94]).length : Int), false) := by
    unfold t1; rw [e0, n2, skp_app (b := 94) h2 rfl]
  obtain ⟨g1, g2⟩ := sg_byte c hs
  have e2 : t2 s ((A.length : Int), false) = (((A ++ [32] ++ Lib.itoa c.exp ++ [94] ++ [sgB8 c]).length : Int), false) := by
    unfold t2 sgT
    rw [e1]
    simp only
    rw [nx_app h3, g1]
    cases hq : c.sign == -1 with
    | true => rw [hq] at g1; exact skp_app h3 g1 false
    | false => rw [hq] at g1; exact skp_app h3 g1 false
  obtain ⟨m1, m2⟩ := num_itoa (n := c.dim) (by omega) (by omega) h4 hB
  refine ⟨by rw [e0]; exact n1, by rw [e2]; exact m1, ?_, ?_⟩
  · unfold sgN
    rw [e1]
    simp only
    rw [nx_app h3, g1, g2]
    cases hq : c.sign == -1 <;> rfl
  · unfold t3
    rw [e2, m2]
    simp
theorem read_con2 {s : ByteArray} {c : Con} {A B : List UInt8} (hc : okD c) (hs : c.sign = 1 ∨ c.sign = -1) (hz : c.odd = false → c.oddity = 0) (h : s.data.toList = A ++ (32 :: wL2 c ++ B)) (hB : stopD B) :
    rdC s 2 ((A.length : Int), false) = c ∧ rdE s 2 ((A.length : Int), false) = (((A ++ (32 :: wL2 c)).length : Int), false) := by
  obtain ⟨hc, ho1, ho2⟩ := hc
  have e : wL2 c = wL c ++ 95 :: odL c := by unfold wL2 wL; simp
  rw [e] at h ⊢
  have h0 : s.data.toList = A ++ (32 :: wL c ++ 95 :: (odL c ++ B)) := by rw [h]; simp
  have h1 : s.data.toList = (A ++ 32 :: wL c) ++ 95 :: (odL c ++ B) := by rw [h]; simp
  have h2 : s.data.toList = (A ++ 32 :: wL c ++ [95]) ++ (odL c ++ B) := by rw [h]; simp
  obtain ⟨e1, e2, e3, e4⟩ := read_head hc hs h0 (stop_of _ (.inr (by decide)))
  have e5 : t4 s ((A.length : Int), false) = (((A ++ 32 :: wL c ++ [95]).length : Int), false) := by
    unfold t4; rw [e4, skp_app (b := 95) h1 rfl]
  unfold rdC rdE
  rw [e1, e2, e3, e5]
  cases hodd : c.odd with
  | false =>
    have e6 : odL c = [73, 73] := by unfold odL; rw [hodd]; rfl
    rw [e6] at h2 ⊢
    have h2 : s.data.toList = (A ++ 32 :: wL c ++ [95]) ++ 73 :: (73 :: B) := h2
    have h3 : s.data.toList = (A ++ 32 :: wL c ++ [95] ++ [73]) ++ 73 :: B := by rw [h2]; simp
    have e7 : evQ s ((A.length : Int), false) = true := by unfold evQ; rw [e5]; simp only; rw [nx_app h2]; rfl
    rw [e7, skp_app (b := 73) h2 rfl, skp_app (b := 73) h3 rfl]
    have hz0 := hz hodd
    clear hz
    obtain ⟨e, d, sg, o, t⟩ := c
    simp only at hodd hz0
    subst hodd hz0
    refine ⟨rfl, ?_⟩
    simp
  | true =>
    have e6 : odL c = Lib.itoa c.oddity := by unfold odL; rw [hodd]; rfl
    rw [e6] at h2 ⊢
    obtain ⟨m1, m2⟩ := num_itoa ho1 (by omega) h2 hB
    have e7 : evQ s ((A.length : Int), false) = false := by
      unfold evQ
      rw [e5]
      simp only
      cases hd : Lib.itoa c.oddity with
      | nil => rw [itoa_nat ho1] at hd; exact absurd hd (dec_ne _)
      | cons x r =>
        have hx : x ∈ Lib.itoa c.oddity := by rw [hd]; exact List.mem_cons_self
        rw [itoa_nat ho1] at hx
        have := dec_bytes _ x hx
        rw [hd] at h2
        have h2 : s.data.toList = (A ++ 32 :: wL c ++ [95]) ++ x :: (r ++ B) := h2
        rw [nx_app h2, beq_eq_false_iff_ne]
        omega
    rw [e7, m2]
    simp only
    rw [m1]
    obtain ⟨e, d, sg, o, t⟩ := c
    simp only at hodd
    subst hodd
    refine ⟨rfl, ?_⟩
    simp
theorem flat_stop (w : Con → List UInt8) (l : List Con) : stopD (l.flatMap fun x => 32 :: w x) := by
  cases l with
  | nil => rintro c r e; cases e
  | cons c l => exact stop_of _ (.inl (by decide))
theorem read_list {s : ByteArray} {p : Int} {w : Con → List UInt8} : ∀ (l : List Con) (k : Nat) (L : List Con) (A : List UInt8), (∀ c ∈ l, ∀ A B, s.data.toList = A ++ (32 :: w c ++ B) → stopD B → rdC s p ((A.length : Int), false) = c ∧ rdE s p ((A.length : Int), false) = (((A ++ (32 :: w c)).length : Int), false)) →
    s.data.toList = A ++ (l.flatMap fun x => 32 :: w x) → l.length ≤ k → rdL s p k L ((A.length : Int), false) = (L ++ l, ((s.size : Int), false))
  | [], k, L, A, hw, h, hk => by
    have h : s.data.toList = A := by rw [h]; simp
    have hs := sz_app h
    cases k with
    | zero => rw [rdL, hs]; simp
    | succ k => rw [rdL, hs]; simp
  | c :: l, k, L, A, hw, h, hk => by
    cases k with
    | zero => simp at hk
    | succ k =>
      have h1 : s.data.toList = A ++ (32 :: w c ++ (l.flatMap fun x => 32 :: w x)) := by rw [h]; simp
      have h2 : s.data.toList = (A ++ 32 :: w c) ++ (l.flatMap fun x => 32 :: w x) := by rw [h]; simp
      obtain ⟨e1, e2⟩ := hw c List.mem_cons_self A _ h1 (flat_stop w l)
      have ih := read_list l k (L ++ [c]) (A ++ 32 :: w c) (fun x hx => hw x (List.mem_cons_of_mem _ hx)) h2 (by simpa using hk)
      have hs := sz_app h1
      have hd : decide ((A.length : Int) < (s.size : Int)) = true := decide_eq_true (by rw [hs]; simp; omega)
      rw [rdL, hd, e1, e2, ih]
      simp
theorem read_txT {L : List Con} (h : shV 2 L = true) : rdP (txT L) = 2 ∧ rdT (txT L) = (L, (((txT L).size : Int), false)) := by
  obtain ⟨-, hd, hn⟩ := sh_bounds h
  have h0 : (txT L).data.toList = [] ++ (Lib.itoa 2 ++ (58 :: (L.flatMap fun x => 32 :: wL2 x))) := by
    unfold txT
    rw [txB2_list, itoa_nat (by decide)]
    have : Lib.decDigits (2 : Int).toNat = [50] := by rw [Lib.decDigits, dif_pos (by decide)]; rfl
    rw [this]
    rfl
  obtain ⟨n1, n2⟩ := num_itoa (by decide) (by decide) h0 (stop_of _ (.inr (by decide)))
  have h1 : (txT L).data.toList = ([] ++ Lib.itoa 2) ++ 58 :: (L.flatMap fun x => 32 :: wL2 x) := by rw [h0]; simp
  have h2 : (txT L).data.toList = ([] ++ Lib.itoa 2 ++ [58]) ++ (L.flatMap fun x => 32 :: wL2 x) := by rw [h0]; simp
  have n1 : rdP (txT L) = 2 := n1
  refine ⟨n1, ?_⟩
  have hsz : L.length ≤ (txT L).size + 2 := by
    have := congrArg List.length h2
    rw [List.length_append] at this
    have e : ∀ l : List Con, l.length ≤ (l.flatMap fun x => 32 :: wL2 x).length := by
      intro l
      induction l with
      | nil => simp
      | cons c l ih => simp only [List.flatMap_cons, List.length_append, List.length_cons]; omega
    have := e L
    have hs := sz_app h2
    rw [List.length_append] at hs
    omega
  unfold rdT
  rw [n1]
  have n2 := n2 false
  have n2 : numS (txT L) (0, false) = ((([] ++ Lib.itoa 2).length : Int), false) := n2
  rw [n2, skp_app (b := 58) h1 rfl]
  have := read_list (s := txT L) (p := 2) (w := wL2) L ((txT L).size + 2) [] _ (fun c hc A B g1 g2 => read_con2 (hd c hc) (sh_sign h c hc) (sh_even h c hc) g1 g2) h2 hsz
  simpa using this
end Go.Proofs.YtgdhgnhgmbkpdaaGreatDoor.S

namespace Go.Proofs.YtgdhgnhgmbkpdaaGreatDoor.S
open Go.QfSy Go.RowKit
theorem nx_bounds (s : ByteArray) (a : Int) : 0 ≤ nxV s a ∧ nxV s a ≤ 255 := by
  unfold nxV
  cases decide (a < (s.size : Int)) with
  | false => simp only [cond_false]; omega
  | true =>
    have := (s[a.toNat]?.getD 0).toNat_lt
    simp only [cond_true]
    omega
theorem nx_pos {s : ByteArray} {a : Int} (h : nxV s a ≠ 0) : a < (s.size : Int) := by
  unfold nxV at h
  by_cases hd : a < (s.size : Int)
  · exact hd
  · rw [decide_eq_false hd] at h
    exact absurd rfl h
theorem skA_bounds {s : ByteArray} {b a : Int} (hb : b ≠ 0) : a ≤ skA s b a ∧ skA s b a ≤ a + 1 ∧ (a ≤ s.size → skA s b a ≤ s.size) := by
  unfold skA
  by_cases h : nxV s a = b
  · have := nx_pos (s := s) (a := a) (by rw [h]; exact hb)
    rw [beq_iff_eq.2 h]
    simp only [cond_true]
    omega
  · rw [beq_eq_false_iff_ne.2 h]
    simp only [cond_false]
    omega
theorem skB_false {s : ByteArray} {b a : Int} {f : Bool} (h : skB s b a f = false) : f = false ∧ skA s b a = a + 1 := by
  unfold skB at h
  unfold skA
  cases hq : nxV s a == b with
  | true => rw [hq] at h; exact ⟨h, rfl⟩
  | false => rw [hq] at h; cases h
theorem numG_bounds (s : ByteArray) : ∀ (k : Nat) (n a : Int), 0 ≤ n → 0 ≤ (numG s k n a).1 ∧ (numG s k n a).1 < (n + 1) * 10 ^ k ∧ a ≤ (numG s k n a).2 ∧ (a ≤ s.size → (numG s k n a).2 ≤ s.size)
  | 0, n, a, h => by
    simp only [numG]
    refine ⟨h, by omega, Int.le_refl _, fun h => h⟩
  | k + 1, n, a, h => by
    rw [numG]
    cases hq : digQ s a with
    | false =>
      simp only [cond_false]
      refine ⟨h, ?_, Int.le_refl _, fun h => h⟩
      have h0 : (0 : Int) < 10 ^ (k + 1) := Int.pow_pos (by decide)
      have h1 : (1 : Int) ≤ 10 ^ (k + 1) := by omega
      have := Int.mul_le_mul_of_nonneg_left h1 (show (0 : Int) ≤ n + 1 by omega)
      omega
    | true =>
      simp only [cond_true]
      unfold digQ at hq
      simp only [Bool.and_eq_true, decide_eq_true_eq] at hq
      have hp := nx_pos (s := s) (a := a) (by omega)
      obtain ⟨g1, g2, g3, g4⟩ := numG_bounds s k (10 * n + (nxV s a - 48)) (a + 1) (by omega)
      refine ⟨g1, ?_, by omega, fun _ => g4 (by omega)⟩
      have h1 : (0 : Int) ≤ 10 ^ k := Int.le_of_lt (Int.pow_pos (by decide))
      have : (10 * n + (nxV s a - 48) + 1) * 10 ^ k ≤ ((n + 1) * 10) * 10 ^ k := Int.mul_le_mul_of_nonneg_right (by omega) h1
      have e : (n + 1) * 10 ^ (k + 1) = ((n + 1) * 10) * 10 ^ k := by rw [Int.pow_succ, Int.mul_assoc, Int.mul_comm 10]
      omega
theorem numE_bounds (s : ByteArray) (a : Int) : a ≤ numE s a ∧ (a ≤ s.size → numE s a ≤ s.size) := by
  obtain ⟨_, _, g3, g4⟩ := numG_bounds s 9 0 a (by decide)
  exact ⟨g3, g4⟩
theorem numB_false {s : ByteArray} {a : Int} {f : Bool} (h : numB s a f = false) : f = false := by
  unfold numB at h
  cases hq : numE s a == a with
  | true => rw [hq] at h; cases h
  | false => rw [hq] at h; exact h
theorem num_lim {n : Int} {k : Nat} (h0 : 0 ≤ n) (h : (n + 1) * 10 ^ k ≤ 1000000000) : n < 1000000000 := by
  have h1 : (0 : Int) < 10 ^ k := Int.pow_pos (by decide)
  have := Int.mul_le_mul_of_nonneg_left (show (1 : Int) ≤ 10 ^ k by omega) (show (0 : Int) ≤ n + 1 by omega)
  omega
theorem num_limS {n d : Int} {k : Nat} (hk : 0 < k) (hd : d ≤ 9) (h : (n + 1) * 10 ^ k ≤ 1000000000) : (10 * n + d + 1) * 10 ^ (k - 1) ≤ 1000000000 := by
  obtain ⟨j, rfl⟩ : ∃ j, k = j + 1 := ⟨k - 1, by omega⟩
  have h1 : (0 : Int) ≤ 10 ^ j := Int.le_of_lt (Int.pow_pos (by decide))
  have : (10 * n + d + 1) * 10 ^ j ≤ ((n + 1) * 10) * 10 ^ j := Int.mul_le_mul_of_nonneg_right (by omega) h1
  have e : (n + 1) * 10 ^ (j + 1) = ((n + 1) * 10) * 10 ^ j := by rw [Int.pow_succ, Int.mul_assoc, Int.mul_comm 10]
  rw [show j + 1 - 1 = j from rfl]
  omega
theorem numG_go {s : ByteArray} {k : Nat} {n a : Int} (hk : 0 < k) (h : digQ s a = true) : numG s k n a = numG s (k - 1) (10 * n + (nxV s a - 48)) (a + 1) := by
  obtain ⟨j, rfl⟩ : ∃ j, k = j + 1 := ⟨k - 1, by omega⟩
  rw [numG, h]
  rfl
theorem numG_stop {s : ByteArray} {k : Nat} {n a : Int} (h : digQ s a = false) : numG s k n a = (n, a) := by
  cases k with
  | zero => rfl
  | succ k => rw [numG, h]; rfl
theorem digQ_of {s : ByteArray} {a : Int} (h1 : nxV s a ≥ 48) (h2 : nxV s a ≤ 57) : digQ s a = true := by
  unfold digQ; rw [decide_eq_true h1, decide_eq_true h2]; rfl
theorem digQ_not {s : ByteArray} {a : Int} (h : ¬ nxV s a ≥ 48 ∨ ¬ nxV s a ≤ 57) : digQ s a = false := by
  unfold digQ
  rcases h with h | h
  · rw [decide_eq_false h]; rfl
  · rw [decide_eq_false h, Bool.and_false]
def goes (s : ByteArray) (t t' : Int × Bool) : Prop := t.1 ≤ t'.1 ∧ (t.1 ≤ s.size → t'.1 ≤ s.size) ∧ (t'.2 = false → t.2 = false)
theorem goes.trans {s : ByteArray} {t t' t'' : Int × Bool} (h : goes s t t') (h' : goes s t' t'') : goes s t t'' :=
  ⟨Int.le_trans h.1 h'.1, fun g => h'.2.1 (h.2.1 g), fun g => h.2.2 (h'.2.2 g)⟩
theorem skp_goes {s : ByteArray} {b : Int} (t : Int × Bool) (hb : b ≠ 0) : goes s t (skp s b t) :=
  ⟨(skA_bounds hb).1, (skA_bounds hb).2.2, fun h => (skB_false h).1⟩
theorem numS_goes {s : ByteArray} (t : Int × Bool) : goes s t (numS s t) :=
  ⟨(numE_bounds s t.1).1, (numE_bounds s t.1).2, fun h => numB_false h⟩
theorem sgT_goes {s : ByteArray} (t : Int × Bool) : goes s t (sgT s t) := by
  unfold sgT
  cases nxV s t.1 == 45
  · exact skp_goes t (by decide)
  · exact skp_goes t (by decide)
theorem t1_goes (s : ByteArray) (t : Int × Bool) : goes s (t0 s t) (t1 s t) := (numS_goes _).trans (skp_goes _ (by decide))
theorem t3_goes (s : ByteArray) (t : Int × Bool) : goes s (t0 s t) (t3 s t) := ((t1_goes s t).trans (sgT_goes _)).trans (numS_goes _)
theorem t4_goes (s : ByteArray) (t : Int × Bool) : goes s (t0 s t) (t4 s t) := (t3_goes s t).trans (skp_goes _ (by decide))
theorem rdE_goes0 (s : ByteArray) (p : Int) (t : Int × Bool) : goes s (t0 s t) (rdE s p t) := by
  unfold rdE
  cases p == 2
  · exact t3_goes s t
  · cases evQ s t
    · exact (t4_goes s t).trans (numS_goes _)
    · exact ((t4_goes s t).trans (skp_goes _ (by decide))).trans (skp_goes _ (by decide))
theorem rdE_goes (s : ByteArray) (p : Int) (t : Int × Bool) : goes s t (rdE s p t) := (skp_goes t (by decide)).trans (rdE_goes0 s p t)
theorem rdE_step {s : ByteArray} {p : Int} {t : Int × Bool} (h : (rdE s p t).2 = false) : t.1 + 1 ≤ (rdE s p t).1 := by
  have h0 := rdE_goes0 s p t
  have h1 : (t0 s t).2 = false := h0.2.2 h
  have h2 : (t0 s t).1 = t.1 + 1 := (skB_false h1).2
  have := h0.1
  omega
theorem rdL_go {s : ByteArray} {p a : Int} {f : Bool} {k : Nat} {L : List Con} (hf : f = false) (ha : a < (s.size : Int)) (hk : 0 < k) : rdL s p k L (a, f) = rdL s p (k - 1) (L ++ [rdC s p (a, f)]) (rdE s p (a, f)) := by
  obtain ⟨j, rfl⟩ : ∃ j, k = j + 1 := ⟨k - 1, by omega⟩
  subst hf
  rw [rdL, decide_eq_true ha]
  rfl
theorem rdL_end {s : ByteArray} {p a : Int} {f : Bool} {k : Nat} {L : List Con} (h : f = true ∨ ¬ a < (s.size : Int)) : rdL s p k L (a, f) = (L, (a, f)) := by
  cases k with
  | zero => rfl
  | succ k =>
    rw [rdL]
    rcases h with h | h
    · subst h; rfl
    · rw [decide_eq_false h, Bool.and_false]; rfl
def rdFin (s : ByteArray) (p : Int) (t : Int × Bool) : List Con × (Int × Bool) := rdL s p (s.size + 2) [] t
structure RdI (s : ByteArray) (p : Int) (t : Int × Bool) (k : Nat) (a : Int) (f : Bool) (L : List Con) : Prop where
  fin : rdL s p k L (a, f) = rdFin s p t
  fuel : f = false → (s.size : Int) - a + 1 ≤ k
  lo : 0 ≤ a
  hi : a ≤ s.size
  len : (L.length : Int) ≤ a + 1
  len0 : f = false → (L.length : Int) ≤ a
theorem RdI.step {s : ByteArray} {p : Int} {t : Int × Bool} {k : Nat} {a : Int} {f : Bool} {L : List Con} (h : RdI s p t k a f L) (hf : f = false) (ha : a < (s.size : Int)) : RdI s p t (k - 1) (rdE s p (a, f)).1 (rdE s p (a, f)).2 (L ++ [rdC s p (a, f)]) ∧ 0 < k := by
  have hk := h.fuel hf
  have h1 := h.len0 hf
  have hlo := h.lo
  have hhi := h.hi
  obtain ⟨g1, g2, _⟩ := rdE_goes s p (a, f)
  have g1 : a ≤ (rdE s p (a, f)).1 := g1
  refine ⟨⟨?_, fun h2 => ?_, by omega, g2 hhi, ?_, fun h2 => ?_⟩, by omega⟩
  · have := h.fin
    rw [rdL_go hf ha (by omega)] at this
    exact this
  · have h3 : a + 1 ≤ (rdE s p (a, f)).1 := rdE_step h2
    omega
  · rw [List.length_append, List.length_singleton]; omega
  · have h3 : a + 1 ≤ (rdE s p (a, f)).1 := rdE_step h2
    rw [List.length_append, List.length_singleton]; omega
theorem RdI.done {s : ByteArray} {p : Int} {t : Int × Bool} {k : Nat} {a : Int} {f : Bool} {L : List Con} (h : RdI s p t k a f L) (he : f = true ∨ ¬ a < (s.size : Int)) : (rdFin s p t).1 = L ∧ (rdFin s p t).2.1 = a ∧ (rdFin s p t).2.2 = f := by
  rw [← h.fin, rdL_end he]
  exact ⟨rfl, rfl, rfl⟩
theorem RdI.start {s : ByteArray} {p a : Int} {f : Bool} (h0 : 0 ≤ a) (h1 : a ≤ (s.size : Int)) : RdI s p (a, f) (s.size + 2) a f [] := by
  refine ⟨rfl, fun _ => by omega, h0, h1, ?_, fun _ => ?_⟩
  · show ((0 : Nat) : Int) ≤ _; omega
  · show ((0 : Nat) : Int) ≤ _; omega
end Go.Proofs.YtgdhgnhgmbkpdaaGreatDoor.S

namespace Go.Proofs.YtgdhgnhgmbkpdaaGreatDoor.S
open Go.QfSy Go.RowKit
def rV (s : ByteArray) (a : Int) (f : Bool) : List RV := [.str s, .int .i64 a, .bool f]
attribute [local irreducible] nxV skA skB numV numE numB
theorem next_ptr (s : ByteArray) (a : Int) (f : Bool) (hs : s.size ≤ 1000) (h0 : 0 ≤ a) : PtrC Tryz.prog 97 103 ((rV s a f)) [] (.int .u8 (nxV s a)) ((rV s a f)) := by
  have rr := fun (tp : List Bool) (ms : List Prop) h hm => ptr_of_run evOk (callF_ok evOk (noOrc_ok _ _) 8) Tryz.func103 (A := []) (V := (rV s a f)) (V' := (rV s a f)) (el := 97) (N := Nat.max 1 Tryz.f103.ntmps) rfl none_ann evNg (R := .int .u8 (nxV s a)) (tp := tp) (ms := ms) h hm
  refine oe (decide (a ≥ (↑s.size : Int))) (fun d1 => rr [true] [(0 : Int) = nxV s a, s = s, a = a, f = f, Dec (decide (a ≥ (↑s.size : Int))) true] (by kernel_rfl) ⟨?_, ?_, ?_, ?_, d1⟩) (fun d1 => rr [false] [(↑(s[a.toNat]?.getD (0 : UInt8)).toNat : Int) = nxV s a, s = s, a = a, f = f, (0 : Int) ≤ a ∧ a.toNat < s.size, Dec (decide (a ≥ (↑s.size : Int))) false] (by kernel_rfl) ⟨?_, ?_, ?_, ?_, ?_, d1⟩)
  all_goals first | (first | (with_reducible rfl) | (simp only [decide_eq_true_eq] at d1; unfold nxV; rw [decide_eq_false (by omega)]; rfl) | (simp only [decide_eq_false_iff_not] at d1; first | omega | (unfold nxV; rw [decide_eq_true (by omega)]; rfl)))
def nextGo (V A : List RV) : Option (RV × List RV × List Prop) := match V, A with
  | [.str s, .int .i64 a, .bool f], [] => some (.int .u8 (nxV s a), rV s a f, [s.size ≤ 1000 ∧ 0 ≤ a])
  | _, _ => none
theorem nextGo_ok : ∀ V A R V' ms, nextGo V A = some (R, V', ms) → (∀ p ∈ ms, p) → PtrC Tryz.prog 97 103 V A R V' := by
  intro V A R V' ms h hm
  unfold nextGo at h
  split at h
  · cases h
    obtain ⟨h1, h2⟩ := all_one hm
    exact next_ptr _ _ _ h1 h2
  · cases h
noncomputable def nextOrc : CallF := orcP 97 103 nextGo noOrc
theorem nextOrc_ok : CallOk Tryz.prog EV.ng nextOrc := orcP_ok nextGo_ok (noOrc_ok _ _)
theorem skip_ptr (s : ByteArray) (a : Int) (f : Bool) (b : Int) (hs : s.size ≤ 1000) (h0 : 0 ≤ a) (h1 : a ≤ 1000) : PtrC Tryz.prog 97 67 ((rV s a f)) [.int .u8 b] (.tup []) ((rV s (skA s b a) (skB s b a f))) := by
  have rr := fun (tp : List Bool) (ms : List Prop) h hm => ptr_of_run evOk (callF_ok evOk nextOrc_ok 8) Tryz.func67 (A := [.int .u8 b]) (V := (rV s a f)) (V' := (rV s (skA s b a) (skB s b a f))) (el := 97) (N := Nat.max 2 Tryz.f67.ntmps) rfl none_ann evNg (R := .tup []) (tp := tp) (ms := ms) h hm
  refine oe (nxV s a == b) (fun d1 => rr [false] [s = s, IntKind.i64.wrap (a + 1) = skA s b a, f = skB s b a f, Dec (nxV s a != b) false, s.size ≤ (1000 : Nat) ∧ (0 : Int) ≤ a] (by kernel_rfl) ⟨?_, ?_, ?_, (dN d1), (?_ : s.size ≤ (1000 : Nat) ∧ (0 : Int) ≤ a)⟩) (fun d1 => rr [true] [s = s, a = skA s b a, true = skB s b a f, Dec (nxV s a != b) true, s.size ≤ (1000 : Nat) ∧ (0 : Int) ≤ a] (by kernel_rfl) ⟨?_, ?_, ?_, (dN d1), (?_ : s.size ≤ (1000 : Nat) ∧ (0 : Int) ≤ a)⟩)
  all_goals first | (first | (with_reducible rfl) | omega | (unfold skA; rw [d1]; rfl) | (unfold skB; rw [d1]; rfl) | (unfold skA; rw [d1, w64 (by omega) (by omega)]; rfl))
noncomputable def rdB (s : ByteArray) (a : Int) (f : Bool) : List (Nat × Blk) := [(1000, ⟨.plain [.vstr s, .vint .i64 a, .vbool f], 97, 0, false, true⟩)]
noncomputable def nmAnn (s : ByteArray) (a : Int) (f : Bool) : Ann := ⟨⟨[(0, .ptr 1000 0), (3, .int .i64 0), (4, .vint .i64 a)], rdB s a f, 1100⟩, none, fun _ => (.exit 0, ⟨[(0, .ptr 1000 0), (3, .vint .i64 (numV s a)), (4, .vint .i64 a)], rdB s (numE s a) f, 1100⟩)⟩
theorem dig_wrap8 {c : Int} (h0 : 48 ≤ c) (h1 : c ≤ 57) : IntKind.u8.wrap (c - 48) = c - 48 := by
  unfold IntKind.wrap
  simp [IntKind.bits, IntKind.signed]
  omega
theorem num_wrap {n c : Int} (h0 : 0 ≤ n) (h1 : n < 1000000000) (h2 : 48 ≤ c) (h3 : c ≤ 57) : IntKind.i64.wrap (IntKind.i64.wrap ((10 : Int) * n) + IntKind.i64.wrap (IntKind.u8.wrap (c - (48 : Int)))) = 10 * n + (c - 48) := by
  have e1 : IntKind.i64.wrap ((10 : Int) * n) = 10 * n := w64 (by omega) (by omega)
  have e2 : IntKind.i64.wrap (c - 48) = c - 48 := w64 (by omega) (by omega)
  rw [dig_wrap8 h2 h3, e1, e2]
  exact w64 (by omega) (by omega)
theorem num_end {s : ByteArray} {k : Nat} {n a a0 : Int} (g : numG s k n a = numG s 9 0 a0) (h : digQ s a = false ∨ k = 0) : n = numV s a0 ∧ a = numE s a0 := by
  have e : numG s k n a = (n, a) := by
    rcases h with h | h
    · exact numG_stop h
    · rw [h]; rfl
  rw [e] at g
  unfold numV numE
  rw [← g]
  exact ⟨rfl, rfl⟩
theorem nm_loop (s : ByteArray) (a : Int) (f : Bool) (hs : s.size ≤ 1000) (h0 : 0 ≤ a) (h1 : a ≤ 1000) : AnnOk Tryz.prog EV.ng (Nat.max 1 Tryz.f66.ntmps) (bodyAt Tryz.f66 [0, 0, 1, 1]) (nmAnn s a f) := by
  refine ann_of evOk (callF_ok evOk nextOrc_ok 8) none_ann (by kernel_rfl) (by kernel_rfl) (fun i : Nat × Int × Int => (fun (q : Nat × Int × Int) => (⟨[(0, .ptr 1000 0), (3, .vint .i64 q.2.1), (4, .vint .i64 a)], rdB s q.2.2 f, 1100⟩ : St)) i) (fun i : Nat × Int × Int => (fun (q : Nat × Int × Int) => (q.1 : Nat)) i) (fun (d : Bool) (i : Nat × Int × Int) => (fun (q : Nat × Int × Int) => (numG s q.1 q.2.1 q.2.2 = numG s 9 0 a ∧ q.1 ≤ 9 ∧ q.2.2 = a + (9 - (q.1 : Int)) ∧ 0 ≤ q.2.1 ∧ (q.2.1 + 1) * 10 ^ q.1 ≤ 1000000000 : Prop)) i) ?_ ?_
  · intro d hd
    exact ⟨((9, 0, a)), [(0 : Int) = ((0 : Int), a).fst, a = a, s = s, a = ((0 : Int), a).snd, f = f], by kernel_rfl, (by refine ⟨?_, ?_, ?_, ?_, (?_ : f = f)⟩ <;> (first | rfl | assumption | omega | simp_all)), (by exact ⟨rfl, Nat.le_refl 9, (by show a = a + (9 - ((9 : Nat) : Int)); omega), Int.le_refl 0, (by show ((0 : Int) + 1) * 10 ^ 9 ≤ 1000000000; decide)⟩)⟩
  · rintro d hd q hI
    cases d
    · -- d = false
      obtain ⟨g1, g2, g3, g4, g5⟩ := hI; have g6 := num_lim g4 g5; have g7 := nx_bounds s q.2.2
      refine oe (decide (nxV s q.snd.snd ≥ 48)) (fun d1 => oe (decide (nxV s q.snd.snd ≤ 57)) (fun d2 => oe (decide (IntKind.i64.wrap (q.snd.snd - a) < 9)) (fun d3 => ⟨[true, true, true], .inl ⟨((q.1 - 1, 10 * q.2.1 + (nxV s q.2.2 - 48), q.2.2 + 1)), [IntKind.i64.wrap (IntKind.i64.wrap ((10 : Int) * q.snd.fst) + IntKind.i64.wrap (IntKind.u8.wrap (nxV s q.snd.snd - 48))) = ((10 : Int) * q.snd.fst + (nxV s q.snd.snd - 48), q.snd.snd + 1).fst, a = a, s = s, IntKind.i64.wrap (q.snd.snd + 1) = ((10 : Int) * q.snd.fst + (nxV s q.snd.snd - 48), q.snd.snd + 1).snd, f = f, s.size ≤ (1000 : Nat) ∧ (0 : Int) ≤ q.snd.snd, Dec (decide (IntKind.i64.wrap (q.snd.snd - a) < 9)) true, Dec (decide (nxV s q.snd.snd ≤ 57)) true, s.size ≤ (1000 : Nat) ∧ (0 : Int) ≤ q.snd.snd, Dec (decide (nxV s q.snd.snd ≥ 48)) true, s.size ≤ (1000 : Nat) ∧ (0 : Int) ≤ q.snd.snd], by kernel_rfl, ⟨?_, ?_, ?_, ?_, ?_, ?_, d3, d2, ?_, d1, (?_ : s.size ≤ (1000 : Nat) ∧ (0 : Int) ≤ q.snd.snd)⟩, MuG.out ?_, InG.out ?_⟩⟩) (fun d3 => ⟨[true, true, false], .inr ⟨[q.snd.fst = numV s a, a = a, s = s, q.snd.snd = numE s a, f = f, Dec (decide (IntKind.i64.wrap (q.snd.snd - a) < 9)) false, Dec (decide (nxV s q.snd.snd ≤ 57)) true, s.size ≤ (1000 : Nat) ∧ (0 : Int) ≤ q.snd.snd, Dec (decide (nxV s q.snd.snd ≥ 48)) true, s.size ≤ (1000 : Nat) ∧ (0 : Int) ≤ q.snd.snd], by kernel_rfl, ⟨?_, ?_, ?_, ?_, ?_, d3, d2, ?_, d1, (?_ : s.size ≤ (1000 : Nat) ∧ (0 : Int) ≤ q.snd.snd)⟩, rfl⟩⟩)) (fun d2 => ⟨[true, false], .inr ⟨[q.snd.fst = numV s a, a = a, s = s, q.snd.snd = numE s a, f = f, Dec (decide (nxV s q.snd.snd ≤ 57)) false, s.size ≤ (1000 : Nat) ∧ (0 : Int) ≤ q.snd.snd, Dec (decide (nxV s q.snd.snd ≥ 48)) true, s.size ≤ (1000 : Nat) ∧ (0 : Int) ≤ q.snd.snd], by kernel_rfl, ⟨?_, ?_, ?_, ?_, ?_, d2, ?_, d1, (?_ : s.size ≤ (1000 : Nat) ∧ (0 : Int) ≤ q.snd.snd)⟩, rfl⟩⟩)) (fun d1 => ⟨[false], .inr ⟨[q.snd.fst = numV s a, a = a, s = s, q.snd.snd = numE s a, f = f, Dec (decide (nxV s q.snd.snd ≥ 48)) false, s.size ≤ (1000 : Nat) ∧ (0 : Int) ≤ q.snd.snd], by kernel_rfl, ⟨?_, ?_, ?_, ?_, ?_, d1, (?_ : s.size ≤ (1000 : Nat) ∧ (0 : Int) ≤ q.snd.snd)⟩, rfl⟩⟩)
      all_goals first | (refine MuG.mk ?_; (have d3 := of_decide_eq_true d3; rw [w64 (by omega) (by omega)] at d3; show q.1 - 1 < q.1; omega)) | (refine InG.mk ?_; (have d1 := of_decide_eq_true d1; have d2 := of_decide_eq_true d2; have d3 := of_decide_eq_true d3; rw [w64 (by omega) (by omega)] at d3; exact ⟨by show numG s (q.1 - 1) (10 * q.2.1 + (nxV s q.2.2 - 48)) (q.2.2 + 1) = _; rw [← numG_go (by omega) (digQ_of d1 d2)]; exact g1, by show q.1 - 1 ≤ 9; omega, by show q.2.2 + 1 = a + (9 - ((q.1 - 1 : Nat) : Int)); omega, by show 0 ≤ 10 * q.2.1 + (nxV s q.2.2 - 48); omega, num_limS (by omega) (by omega) g5⟩)) | (refine CtG.mk ?_; (exact (5 : Nat))) | (first | (with_reducible rfl) | exact (num_end g1 (.inl (digQ_not (.inl (of_decide_eq_false d1))))).1 | exact (num_end g1 (.inl (digQ_not (.inl (of_decide_eq_false d1))))).2 | exact (num_end g1 (.inl (digQ_not (.inr (of_decide_eq_false d2))))).1 | exact (num_end g1 (.inl (digQ_not (.inr (of_decide_eq_false d2))))).2 | (have d3 := of_decide_eq_false d3; rw [w64 (by omega) (by omega)] at d3; first | exact (num_end g1 (.inr (by omega))).1 | exact (num_end g1 (.inr (by omega))).2) | (have d1 := of_decide_eq_true d1; have d2 := of_decide_eq_true d2; first | exact num_wrap g4 g6 d1 d2 | (show IntKind.i64.wrap (q.2.2 + 1) = q.2.2 + 1; exact w64 (by omega) (by omega)) | omega) | omega)
    · -- d = true
      obtain ⟨g1, g2, g3, g4, g5⟩ := hI; have g6 := num_lim g4 g5; have g7 := nx_bounds s q.2.2
      refine oe (decide (nxV s q.snd.snd ≥ 48)) (fun d1 => oe (decide (nxV s q.snd.snd ≤ 57)) (fun d2 => oe (decide (IntKind.i64.wrap (q.snd.snd - a) < 9)) (fun d3 => ⟨[true, true, true], .inl ⟨((q.1 - 1, 10 * q.2.1 + (nxV s q.2.2 - 48), q.2.2 + 1)), [IntKind.i64.wrap (IntKind.i64.wrap ((10 : Int) * q.snd.fst) + IntKind.i64.wrap (IntKind.u8.wrap (nxV s q.snd.snd - 48))) = ((10 : Int) * q.snd.fst + (nxV s q.snd.snd - 48), q.snd.snd + 1).fst, a = a, s = s, IntKind.i64.wrap (q.snd.snd + 1) = ((10 : Int) * q.snd.fst + (nxV s q.snd.snd - 48), q.snd.snd + 1).snd, f = f, s.size ≤ (1000 : Nat) ∧ (0 : Int) ≤ q.snd.snd, Dec (decide (IntKind.i64.wrap (q.snd.snd - a) < 9)) true, Dec (decide (nxV s q.snd.snd ≤ 57)) true, s.size ≤ (1000 : Nat) ∧ (0 : Int) ≤ q.snd.snd, Dec (decide (nxV s q.snd.snd ≥ 48)) true, s.size ≤ (1000 : Nat) ∧ (0 : Int) ≤ q.snd.snd], by kernel_rfl, ⟨?_, ?_, ?_, ?_, ?_, ?_, d3, d2, ?_, d1, (?_ : s.size ≤ (1000 : Nat) ∧ (0 : Int) ≤ q.snd.snd)⟩, MuG.out ?_, InG.out ?_⟩⟩) (fun d3 => ⟨[true, true, false], .inr ⟨[q.snd.fst = numV s a, a = a, s = s, q.snd.snd = numE s a, f = f, Dec (decide (IntKind.i64.wrap (q.snd.snd - a) < 9)) false, Dec (decide (nxV s q.snd.snd ≤ 57)) true, s.size ≤ (1000 : Nat) ∧ (0 : Int) ≤ q.snd.snd, Dec (decide (nxV s q.snd.snd ≥ 48)) true, s.size ≤ (1000 : Nat) ∧ (0 : Int) ≤ q.snd.snd], by kernel_rfl, ⟨?_, ?_, ?_, ?_, ?_, d3, d2, ?_, d1, (?_ : s.size ≤ (1000 : Nat) ∧ (0 : Int) ≤ q.snd.snd)⟩, rfl⟩⟩)) (fun d2 => ⟨[true, false], .inr ⟨[q.snd.fst = numV s a, a = a, s = s, q.snd.snd = numE s a, f = f, Dec (decide (nxV s q.snd.snd ≤ 57)) false, s.size ≤ (1000 : Nat) ∧ (0 : Int) ≤ q.snd.snd, Dec (decide (nxV s q.snd.snd ≥ 48)) true, s.size ≤ (1000 : Nat) ∧ (0 : Int) ≤ q.snd.snd], by kernel_rfl, ⟨?_, ?_, ?_, ?_, ?_, d2, ?_, d1, (?_ : s.size ≤ (1000 : Nat) ∧ (0 : Int) ≤ q.snd.snd)⟩, rfl⟩⟩)) (fun d1 => ⟨[false], .inr ⟨[q.snd.fst = numV s a, a = a, s = s, q.snd.snd = numE s a, f = f, Dec (decide (nxV s q.snd.snd ≥ 48)) false, s.size ≤ (1000 : Nat) ∧ (0 : Int) ≤ q.snd.snd], by kernel_rfl, ⟨?_, ?_, ?_, ?_, ?_, d1, (?_ : s.size ≤ (1000 : Nat) ∧ (0 : Int) ≤ q.snd.snd)⟩, rfl⟩⟩)
      all_goals first | (refine MuG.mk ?_; (have d3 := of_decide_eq_true d3; rw [w64 (by omega) (by omega)] at d3; show q.1 - 1 < q.1; omega)) | (refine InG.mk ?_; (have d1 := of_decide_eq_true d1; have d2 := of_decide_eq_true d2; have d3 := of_decide_eq_true d3; rw [w64 (by omega) (by omega)] at d3; exact ⟨by show numG s (q.1 - 1) (10 * q.2.1 + (nxV s q.2.2 - 48)) (q.2.2 + 1) = _; rw [← numG_go (by omega) (digQ_of d1 d2)]; exact g1, by show q.1 - 1 ≤ 9; omega, by show q.2.2 + 1 = a + (9 - ((q.1 - 1 : Nat) : Int)); omega, by show 0 ≤ 10 * q.2.1 + (nxV s q.2.2 - 48); omega, num_limS (by omega) (by omega) g5⟩)) | (refine CtG.mk ?_; (exact (5 : Nat))) | (first | (with_reducible rfl) | exact (num_end g1 (.inl (digQ_not (.inl (of_decide_eq_false d1))))).1 | exact (num_end g1 (.inl (digQ_not (.inl (of_decide_eq_false d1))))).2 | exact (num_end g1 (.inl (digQ_not (.inr (of_decide_eq_false d2))))).1 | exact (num_end g1 (.inl (digQ_not (.inr (of_decide_eq_false d2))))).2 | (have d3 := of_decide_eq_false d3; rw [w64 (by omega) (by omega)] at d3; first | exact (num_end g1 (.inr (by omega))).1 | exact (num_end g1 (.inr (by omega))).2) | (have d1 := of_decide_eq_true d1; have d2 := of_decide_eq_true d2; first | exact num_wrap g4 g6 d1 d2 | (show IntKind.i64.wrap (q.2.2 + 1) = q.2.2 + 1; exact w64 (by omega) (by omega)) | omega) | omega)
theorem number_ptr (s : ByteArray) (a : Int) (f : Bool) (hs : s.size ≤ 1000) (h0 : 0 ≤ a) (h1 : a ≤ 1000) : PtrC Tryz.prog 97 66 ((rV s a f)) [] (.int .i64 (numV s a)) ((rV s (numE s a) (numB s a f))) := by
  have hl0 := nm_loop s a f hs h0 h1
  have rr := fun (tp : List Bool) (ms : List Prop) h hm => ptr_of_run evOk (callF_ok evOk nextOrc_ok 8) Tryz.func66 (A := []) (V := (rV s a f)) (V' := (rV s (numE s a) (numB s a f))) (el := 97) (N := Nat.max 1 Tryz.f66.ntmps) rfl (one_ann hl0) evNg (R := .int .i64 (numV s a)) (tp := tp) (ms := ms) h hm
  refine oe (numE s a == a) (fun d1 => rr [true] [numV s a = numV s a, s = s, numE s a = numE s a, true = numB s a f, Dec (numE s a == a) true, a = a, s = s, a = a, f = f] (by kernel_rfl) ⟨?_, ?_, ?_, ?_, d1, ?_, ?_, ?_, (?_ : f = f)⟩) (fun d1 => rr [false] [numV s a = numV s a, s = s, numE s a = numE s a, f = numB s a f, Dec (numE s a == a) false, a = a, s = s, a = a, f = f] (by kernel_rfl) ⟨?_, ?_, ?_, ?_, d1, ?_, ?_, ?_, (?_ : f = f)⟩)
  all_goals first | (first | (with_reducible rfl) | omega | (unfold numB; rw [d1]; rfl))
end Go.Proofs.YtgdhgnhgmbkpdaaGreatDoor.S

namespace Go.Proofs.YtgdhgnhgmbkpdaaGreatDoor.S
open Go.QfSy Go.RowKit
def skipGo (V A : List RV) : Option (RV × List RV × List Prop) := match V, A with
  | [.str s, .int .i64 a, .bool f], [.int .u8 b] => some (.tup [], rV s (skA s b a) (skB s b a f), [s.size ≤ 1000 ∧ 0 ≤ a ∧ a ≤ 1000])
  | _, _ => none
def numGo (V A : List RV) : Option (RV × List RV × List Prop) := match V, A with
  | [.str s, .int .i64 a, .bool f], [] => some (.int .i64 (numV s a), rV s (numE s a) (numB s a f), [s.size ≤ 1000 ∧ 0 ≤ a ∧ a ≤ 1000])
  | _, _ => none
theorem skipGo_ok : ∀ V A R V' ms, skipGo V A = some (R, V', ms) → (∀ p ∈ ms, p) → PtrC Tryz.prog 97 67 V A R V' := by
  intro V A R V' ms h hm
  unfold skipGo at h
  split at h
  · cases h
    obtain ⟨h1, h2, h3⟩ := all_one hm
    exact skip_ptr _ _ _ _ h1 h2 h3
  · cases h
theorem numGo_ok : ∀ V A R V' ms, numGo V A = some (R, V', ms) → (∀ p ∈ ms, p) → PtrC Tryz.prog 97 66 V A R V' := by
  intro V A R V' ms h hm
  unfold numGo at h
  split at h
  · cases h
    obtain ⟨h1, h2, h3⟩ := all_one hm
    exact number_ptr _ _ _ h1 h2 h3
  · cases h
noncomputable def rdOrc : CallF := orcP 97 66 numGo (orcP 97 67 skipGo nextOrc)
theorem rdOrc_ok : CallOk Tryz.prog EV.ng rdOrc := orcP_ok numGo_ok (orcP_ok skipGo_ok nextOrc_ok)
theorem inR_sk {s : ByteArray} {b x : Int} (hb : b ≠ 0) (h : 0 ≤ x ∧ x ≤ (s.size : Int)) : 0 ≤ skA s b x ∧ skA s b x ≤ (s.size : Int) := by
  obtain ⟨h1, _, h3⟩ := skA_bounds (s := s) (b := b) (a := x) hb
  exact ⟨by omega, h3 h.2⟩
theorem inR_num {s : ByteArray} {x : Int} (h : 0 ≤ x ∧ x ≤ (s.size : Int)) : 0 ≤ numE s x ∧ numE s x ≤ (s.size : Int) := by
  obtain ⟨h1, h3⟩ := numE_bounds s x
  exact ⟨by omega, h3 h.2⟩
theorem rng_of {s : ByteArray} {x : Int} (hs : s.size ≤ 900) (h : 0 ≤ x ∧ x ≤ (s.size : Int)) : s.size ≤ 1000 ∧ 0 ≤ x ∧ x ≤ 1000 := ⟨by omega, h.1, by omega⟩
theorem rng2_of {s : ByteArray} {x : Int} (hs : s.size ≤ 900) (h : 0 ≤ x ∧ x ≤ (s.size : Int)) : s.size ≤ 1000 ∧ 0 ≤ x := ⟨by omega, h.1⟩
attribute [local irreducible] nxV skA skB numV numE numB
theorem con_ptr (s : ByteArray) (a : Int) (f : Bool) (p : Int) (hs : s.size ≤ 900) (h0 : 0 ≤ a) (h1 : a ≤ s.size) : PtrC Tryz.prog 97 68 ((rV s a f)) [.int .i64 p] (.agg (rdC s p (a, f)).rvs) ((rV s (rdE s p (a, f)).1 (rdE s p (a, f)).2)) := by
  have rr := fun (tp : List Bool) (ms : List Prop) h hm => ptr_of_run evOk (callF_ok evOk rdOrc_ok 8) Tryz.func68 (A := [.int .i64 p]) (V := (rV s a f)) (V' := (rV s (rdE s p (a, f)).1 (rdE s p (a, f)).2)) (el := 97) (N := Nat.max 2 Tryz.f68.ntmps) rfl none_ann evNg (R := .agg (rdC s p (a, f)).rvs) (tp := tp) (ms := ms) h hm
  refine oe (nxV s (skA s (94 : Int) (numE s (skA s (32 : Int) a))) == 45) (fun d1 => oe (p == 2) (fun d2 => oe (nxV s (skA s (95 : Int) (numE s (skA s (45 : Int) (skA s (94 : Int) (numE s (skA s (32 : Int) a)))))) == 73) (fun d3 => rr [true, false, true] [numV s (skA s (32 : Int) a) = (rdC s p (a, f)).exp, numV s (skA s (45 : Int) (skA s (94 : Int) (numE s (skA s (32 : Int) a)))) = (rdC s p (a, f)).dim, (-1 : Int) = (rdC s p (a, f)).sign, false = (rdC s p (a, f)).odd, (0 : Int) = (rdC s p (a, f)).oddity, s = s, skA s (73 : Int) (skA s (73 : Int) (skA s (95 : Int) (numE s (skA s (45 : Int) (skA s (94 : Int) (numE s (skA s (32 : Int) a))))))) = (rdE s p (a, f)).fst, skB s (73 : Int) (skA s (73 : Int) (skA s (95 : Int) (numE s (skA s (45 : Int) (skA s (94 : Int) (numE s (skA s (32 : Int) a))))))) (skB s (73 : Int) (skA s (95 : Int) (numE s (skA s (45 : Int) (skA s (94 : Int) (numE s (skA s (32 : Int) a)))))) (skB s (95 : Int) (numE s (skA s (45 : Int) (skA s (94 : Int) (numE s (skA s (32 : Int) a))))) (numB s (skA s (45 : Int) (skA s (94 : Int) (numE s (skA s (32 : Int) a)))) (skB s (45 : Int) (skA s (94 : Int) (numE s (skA s (32 : Int) a))) (skB s (94 : Int) (numE s (skA s (32 : Int) a)) (numB s (skA s (32 : Int) a) (skB s (32 : Int) a f))))))) = (rdE s p (a, f)).snd, s.size ≤ (1000 : Nat) ∧ (0 : Int) ≤ skA s (73 : Int) (skA s (95 : Int) (numE s (skA s (45 : Int) (skA s (94 : Int) (numE s (skA s (32 : Int) a)))))) ∧ skA s (73 : Int) (skA s (95 : Int) (numE s (skA s (45 : Int) (skA s (94 : Int) (numE s (skA s (32 : Int) a)))))) ≤ 1000, s.size ≤ (1000 : Nat) ∧ (0 : Int) ≤ skA s (95 : Int) (numE s (skA s (45 : Int) (skA s (94 : Int) (numE s (skA s (32 : Int) a))))) ∧ skA s (95 : Int) (numE s (skA s (45 : Int) (skA s (94 : Int) (numE s (skA s (32 : Int) a))))) ≤ 1000, Dec (nxV s (skA s (95 : Int) (numE s (skA s (45 : Int) (skA s (94 : Int) (numE s (skA s (32 : Int) a)))))) == 73) true, s.size ≤ (1000 : Nat) ∧ (0 : Int) ≤ skA s (95 : Int) (numE s (skA s (45 : Int) (skA s (94 : Int) (numE s (skA s (32 : Int) a))))), s.size ≤ (1000 : Nat) ∧ (0 : Int) ≤ numE s (skA s (45 : Int) (skA s (94 : Int) (numE s (skA s (32 : Int) a)))) ∧ numE s (skA s (45 : Int) (skA s (94 : Int) (numE s (skA s (32 : Int) a)))) ≤ 1000, Dec (p != (2 : Int)) false, s.size ≤ (1000 : Nat) ∧ (0 : Int) ≤ skA s (45 : Int) (skA s (94 : Int) (numE s (skA s (32 : Int) a))) ∧ skA s (45 : Int) (skA s (94 : Int) (numE s (skA s (32 : Int) a))) ≤ 1000, s.size ≤ (1000 : Nat) ∧ (0 : Int) ≤ skA s (94 : Int) (numE s (skA s (32 : Int) a)) ∧ skA s (94 : Int) (numE s (skA s (32 : Int) a)) ≤ 1000, Dec (nxV s (skA s (94 : Int) (numE s (skA s (32 : Int) a))) == 45) true, s.size ≤ (1000 : Nat) ∧ (0 : Int) ≤ skA s (94 : Int) (numE s (skA s (32 : Int) a)), s.size ≤ (1000 : Nat) ∧ (0 : Int) ≤ numE s (skA s (32 : Int) a) ∧ numE s (skA s (32 : Int) a) ≤ 1000, s.size ≤ (1000 : Nat) ∧ (0 : Int) ≤ skA s (32 : Int) a ∧ skA s (32 : Int) a ≤ 1000, s.size ≤ (1000 : Nat) ∧ (0 : Int) ≤ a ∧ a ≤ 1000] (by kernel_rfl) ⟨?_, ?_, ?_, ?_, ?_, ?_, ?_, ?_, ?_, ?_, d3, ?_, ?_, (dN d2), ?_, ?_, d1, ?_, ?_, ?_, (?_ : s.size ≤ (1000 : Nat) ∧ (0 : Int) ≤ a ∧ a ≤ 1000)⟩) (fun d3 => rr [true, false, false] [numV s (skA s (32 : Int) a) = (rdC s p (a, f)).exp, numV s (skA s (45 : Int) (skA s (94 : Int) (numE s (skA s (32 : Int) a)))) = (rdC s p (a, f)).dim, (-1 : Int) = (rdC s p (a, f)).sign, true = (rdC s p (a, f)).odd, numV s (skA s (95 : Int) (numE s (skA s (45 : Int) (skA s (94 : Int) (numE s (skA s (32 : Int) a)))))) = (rdC s p (a, f)).oddity, s = s, numE s (skA s (95 : Int) (numE s (skA s (45 : Int) (skA s (94 : Int) (numE s (skA s (32 : Int) a)))))) = (rdE s p (a, f)).fst, numB s (skA s (95 : Int) (numE s (skA s (45 : Int) (skA s (94 : Int) (numE s (skA s (32 : Int) a)))))) (skB s (95 : Int) (numE s (skA s (45 : Int) (skA s (94 : Int) (numE s (skA s (32 : Int) a))))) (numB s (skA s (45 : Int) (skA s (94 : Int) (numE s (skA s (32 : Int) a)))) (skB s (45 : Int) (skA s (94 : Int) (numE s (skA s (32 : Int) a))) (skB s (94 : Int) (numE s (skA s (32 : Int) a)) (numB s (skA s (32 : Int) a) (skB s (32 : Int) a f)))))) = (rdE s p (a, f)).snd, s.size ≤ (1000 : Nat) ∧ (0 : Int) ≤ skA s (95 : Int) (numE s (skA s (45 : Int) (skA s (94 : Int) (numE s (skA s (32 : Int) a))))) ∧ skA s (95 : Int) (numE s (skA s (45 : Int) (skA s (94 : Int) (numE s (skA s (32 : Int) a))))) ≤ 1000, Dec (nxV s (skA s (95 : Int) (numE s (skA s (45 : Int) (skA s (94 : Int) (numE s (skA s (32 : Int) a)))))) == 73) false, s.size ≤ (1000 : Nat) ∧ (0 : Int) ≤ skA s (95 : Int) (numE s (skA s (45 : Int) (skA s (94 : Int) (numE s (skA s (32 : Int) a))))), s.size ≤ (1000 : Nat) ∧ (0 : Int) ≤ numE s (skA s (45 : Int) (skA s (94 : Int) (numE s (skA s (32 : Int) a)))) ∧ numE s (skA s (45 : Int) (skA s (94 : Int) (numE s (skA s (32 : Int) a)))) ≤ 1000, Dec (p != (2 : Int)) false, s.size ≤ (1000 : Nat) ∧ (0 : Int) ≤ skA s (45 : Int) (skA s (94 : Int) (numE s (skA s (32 : Int) a))) ∧ skA s (45 : Int) (skA s (94 : Int) (numE s (skA s (32 : Int) a))) ≤ 1000, s.size ≤ (1000 : Nat) ∧ (0 : Int) ≤ skA s (94 : Int) (numE s (skA s (32 : Int) a)) ∧ skA s (94 : Int) (numE s (skA s (32 : Int) a)) ≤ 1000, Dec (nxV s (skA s (94 : Int) (numE s (skA s (32 : Int) a))) == 45) true, s.size ≤ (1000 : Nat) ∧ (0 : Int) ≤ skA s (94 : Int) (numE s (skA s (32 : Int) a)), s.size ≤ (1000 : Nat) ∧ (0 : Int) ≤ numE s (skA s (32 : Int) a) ∧ numE s (skA s (32 : Int) a) ≤ 1000, s.size ≤ (1000 : Nat) ∧ (0 : Int) ≤ skA s (32 : Int) a ∧ skA s (32 : Int) a ≤ 1000, s.size ≤ (1000 : Nat) ∧ (0 : Int) ≤ a ∧ a ≤ 1000] (by kernel_rfl) ⟨?_, ?_, ?_, ?_, ?_, ?_, ?_, ?_, ?_, d3, ?_, ?_, (dN d2), ?_, ?_, d1, ?_, ?_, ?_, (?_ : s.size ≤ (1000 : Nat) ∧ (0 : Int) ≤ a ∧ a ≤ 1000)⟩)) (fun d2 => rr [true, true] [numV s (skA s (32 : Int) a) = (rdC s p (a, f)).exp, numV s (skA s (45 : Int) (skA s (94 : Int) (numE s (skA s (32 : Int) a)))) = (rdC s p (a, f)).dim, (-1 : Int) = (rdC s p (a, f)).sign, false = (rdC s p (a, f)).odd, (0 : Int) = (rdC s p (a, f)).oddity, s = s, numE s (skA s (45 : Int) (skA s (94 : Int) (numE s (skA s (32 : Int) a)))) = (rdE s p (a, f)).fst, numB s (skA s (45 : Int) (skA s (94 : Int) (numE s (skA s (32 : Int) a)))) (skB s (45 : Int) (skA s (94 : Int) (numE s (skA s (32 : Int) a))) (skB s (94 : Int) (numE s (skA s (32 : Int) a)) (numB s (skA s (32 : Int) a) (skB s (32 : Int) a f)))) = (rdE s p (a, f)).snd, Dec (p != (2 : Int)) true, s.size ≤ (1000 : Nat) ∧ (0 : Int) ≤ skA s (45 : Int) (skA s (94 : Int) (numE s (skA s (32 : Int) a))) ∧ skA s (45 : Int) (skA s (94 : Int) (numE s (skA s (32 : Int) a))) ≤ 1000, s.size ≤ (1000 : Nat) ∧ (0 : Int) ≤ skA s (94 : Int) (numE s (skA s (32 : Int) a)) ∧ skA s (94 : Int) (numE s (skA s (32 : Int) a)) ≤ 1000, Dec (nxV s (skA s (94 : Int) (numE s (skA s (32 : Int) a))) == 45) true, s.size ≤ (1000 : Nat) ∧ (0 : Int) ≤ skA s (94 : Int) (numE s (skA s (32 : Int) a)), s.size ≤ (1000 : Nat) ∧ (0 : Int) ≤ numE s (skA s (32 : Int) a) ∧ numE s (skA s (32 : Int) a) ≤ 1000, s.size ≤ (1000 : Nat) ∧ (0 : Int) ≤ skA s (32 : Int) a ∧ skA s (32 : Int) a ≤ 1000, s.size ≤ (1000 : Nat) ∧ (0 : Int) ≤ a ∧ a ≤ 1000] (by kernel_rfl) ⟨?_, ?_, ?_, ?_, ?_, ?_, ?_, ?_, (dN d2), ?_, ?_, d1, ?_, ?_, ?_, (?_ : s.size ≤ (1000 : Nat) ∧ (0 : Int) ≤ a ∧ a ≤ 1000)⟩)) (fun d1 => oe (p == 2) (fun d2 => oe (nxV s (skA s (95 : Int) (numE s (skA s (43 : Int) (skA s (94 : Int) (numE s (skA s (32 : Int) a)))))) == 73) (fun d3 => rr [false, false, true] [numV s (skA s (32 : Int) a) = (rdC s p (a, f)).exp, numV s (skA s (43 : Int) (skA s (94 : Int) (numE s (skA s (32 : Int) a)))) = (rdC s p (a, f)).dim, (1 : Int) = (rdC s p (a, f)).sign, false = (rdC s p (a, f)).odd, (0 : Int) = (rdC s p (a, f)).oddity, s = s, skA s (73 : Int) (skA s (73 : Int) (skA s (95 : Int) (numE s (skA s (43 : Int) (skA s (94 : Int) (numE s (skA s (32 : Int) a))))))) = (rdE s p (a, f)).fst, skB s (73 : Int) (skA s (73 : Int) (skA s (95 : Int) (numE s (skA s (43 : Int) (skA s (94 : Int) (numE s (skA s (32 : Int) a))))))) (skB s (73 : Int) (skA s (95 : Int) (numE s (skA s (43 : Int) (skA s (94 : Int) (numE s (skA s (32 : Int) a)))))) (skB s (95 : Int) (numE s (skA s (43 : Int) (skA s (94 : Int) (numE s (skA s (32 : Int) a))))) (numB s (skA s (43 : Int) (skA s (94 : Int) (numE s (skA s (32 : Int) a)))) (skB s (43 : Int) (skA s (94 : Int) (numE s (skA s (32 : Int) a))) (skB s (94 : Int) (numE s (skA s (32 : Int) a)) (numB s (skA s (32 : Int) a) (skB s (32 : Int) a f))))))) = (rdE s p (a, f)).snd, s.size ≤ (1000 : Nat) ∧ (0 : Int) ≤ skA s (73 : Int) (skA s (95 : Int) (numE s (skA s (43 : Int) (skA s (94 : Int) (numE s (skA s (32 : Int) a)))))) ∧ skA s (73 : Int) (skA s (95 : Int) (numE s (skA s (43 : Int) (skA s (94 : Int) (numE s (skA s (32 : Int) a)))))) ≤ 1000, s.size ≤ (1000 : Nat) ∧ (0 : Int) ≤ skA s (95 : Int) (numE s (skA s (43 : Int) (skA s (94 : Int) (numE s (skA s (32 : Int) a))))) ∧ skA s (95 : Int) (numE s (skA s (43 : Int) (skA s (94 : Int) (numE s (skA s (32 : Int) a))))) ≤ 1000, Dec (nxV s (skA s (95 : Int) (numE s (skA s (43 : Int) (skA s (94 : Int) (numE s (skA s (32 : Int) a)))))) == 73) true, s.size ≤ (1000 : Nat) ∧ (0 : Int) ≤ skA s (95 : Int) (numE s (skA s (43 : Int) (skA s (94 : Int) (numE s (skA s (32 : Int) a))))), s.size ≤ (1000 : Nat) ∧ (0 : Int) ≤ numE s (skA s (43 : Int) (skA s (94 : Int) (numE s (skA s (32 : Int) a)))) ∧ numE s (skA s (43 : Int) (skA s (94 : Int) (numE s (skA s (32 : Int) a)))) ≤ 1000, Dec (p != (2 : Int)) false, s.size ≤ (1000 : Nat) ∧ (0 : Int) ≤ skA s (43 : Int) (skA s (94 : Int) (numE s (skA s (32 : Int) a))) ∧ skA s (43 : Int) (skA s (94 : Int) (numE s (skA s (32 : Int) a))) ≤ 1000, s.size ≤ (1000 : Nat) ∧ (0 : Int) ≤ skA s (94 : Int) (numE s (skA s (32 : Int) a)) ∧ skA s (94 : Int) (numE s (skA s (32 : Int) a)) ≤ 1000, Dec (nxV s (skA s (94 : Int) (numE s (skA s (32 : Int) a))) == 45) false, s.size ≤ (1000 : Nat) ∧ (0 : Int) ≤ skA s (94 : Int) (numE s (skA s (32 : Int) a)), s.size ≤ (1000 : Nat) ∧ (0 : Int) ≤ numE s (skA s (32 : Int) a) ∧ numE s (skA s (32 : Int) a) ≤ 1000, s.size ≤ (1000 : Nat) ∧ (0 : Int) ≤ skA s (32 : Int) a ∧ skA s (32 : Int) a ≤ 1000, s.size ≤ (1000 : Nat) ∧ (0 : Int) ≤ a ∧ a ≤ 1000] (by kernel_rfl) ⟨?_, ?_, ?_, ?_, ?_, ?_, ?_, ?_, ?_, ?_, d3, ?_, ?_, (dN d2), ?_, ?_, d1, ?_, ?_, ?_, (?_ : s.size ≤ (1000 : Nat) ∧ (0 : Int) ≤ a ∧ a ≤ 1000)⟩) (fun d3 => rr [false, false, false] [numV s (skA s (32 : Int) a) = (rdC s p (a, f)).exp, numV s (skA s (43 : Int) (skA s (94 : Int) (numE s (skA s (32 : Int) a)))) = (rdC s p (a, f)).dim, (1 : Int) = (rdC s p (a, f)).sign, true = (rdC s p (a, f)).odd, numV s (skA s (95 : Int) (numE s (skA s (43 : Int) (skA s (94 : Int) (numE s (skA s (32 : Int) a)))))) = (rdC s p (a, f)).oddity, s = s, numE s (skA s (95 : Int) (numE s (skA s (43 : Int) (skA s (94 : Int) (numE s (skA s (32 : Int) a)))))) = (rdE s p (a, f)).fst, numB s (skA s (95 : Int) (numE s (skA s (43 : Int) (skA s (94 : Int) (numE s (skA s (32 : Int) a)))))) (skB s (95 : Int) (numE s (skA s (43 : Int) (skA s (94 : Int) (numE s (skA s (32 : Int) a))))) (numB s (skA s (43 : Int) (skA s (94 : Int) (numE s (skA s (32 : Int) a)))) (skB s (43 : Int) (skA s (94 : Int) (numE s (skA s (32 : Int) a))) (skB s (94 : Int) (numE s (skA s (32 : Int) a)) (numB s (skA s (32 : Int) a) (skB s (32 : Int) a f)))))) = (rdE s p (a, f)).snd, s.size ≤ (1000 : Nat) ∧ (0 : Int) ≤ skA s (95 : Int) (numE s (skA s (43 : Int) (skA s (94 : Int) (numE s (skA s (32 : Int) a))))) ∧ skA s (95 : Int) (numE s (skA s (43 : Int) (skA s (94 : Int) (numE s (skA s (32 : Int) a))))) ≤ 1000, Dec (nxV s (skA s (95 : Int) (numE s (skA s (43 : Int) (skA s (94 : Int) (numE s (skA s (32 : Int) a)))))) == 73) false, s.size ≤ (1000 : Nat) ∧ (0 : Int) ≤ skA s (95 : Int) (numE s (skA s (43 : Int) (skA s (94 : Int) (numE s (skA s (32 : Int) a))))), s.size ≤ (1000 : Nat) ∧ (0 : Int) ≤ numE s (skA s (43 : Int) (skA s (94 : Int) (numE s (skA s (32 : Int) a)))) ∧ numE s (skA s (43 : Int) (skA s (94 : Int) (numE s (skA s (32 : Int) a)))) ≤ 1000, Dec (p != (2 : Int)) false, s.size ≤ (1000 : Nat) ∧ (0 : Int) ≤ skA s (43 : Int) (skA s (94 : Int) (numE s (skA s (32 : Int) a))) ∧ skA s (43 : Int) (skA s (94 : Int) (numE s (skA s (32 : Int) a))) ≤ 1000, s.size ≤ (1000 : Nat) ∧ (0 : Int) ≤ skA s (94 : Int) (numE s (skA s (32 : Int) a)) ∧ skA s (94 : Int) (numE s (skA s (32 : Int) a)) ≤ 1000, Dec (nxV s (skA s (94 : Int) (numE s (skA s (32 : Int) a))) == 45) false, s.size ≤ (1000 : Nat) ∧ (0 : Int) ≤ skA s (94 : Int) (numE s (skA s (32 : Int) a)), s.size ≤ (1000 : Nat) ∧ (0 : Int) ≤ numE s (skA s (32 : Int) a) ∧ numE s (skA s (32 : Int) a) ≤ 1000, s.size ≤ (1000 : Nat) ∧ (0 : Int) ≤ skA s (32 : Int) a ∧ skA s (32 : Int) a ≤ 1000, s.size ≤ (1000 : Nat) ∧ (0 : Int) ≤ a ∧ a ≤ 1000] (by kernel_rfl) ⟨?_, ?_, ?_, ?_, ?_, ?_, ?_, ?_, ?_, d3, ?_, ?_, (dN d2), ?_, ?_, d1, ?_, ?_, ?_, (?_ : s.size ≤ (1000 : Nat) ∧ (0 : Int) ≤ a ∧ a ≤ 1000)⟩)) (fun d2 => rr [false, true] [numV s (skA s (32 : Int) a) = (rdC s p (a, f)).exp, numV s (skA s (43 : Int) (skA s (94 : Int) (numE s (skA s (32 : Int) a)))) = (rdC s p (a, f)).dim, (1 : Int) = (rdC s p (a, f)).sign, false = (rdC s p (a, f)).odd, (0 : Int) = (rdC s p (a, f)).oddity, s = s, numE s (skA s (43 : Int) (skA s (94 : Int) (numE s (skA s (32 : Int) a)))) = (rdE s p (a, f)).fst, numB s (skA s (43 : Int) (skA s (94 : Int) (numE s (skA s (32 : Int) a)))) (skB s (43 : Int) (skA s (94 : Int) (numE s (skA s (32 : Int) a))) (skB s (94 : Int) (numE s (skA s (32 : Int) a)) (numB s (skA s (32 : Int) a) (skB s (32 : Int) a f)))) = (rdE s p (a, f)).snd, Dec (p != (2 : Int)) true, s.size ≤ (1000 : Nat) ∧ (0 : Int) ≤ skA s (43 : Int) (skA s (94 : Int) (numE s (skA s (32 : Int) a))) ∧ skA s (43 : Int) (skA s (94 : Int) (numE s (skA s (32 : Int) a))) ≤ 1000, s.size ≤ (1000 : Nat) ∧ (0 : Int) ≤ skA s (94 : Int) (numE s (skA s (32 : Int) a)) ∧ skA s (94 : Int) (numE s (skA s (32 : Int) a)) ≤ 1000, Dec (nxV s (skA s (94 : Int) (numE s (skA s (32 : Int) a))) == 45) false, s.size ≤ (1000 : Nat) ∧ (0 : Int) ≤ skA s (94 : Int) (numE s (skA s (32 : Int) a)), s.size ≤ (1000 : Nat) ∧ (0 : Int) ≤ numE s (skA s (32 : Int) a) ∧ numE s (skA s (32 : Int) a) ≤ 1000, s.size ≤ (1000 : Nat) ∧ (0 : Int) ≤ skA s (32 : Int) a ∧ skA s (32 : Int) a ≤ 1000, s.size ≤ (1000 : Nat) ∧ (0 : Int) ≤ a ∧ a ≤ 1000] (by kernel_rfl) ⟨?_, ?_, ?_, ?_, ?_, ?_, ?_, ?_, (dN d2), ?_, ?_, d1, ?_, ?_, ?_, (?_ : s.size ≤ (1000 : Nat) ∧ (0 : Int) ≤ a ∧ a ≤ 1000)⟩))
  all_goals first | (first | (with_reducible rfl) | (refine rng_of hs ?_; repeat (first | exact ⟨h0, h1⟩ | refine inR_sk (by decide) ?_ | refine inR_num ?_)) | (refine rng2_of hs ?_; repeat (first | exact ⟨h0, h1⟩ | refine inR_sk (by decide) ?_ | refine inR_num ?_)) | (simp only [rdC, rdE, sgN, evQ, t4, t3, t2, t1, t0, sgT, numS, skp, d1, d2, cond_true, cond_false, Bool.true_and, Bool.false_and, Bool.not_true, Bool.not_false]; done) | (simp only [rdC, rdE, sgN, evQ, t4, t3, t2, t1, t0, sgT, numS, skp, d1, d2, d3, cond_true, cond_false, Bool.true_and, Bool.false_and, Bool.not_true, Bool.not_false]; done))
end Go.Proofs.YtgdhgnhgmbkpdaaGreatDoor.S

namespace Go.Proofs.YtgdhgnhgmbkpdaaGreatDoor.S
open Go.QfSy Go.RowKit
noncomputable def conGo (V A : List RV) : Option (RV × List RV × List Prop) := match V, A with
  | [.str s, .int .i64 a, .bool f], [.int .i64 p] => some (.agg (rdC s p (a, f)).rvs, rV s (rdE s p (a, f)).1 (rdE s p (a, f)).2, [s.size ≤ 900 ∧ 0 ≤ a ∧ a ≤ s.size])
  | _, _ => none
theorem conGo_ok : ∀ V A R V' ms, conGo V A = some (R, V', ms) → (∀ p ∈ ms, p) → PtrC Tryz.prog 97 68 V A R V' := by
  intro V A R V' ms h hm
  unfold conGo at h
  split at h
  · cases h
    obtain ⟨h1, h2, h3⟩ := all_one hm
    exact con_ptr _ _ _ _ h1 h2 h3
  · cases h
noncomputable def rdOrc2 : CallF := orcP 97 68 conGo rdOrc
theorem rdOrc2_ok : CallOk Tryz.prog EV.ng rdOrc2 := orcP_ok conGo_ok rdOrc_ok
attribute [local irreducible] nxV skA skB numV numE numB rdE
noncomputable def rdSl (s : ByteArray) : List (Nat × AV) := [(0, .vstr s), (2, .ptr 1000 0), (3, .bool false), (4, .ptr 1001 0), (5, .ptr 1002 0)]
noncomputable def rdH (s : ByteArray) (p a : Int) (f : Bool) (v : AV) : List (Nat × Blk) := [(1000, ⟨.plain [.int .i64 0, .nils], 24, 0, false, true⟩), (1001, ⟨.plain [.vstr s, .vint .i64 a, .vbool f], 97, 0, false, true⟩), (1002, ⟨.plain [.vint .i64 p, v], 24, 0, false, true⟩)]
noncomputable def rdAnn (s : ByteArray) (p a : Int) (f : Bool) : Ann := ⟨⟨rdSl s, rdH s p a f .nils, 1100⟩, some (rdFin s p (a, f)).1.isEmpty, fun d => match d with
  | true => (.exit 0, ⟨rdSl s, rdH s p (rdFin s p (a, f)).2.1 (rdFin s p (a, f)).2.2 .nils, 1161⟩)
  | false => (.exit 0, ⟨rdSl s, rdH s p (rdFin s p (a, f)).2.1 (rdFin s p (a, f)).2.2 (.lo 1160 (rdFin s p (a, f)).1.length) ++ [(1160, ⟨.con (rdFin s p (a, f)).1, 59, 5, true, true⟩)], 1161⟩)⟩
noncomputable def rdS (s : ByteArray) (p : Int) : Nat × Int × Bool × Option (List Con) → St
  | (_, a, f, none) => ⟨rdSl s, rdH s p a f .nils, 1161⟩
  | (_, a, f, some L) => ⟨rdSl s, rdH s p a f (.lo 1160 L.length) ++ [(1160, ⟨.con L, 59, 5, true, true⟩)], 1161⟩
theorem rd_loop (s : ByteArray) (p a0 : Int) (f0 : Bool) (hs : s.size ≤ 900) (h0 : 0 ≤ a0) (h1 : a0 ≤ s.size) : AnnOk Tryz.prog EV.ng (Nat.max 1 Tryz.f41.ntmps) (bodyAt Tryz.f41 [0, 0, 1, 1, 1, 1]) (rdAnn s p a0 f0) := by
  refine ann_of evOk (callF_ok evOk rdOrc2_ok 8) none_ann (by kernel_rfl) (by kernel_rfl) (rdS s p) (fun i => i.1) (fun d i => RdI s p (a0, f0) i.1 i.2.1 i.2.2.1 (i.2.2.2.getD []) ∧ (i.2.2.2 ≠ some []) ∧ d = (rdFin s p (a0, f0)).1.isEmpty) ?_ ?_
  · intro d hd
    exact ⟨(s.size + 2, a0, f0, none), [s = s, s = s, a0 = a0, f0 = f0, p = p], by kernel_rfl, (by refine ⟨?_, ?_, ?_, ?_, (?_ : p = p)⟩ <;> (first | rfl | assumption | omega | simp_all)), (by exact ⟨RdI.start h0 h1, (by intro e; cases e), hd.symm⟩)⟩
  · rintro d hd ⟨k, a, f, o⟩ hI
    cases d
    · -- d = false
      obtain ⟨hI, hO, hD⟩ := hI
      rcases o with _ | L
      · -- 1
        refine oe (f) (fun d1 => CtG.no ?_) (fun d1 => oe (decide (a < ↑s.size)) (fun d2 => ⟨[true, true], .inl ⟨(k - 1, (rdE s p (a, f)).1, (rdE s p (a, f)).2, some [rdC s p (a, f)]), [s = s, s = s, (rdE s p (a, f)).fst = (rdE s p (a, f)).fst, (rdE s p (a, f)).snd = (rdE s p (a, f)).snd, p = p, (1 : Nat) = [rdC s p (a, f)].length, [rdC s p (a, f)] = [Con.mk (numV s (t0 s (a, f)).fst) (numV s (t2 s (a, f)).fst) (sgN s (t1 s (a, f))) (p == 2 && !evQ s (a, f)) (bif p == 2 && !evQ s (a, f) then numV s (t4 s (a, f)).fst else (0 : Int))], (0 : Nat) < (1 : Nat) ∧ (1 : Nat) ≤ (1000000 : Nat), s.size ≤ (900 : Nat) ∧ (0 : Int) ≤ a ∧ a ≤ ↑s.size, Dec (decide (a < ↑s.size)) true, Dec (!f) true], by kernel_rfl, ⟨?_, ?_, ?_, ?_, ?_, ?_, ?_, ?_, ?_, d2, (dN d1)⟩, MuG.out ?_, InG.out ?_⟩⟩) (fun d2 => CtG.no ?_))
        all_goals first | (refine MuG.mk ?_; (have q := (hI.step d1 (of_decide_eq_true d2)).2; show k - 1 < k; exact Nat.sub_lt q Nat.one_pos)) | (refine InG.mk ?_; (exact ⟨(hI.step d1 (of_decide_eq_true d2)).1, (by intro e; simp at e), hD⟩)) | (refine CtG.mk ?_; (first | (rw [(hI.done (.inl d1)).1] at hD; cases hD; done) | (rw [(hI.done (.inr (of_decide_eq_false d2))).1] at hD; cases hD; done) | (rw [(hI.done (.inl d1)).1] at hD; have e := List.isEmpty_iff.1 hD.symm; exact absurd (congrArg some e) hO) | (rw [(hI.done (.inr (of_decide_eq_false d2))).1] at hD; have e := List.isEmpty_iff.1 hD.symm; exact absurd (congrArg some e) hO))) | (first | (with_reducible rfl) | exact rfl | exact (hI.done (.inl d1)).2.1.symm | exact (hI.done (.inl d1)).2.2.symm | exact (hI.done (.inl d1)).1.symm | (rw [(hI.done (.inl d1)).1]; rfl) | exact (hI.done (.inr (of_decide_eq_false d2))).2.1.symm | exact (hI.done (.inr (of_decide_eq_false d2))).2.2.symm | exact (hI.done (.inr (of_decide_eq_false d2))).1.symm | (rw [(hI.done (.inr (of_decide_eq_false d2))).1]; rfl) | exact ⟨hs, hI.lo, hI.hi⟩ | exact ⟨by decide, by decide⟩ | (have q1 : (L.length : Int) ≤ a + 1 := hI.len; have q2 : a ≤ (s.size : Int) := hI.hi; exact ⟨rfl, by omega⟩) | (simp; done))
      · -- 2
        refine oe (f) (fun d1 => ⟨[false], .inr ⟨[s = s, s = s, a = (rdFin s p (a0, f0)).snd.fst, f = (rdFin s p (a0, f0)).snd.snd, p = p, L.length = (rdFin s p (a0, f0)).fst.length, L = (rdFin s p (a0, f0)).fst, Dec (!f) false], by kernel_rfl, ⟨?_, ?_, ?_, ?_, ?_, ?_, ?_, (dN d1)⟩, rfl⟩⟩) (fun d1 => oe (decide (a < ↑s.size)) (fun d2 => ⟨[true, true], .inl ⟨(k - 1, (rdE s p (a, f)).1, (rdE s p (a, f)).2, some (L ++ [rdC s p (a, f)])), [s = s, s = s, (rdE s p (a, f)).fst = (rdE s p (a, f)).fst, (rdE s p (a, f)).snd = (rdE s p (a, f)).snd, p = p, L.length + (1 : Nat) = (L ++ [rdC s p (a, f)]).length, L ++ [rdC s p (a, f)] = L ++ [Con.mk (numV s (t0 s (a, f)).fst) (numV s (t2 s (a, f)).fst) (sgN s (t1 s (a, f))) (p == 2 && !evQ s (a, f)) (bif p == 2 && !evQ s (a, f) then numV s (t4 s (a, f)).fst else (0 : Int))], (View.con L).num = L.length ∧ L.length + (1 : Nat) ≤ (1000000 : Nat), L.length = L.length, s.size ≤ (900 : Nat) ∧ (0 : Int) ≤ a ∧ a ≤ ↑s.size, Dec (decide (a < ↑s.size)) true, Dec (!f) true], by kernel_rfl, ⟨?_, ?_, ?_, ?_, ?_, ?_, ?_, ?_, ?_, ?_, d2, (dN d1)⟩, MuG.out ?_, InG.out ?_⟩⟩) (fun d2 => ⟨[true, false], .inr ⟨[s = s, s = s, a = (rdFin s p (a0, f0)).snd.fst, f = (rdFin s p (a0, f0)).snd.snd, p = p, L.length = (rdFin s p (a0, f0)).fst.length, L = (rdFin s p (a0, f0)).fst, Dec (decide (a < ↑s.size)) false, Dec (!f) true], by kernel_rfl, ⟨?_, ?_, ?_, ?_, ?_, ?_, ?_, d2, (dN d1)⟩, rfl⟩⟩))
        all_goals first | (refine MuG.mk ?_; (have q := (hI.step d1 (of_decide_eq_true d2)).2; show k - 1 < k; exact Nat.sub_lt q Nat.one_pos)) | (refine InG.mk ?_; (exact ⟨(hI.step d1 (of_decide_eq_true d2)).1, (by intro e; simp at e), hD⟩)) | (refine CtG.mk ?_; (first | (rw [(hI.done (.inl d1)).1] at hD; cases hD; done) | (rw [(hI.done (.inr (of_decide_eq_false d2))).1] at hD; cases hD; done) | (rw [(hI.done (.inl d1)).1] at hD; have e := List.isEmpty_iff.1 hD.symm; exact absurd (congrArg some e) hO) | (rw [(hI.done (.inr (of_decide_eq_false d2))).1] at hD; have e := List.isEmpty_iff.1 hD.symm; exact absurd (congrArg some e) hO))) | (first | (with_reducible rfl) | exact rfl | exact (hI.done (.inl d1)).2.1.symm | exact (hI.done (.inl d1)).2.2.symm | exact (hI.done (.inl d1)).1.symm | (rw [(hI.done (.inl d1)).1]; rfl) | exact (hI.done (.inr (of_decide_eq_false d2))).2.1.symm | exact (hI.done (.inr (of_decide_eq_false d2))).2.2.symm | exact (hI.done (.inr (of_decide_eq_false d2))).1.symm | (rw [(hI.done (.inr (of_decide_eq_false d2))).1]; rfl) | exact ⟨hs, hI.lo, hI.hi⟩ | exact ⟨by decide, by decide⟩ | (have q1 : (L.length : Int) ≤ a + 1 := hI.len; have q2 : a ≤ (s.size : Int) := hI.hi; exact ⟨rfl, by omega⟩) | (simp; done))
    · -- d = true
      obtain ⟨hI, hO, hD⟩ := hI
      rcases o with _ | L
      · -- 1
        refine oe (f) (fun d1 => ⟨[false], .inr ⟨[s = s, s = s, a = (rdFin s p (a0, f0)).snd.fst, f = (rdFin s p (a0, f0)).snd.snd, p = p, Dec (!f) false], by kernel_rfl, ⟨?_, ?_, ?_, ?_, ?_, (dN d1)⟩, rfl⟩⟩) (fun d1 => oe (decide (a < ↑s.size)) (fun d2 => ⟨[true, true], .inl ⟨(k - 1, (rdE s p (a, f)).1, (rdE s p (a, f)).2, some [rdC s p (a, f)]), [s = s, s = s, (rdE s p (a, f)).fst = (rdE s p (a, f)).fst, (rdE s p (a, f)).snd = (rdE s p (a, f)).snd, p = p, (1 : Nat) = [rdC s p (a, f)].length, [rdC s p (a, f)] = [Con.mk (numV s (t0 s (a, f)).fst) (numV s (t2 s (a, f)).fst) (sgN s (t1 s (a, f))) (p == 2 && !evQ s (a, f)) (bif p == 2 && !evQ s (a, f) then numV s (t4 s (a, f)).fst else (0 : Int))], (0 : Nat) < (1 : Nat) ∧ (1 : Nat) ≤ (1000000 : Nat), s.size ≤ (900 : Nat) ∧ (0 : Int) ≤ a ∧ a ≤ ↑s.size, Dec (decide (a < ↑s.size)) true, Dec (!f) true], by kernel_rfl, ⟨?_, ?_, ?_, ?_, ?_, ?_, ?_, ?_, ?_, d2, (dN d1)⟩, MuG.out ?_, InG.out ?_⟩⟩) (fun d2 => ⟨[true, false], .inr ⟨[s = s, s = s, a = (rdFin s p (a0, f0)).snd.fst, f = (rdFin s p (a0, f0)).snd.snd, p = p, Dec (decide (a < (↑s.size : Int))) false, Dec (!f) true], by kernel_rfl, ⟨?_, ?_, ?_, ?_, ?_, d2, (dN d1)⟩, rfl⟩⟩))
        all_goals first | (refine MuG.mk ?_; (have q := (hI.step d1 (of_decide_eq_true d2)).2; show k - 1 < k; exact Nat.sub_lt q Nat.one_pos)) | (refine InG.mk ?_; (exact ⟨(hI.step d1 (of_decide_eq_true d2)).1, (by intro e; simp at e), hD⟩)) | (refine CtG.mk ?_; (first | (rw [(hI.done (.inl d1)).1] at hD; cases hD; done) | (rw [(hI.done (.inr (of_decide_eq_false d2))).1] at hD; cases hD; done) | (rw [(hI.done (.inl d1)).1] at hD; have e := List.isEmpty_iff.1 hD.symm; exact absurd (congrArg some e) hO) | (rw [(hI.done (.inr (of_decide_eq_false d2))).1] at hD; have e := List.isEmpty_iff.1 hD.symm; exact absurd (congrArg some e) hO))) | (first | (with_reducible rfl) | exact rfl | exact (hI.done (.inl d1)).2.1.symm | exact (hI.done (.inl d1)).2.2.symm | exact (hI.done (.inl d1)).1.symm | (rw [(hI.done (.inl d1)).1]; rfl) | exact (hI.done (.inr (of_decide_eq_false d2))).2.1.symm | exact (hI.done (.inr (of_decide_eq_false d2))).2.2.symm | exact (hI.done (.inr (of_decide_eq_false d2))).1.symm | (rw [(hI.done (.inr (of_decide_eq_false d2))).1]; rfl) | exact ⟨hs, hI.lo, hI.hi⟩ | exact ⟨by decide, by decide⟩ | (have q1 : (L.length : Int) ≤ a + 1 := hI.len; have q2 : a ≤ (s.size : Int) := hI.hi; exact ⟨rfl, by omega⟩) | (simp; done))
      · -- 2
        refine oe (f) (fun d1 => CtG.no ?_) (fun d1 => oe (decide (a < ↑s.size)) (fun d2 => ⟨[true, true], .inl ⟨(k - 1, (rdE s p (a, f)).1, (rdE s p (a, f)).2, some (L ++ [rdC s p (a, f)])), [s = s, s = s, (rdE s p (a, f)).fst = (rdE s p (a, f)).fst, (rdE s p (a, f)).snd = (rdE s p (a, f)).snd, p = p, L.length + (1 : Nat) = (L ++ [rdC s p (a, f)]).length, L ++ [rdC s p (a, f)] = L ++ [Con.mk (numV s (t0 s (a, f)).fst) (numV s (t2 s (a, f)).fst) (sgN s (t1 s (a, f))) (p == 2 && !evQ s (a, f)) (bif p == 2 && !evQ s (a, f) then numV s (t4 s (a, f)).fst else (0 : Int))], (View.con L).num = L.length ∧ L.length + (1 : Nat) ≤ (1000000 : Nat), L.length = L.length, s.size ≤ (900 : Nat) ∧ (0 : Int) ≤ a ∧ a ≤ ↑s.size, Dec (decide (a < ↑s.size)) true, Dec (!f) true], by kernel_rfl, ⟨?_, ?_, ?_, ?_, ?_, ?_, ?_, ?_, ?_, ?_, d2, (dN d1)⟩, MuG.out ?_, InG.out ?_⟩⟩) (fun d2 => CtG.no ?_))
        all_goals first | (refine MuG.mk ?_; (have q := (hI.step d1 (of_decide_eq_true d2)).2; show k - 1 < k; exact Nat.sub_lt q Nat.one_pos)) | (refine InG.mk ?_; (exact ⟨(hI.step d1 (of_decide_eq_true d2)).1, (by intro e; simp at e), hD⟩)) | (refine CtG.mk ?_; (first | (rw [(hI.done (.inl d1)).1] at hD; cases hD; done) | (rw [(hI.done (.inr (of_decide_eq_false d2))).1] at hD; cases hD; done) | (rw [(hI.done (.inl d1)).1] at hD; have e := List.isEmpty_iff.1 hD.symm; exact absurd (congrArg some e) hO) | (rw [(hI.done (.inr (of_decide_eq_false d2))).1] at hD; have e := List.isEmpty_iff.1 hD.symm; exact absurd (congrArg some e) hO))) | (first | (with_reducible rfl) | exact rfl | exact (hI.done (.inl d1)).2.1.symm | exact (hI.done (.inl d1)).2.2.symm | exact (hI.done (.inl d1)).1.symm | (rw [(hI.done (.inl d1)).1]; rfl) | exact (hI.done (.inr (of_decide_eq_false d2))).2.1.symm | exact (hI.done (.inr (of_decide_eq_false d2))).2.2.symm | exact (hI.done (.inr (of_decide_eq_false d2))).1.symm | (rw [(hI.done (.inr (of_decide_eq_false d2))).1]; rfl) | exact ⟨hs, hI.lo, hI.hi⟩ | exact ⟨by decide, by decide⟩ | (have q1 : (L.length : Int) ≤ a + 1 := hI.len; have q2 : a ≤ (s.size : Int) := hI.hi; exact ⟨rfl, by omega⟩) | (simp; done))
theorem read_pure (s : ByteArray) (hs : s.size ≤ 900) : PureC Tryz.prog [] 41 [.str s] (.tup [.agg [.int .i64 (rdP s), roC (rdT s).1], .bool (!(rdT s).2.2)]) := by
  have q0 := numE_bounds s 0; have q2 := q0.2 (by omega); have q1 := skA_bounds (s := s) (b := 58) (a := numE s 0) (by decide); have hl0 := rd_loop s (numV s 0) (skA s (58 : Int) (numE s (0 : Int))) (skB s (58 : Int) (numE s (0 : Int)) (numB s (0 : Int) false)) hs (by omega) (q1.2.2 (q0.2 (by omega)))
  have rr := fun (tp : List Bool) (ms : List Prop) h hm => pure_run evOk (callF_ok evOk rdOrc2_ok 8) Tryz.func41 (A := [.str s]) (N := Nat.max 1 Tryz.f41.ntmps) rfl (one_ann hl0) rfl rfl evNg (tabs := []) (R := .tup [.agg [.int .i64 (rdP s), roC (rdT s).1], .bool (!(rdT s).2.2)]) (tp := tp) (ms := ms) h hm
  refine oe ((rdFin s (numV s (0 : Int)) (skA s (58 : Int) (numE s (0 : Int)), skB s (58 : Int) (numE s (0 : Int)) (numB s (0 : Int) false))).fst.isEmpty) (fun d1 => rr [true] [numV s (0 : Int) = rdP s, (rdT s).fst.length = (0 : Nat), (!(rdFin s (numV s (0 : Int)) (skA s (58 : Int) (numE s (0 : Int)), skB s (58 : Int) (numE s (0 : Int)) (numB s (0 : Int) false))).snd.snd) = !(rdT s).snd.snd, (rdFin s (numV s (0 : Int)) (skA s (58 : Int) (numE s (0 : Int)), skB s (58 : Int) (numE s (0 : Int)) (numB s (0 : Int) false))).snd.snd = (rdFin s (numV s (0 : Int)) (skA s (58 : Int) (numE s (0 : Int)), skB s (58 : Int) (numE s (0 : Int)) (numB s (0 : Int) false))).snd.snd, s = s, s = s, skA s (58 : Int) (numE s (0 : Int)) = skA s (58 : Int) (numE s (0 : Int)), skB s (58 : Int) (numE s (0 : Int)) (numB s (0 : Int) false) = skB s (58 : Int) (numE s (0 : Int)) (numB s (0 : Int) false), numV s (0 : Int) = numV s (0 : Int), Dec (rdFin s (numV s (0 : Int)) (skA s (58 : Int) (numE s (0 : Int)), skB s (58 : Int) (numE s (0 : Int)) (numB s (0 : Int) false))).fst.isEmpty true, s.size ≤ (1000 : Nat) ∧ (0 : Int) ≤ numE s (0 : Int) ∧ numE s (0 : Int) ≤ 1000, s.size ≤ (1000 : Nat) ∧ (0 : Int) ≤ 0 ∧ (0 : Int) ≤ 1000] (by kernel_rfl) ⟨?_, ?_, ?_, ?_, ?_, ?_, ?_, ?_, ?_, d1, ?_, (?_ : s.size ≤ (1000 : Nat) ∧ (0 : Int) ≤ 0 ∧ (0 : Int) ≤ 1000)⟩) (fun d1 => rr [false] [numV s (0 : Int) = rdP s, (rdFin s (numV s (0 : Int)) (skA s (58 : Int) (numE s (0 : Int)), skB s (58 : Int) (numE s (0 : Int)) (numB s (0 : Int) false))).fst.length = (rdT s).fst.length ∧ (rdFin s (numV s (0 : Int)) (skA s (58 : Int) (numE s (0 : Int)), skB s (58 : Int) (numE s (0 : Int)) (numB s (0 : Int) false))).fst.length = (rdFin s (numV s (0 : Int)) (skA s (58 : Int) (numE s (0 : Int)), skB s (58 : Int) (numE s (0 : Int)) (numB s (0 : Int) false))).fst.length ∧ ∀ (i : Nat), i < (rdFin s (numV s (0 : Int)) (skA s (58 : Int) (numE s (0 : Int)), skB s (58 : Int) (numE s (0 : Int)) (numB s (0 : Int) false))).fst.length → (fun i => ((rdT s).fst.getD i Con.zero).rvs) i = ((rdFin s (numV s (0 : Int)) (skA s (58 : Int) (numE s (0 : Int)), skB s (58 : Int) (numE s (0 : Int)) (numB s (0 : Int) false))).fst.getD i Con.zero).rvs, (!(rdFin s (numV s (0 : Int)) (skA s (58 : Int) (numE s (0 : Int)), skB s (58 : Int) (numE s (0 : Int)) (numB s (0 : Int) false))).snd.snd) = !(rdT s).snd.snd, (rdFin s (numV s (0 : Int)) (skA s (58 : Int) (numE s (0 : Int)), skB s (58 : Int) (numE s (0 : Int)) (numB s (0 : Int) false))).snd.snd = (rdFin s (numV s (0 : Int)) (skA s (58 : Int) (numE s (0 : Int)), skB s (58 : Int) (numE s (0 : Int)) (numB s (0 : Int) false))).snd.snd, s = s, s = s, skA s (58 : Int) (numE s (0 : Int)) = skA s (58 : Int) (numE s (0 : Int)), skB s (58 : Int) (numE s (0 : Int)) (numB s (0 : Int) false) = skB s (58 : Int) (numE s (0 : Int)) (numB s (0 : Int) false), numV s (0 : Int) = numV s (0 : Int), Dec (rdFin s (numV s (0 : Int)) (skA s (58 : Int) (numE s (0 : Int)), skB s (58 : Int) (numE s (0 : Int)) (numB s (0 : Int) false))).fst.isEmpty false, s.size ≤ (1000 : Nat) ∧ (0 : Int) ≤ numE s (0 : Int) ∧ numE s (0 : Int) ≤ 1000, s.size ≤ (1000 : Nat) ∧ (0 : Int) ≤ 0 ∧ (0 : Int) ≤ 1000] (by kernel_rfl) ⟨?_, ?_, ?_, ?_, ?_, ?_, ?_, ?_, ?_, d1, ?_, (?_ : s.size ≤ (1000 : Nat) ∧ (0 : Int) ≤ 0 ∧ (0 : Int) ≤ 1000)⟩)
  all_goals first | (first | (with_reducible rfl) | exact rfl | omega | (have e : (rdT s).1 = [] := List.isEmpty_iff.1 d1; rw [e]; rfl) | exact ⟨rfl, rfl⟩ | exact ⟨rfl, rfl, fun _ _ => rfl⟩ | exact (5 : Nat))
end Go.Proofs.YtgdhgnhgmbkpdaaGreatDoor.S

namespace Go.Proofs.YtgdhgnhgmbkpdaaGreatDoor.S
open Go.QfSy Go.RowKit
noncomputable def fTT (p : Int) (L : List Con) : ByteArray := bif shV p L then txT L else ⟨#[]⟩
noncomputable def fET (p : Int) (L : List Con) : Int := bif shV p L then 0 else 22
noncomputable def rPT (s : ByteArray) : Int := bif goodT s then 2 else 0
noncomputable def rLT (s : ByteArray) : List Con := bif goodT s then conT s else []
noncomputable def rET (s : ByteArray) : Int := bif goodT s then 0 else 2
theorem resT_eq (s : ByteArray) : resT s = .tup [.agg [.int .i64 (rPT s), roC (rLT s)], .int .i64 (rET s)] := by
  unfold resT rPT rLT rET badR
  cases goodT s <;> rfl
end Go.Proofs.YtgdhgnhgmbkpdaaGreatDoor.S

namespace Go.Proofs.YtgdhgnhgmbkpdaaGreatDoor.S
open Go.QfSy Go.RowKit
theorem txA_2 (L : List Con) : txA 2 L = txT L := rfl
theorem pars_T1 {s : ByteArray} (h1 : (rdT s).2.2 = false) (h2 : shV (rdP s) (rdT s).1 = true) (h3 : eqB (txA (rdP s) (rdT s).1) s = true) : rPT s = rdP s ∧ rLT s = (rdT s).1 ∧ rET s = 0 := by
  have hp := (sh_bounds h2).1
  have e := eqB_true h3
  rw [hp] at h2 e ⊢
  rw [txA_2] at e
  obtain ⟨g1, g2⟩ := good_txT h2
  rw [e] at g1 g2
  unfold rPT rLT rET
  rw [g2, g1]
  exact ⟨rfl, rfl, rfl⟩
theorem pars_T2 {s : ByteArray} (h : goodT s = true) : (rdT s).2.2 = false ∧ shV (rdP s) (rdT s).1 = true ∧ eqB (txA (rdP s) (rdT s).1) s = true := by
  unfold goodT at h
  simp only [Bool.and_eq_true] at h
  obtain ⟨-, h2, h3⟩ := h
  have e := eqB_true h3
  obtain ⟨r1, r2⟩ := read_txT h2
  rw [e] at r1 r2
  rw [r1, r2]
  exact ⟨rfl, h2, h3⟩
theorem pars_T0 {s : ByteArray} (h : (rdT s).2.2 = false → shV (rdP s) (rdT s).1 = true → eqB (txA (rdP s) (rdT s).1) s = false) : rPT s = 0 ∧ rLT s = [] ∧ rET s = 2 := by
  have hg : goodT s = false := by
    cases hg : goodT s with
    | false => rfl
    | true =>
      obtain ⟨a, b, c⟩ := pars_T2 hg
      rw [h a b] at c
      cases c
  unfold rPT rLT rET
  rw [hg]
  exact ⟨rfl, rfl, rfl⟩
end Go.Proofs.YtgdhgnhgmbkpdaaGreatDoor.S

namespace Go.Proofs.YtgdhgnhgmbkpdaaGreatDoor.S
open Go.QfSy Go.RowKit
theorem RdI.final {s : ByteArray} {p : Int} {t : Int × Bool} : ∀ (k : Nat) (a : Int) (f : Bool) (L : List Con), RdI s p t k a f L → ((rdFin s p t).1.length : Int) ≤ s.size + 1 := by
  intro k
  induction k with
  | zero =>
    intro a f L h
    by_cases hf : f = false
    · by_cases ha : a < (s.size : Int)
      · exact absurd (h.step hf ha).2 (by decide)
      · rw [(h.done (.inr ha)).1]; have := h.len; have := h.hi; omega
    · rw [(h.done (.inl (by simpa using hf))).1]; have := h.len; have := h.hi; omega
  | succ k ih =>
    intro a f L h
    by_cases hf : f = false
    · by_cases ha : a < (s.size : Int)
      · exact ih _ _ _ (h.step hf ha).1
      · rw [(h.done (.inr ha)).1]; have := h.len; have := h.hi; omega
    · rw [(h.done (.inl (by simpa using hf))).1]; have := h.len; have := h.hi; omega
theorem rdT_len {s : ByteArray} (hs : s.size ≤ 900) : (rdT s).1.length ≤ 1000 := by
  have q0 := numE_bounds s 0
  have q2 := q0.2 (by omega)
  have q1 := skA_bounds (s := s) (b := 58) (a := numE s 0) (by decide)
  have h := (RdI.start (s := s) (p := rdP s) (a := skA s 58 (numE s 0)) (f := skB s 58 (numE s 0) (numB s 0 false)) (by omega) (q1.2.2 q2)).final
  have h : ((rdT s).1.length : Int) ≤ s.size + 1 := h
  omega
noncomputable def entsRd : List OEnt := [
  ⟨41, [], fun A => match A with
    | [.str s] => some (.tup [.agg [.int .i64 (rdP s), roC (rdT s).1], .bool (!(rdT s).2.2)], [s.size ≤ 900])
    | _ => none⟩]
theorem entsRd_ok : ∀ e ∈ entsRd, EntOk Tryz.prog e := by
  intro e he
  unfold entsRd at he
  rw [List.mem_singleton] at he
  subst he
  intro A R ms h hm
  simp only at h
  split at h
  · cases h
    exact read_pure _ (all_one hm)
  · cases h
noncomputable def entsNE2 : List OEnt := entsRd ++ entsFV
theorem entsNE2_ok : ∀ e ∈ entsNE2, EntOk Tryz.prog e := by
  intro e he
  unfold entsNE2 at he
  rcases List.mem_append.1 he with h | h
  · exact entsRd_ok e h
  · exact entsFV_ok e h
attribute [local irreducible] rdP rdT rPT rLT rET txA
theorem rparseT_pure (s : ByteArray) (hs : s.size ≤ 900) : PureC Tryz.prog [] 24 [.str s] (.tup [.agg [.int .i64 (rPT s), roC (rLT s)], .int .i64 (rET s)]) := by
  have ln := rdT_len hs
  have rr := fun (tp : List Bool) (ms : List Prop) h hm => pure_run evOk (callF_ok evOk (orcOf_ok entsNE2_ok) 8) Tryz.func24 (A := [.str s]) rfl none_ann rfl rfl evNg (tabs := []) (R := .tup [.agg [.int .i64 (rPT s), roC (rLT s)], .int .i64 (rET s)]) (tp := tp) (ms := ms) h hm
  refine oe ((rdT s).snd.snd) (fun d1 => rr [true] [(0 : Int) = rPT s, (rLT s).length = (0 : Nat), (2 : Int) = rET s, Dec (!!(rdT s).snd.snd) true, s.size ≤ (900 : Nat)] (by kernel_rfl) ⟨?_, ?_, ?_, (dN (dN d1)), (?_ : s.size ≤ (900 : Nat))⟩) (fun d1 => oe (val2M (rdP s) (consR (rdT s).fst.length fun i => ((rdT s).fst.getD i Con.zero).rvs)) (fun d2 => oe ((txA (rdP s) (consR (rdT s).fst.length fun i => ((rdT s).fst.getD i Con.zero).rvs)).toList == s.toList) (fun d3 => rr [false, false, false] [rdP s = rPT s, (rdT s).fst.length = (rLT s).length ∧ (fun i => ((rdT s).fst.getD i Con.zero).rvs) = (rws (rLT s)), (0 : Int) = rET s, Dec (!(txA (rdP s) (consR (rdT s).fst.length fun i => ((rdT s).fst.getD i Con.zero).rvs)).toList == s.toList) false, (∀ (i : Nat), i < (rdT s).fst.length → (fun i => ((rdT s).fst.getD i Con.zero).rvs) i = (Con.ofR ((fun i => ((rdT s).fst.getD i Con.zero).rvs) i)).rvs) ∧ (0 : Int) ≤ rdP s ∧ rdP s ≤ 9973 ∧ (∀ (c : Con), (c ∈ consR (rdT s).fst.length fun i => ((rdT s).fst.getD i Con.zero).rvs) → okD c ∧ (c.sign = 1 ∨ c.sign = -1)) ∧ (rdT s).fst.length ≤ (8 : Nat), Dec (!val2M (rdP s) (consR (rdT s).fst.length fun i => ((rdT s).fst.getD i Con.zero).rvs)) false, (∀ (i : Nat), i < (rdT s).fst.length → (fun i => ((rdT s).fst.getD i Con.zero).rvs) i = (Con.ofR ((fun i => ((rdT s).fst.getD i Con.zero).rvs) i)).rvs) ∧ (rdT s).fst.length ≤ (1000 : Nat), Dec (!!(rdT s).snd.snd) false, s.size ≤ (900 : Nat)] (by kernel_rfl) ⟨?_, ?_, ?_, (dN d3), ?_, (dN d2), ?_, (dN (dN d1)), (?_ : s.size ≤ (900 : Nat))⟩) (fun d3 => rr [false, false, true] [(0 : Int) = rPT s, (rLT s).length = (0 : Nat), (2 : Int) = rET s, Dec (!(txA (rdP s) (consR (rdT s).fst.length fun i => ((rdT s).fst.getD i Con.zero).rvs)).toList == s.toList) true, (∀ (i : Nat), i < (rdT s).fst.length → (fun i => ((rdT s).fst.getD i Con.zero).rvs) i = (Con.ofR ((fun i => ((rdT s).fst.getD i Con.zero).rvs) i)).rvs) ∧ (0 : Int) ≤ rdP s ∧ rdP s ≤ 9973 ∧ (∀ (c : Con), (c ∈ consR (rdT s).fst.length fun i => ((rdT s).fst.getD i Con.zero).rvs) → okD c ∧ (c.sign = 1 ∨ c.sign = -1)) ∧ (rdT s).fst.length ≤ (8 : Nat), Dec (!val2M (rdP s) (consR (rdT s).fst.length fun i => ((rdT s).fst.getD i Con.zero).rvs)) false, (∀ (i : Nat), i < (rdT s).fst.length → (fun i => ((rdT s).fst.getD i Con.zero).rvs) i = (Con.ofR ((fun i => ((rdT s).fst.getD i Con.zero).rvs) i)).rvs) ∧ (rdT s).fst.length ≤ (1000 : Nat), Dec (!!(rdT s).snd.snd) false, s.size ≤ (900 : Nat)] (by kernel_rfl) ⟨?_, ?_, ?_, (dN d3), ?_, (dN d2), ?_, (dN (dN d1)), (?_ : s.size ≤ (900 : Nat))⟩)) (fun d2 => oe (fusM (rdP s) (consR (rdT s).fst.length fun i => ((rdT s).fst.getD i Con.zero).rvs)) (fun d3 => oe ((txA (rdP s) (consR (rdT s).fst.length fun i => ((rdT s).fst.getD i Con.zero).rvs)).toList == s.toList) (fun d4 => rr [false, true, false, false] [rdP s = rPT s, (rdT s).fst.length = (rLT s).length ∧ (fun i => ((rdT s).fst.getD i Con.zero).rvs) = (rws (rLT s)), (0 : Int) = rET s, Dec (!(txA (rdP s) (consR (rdT s).fst.length fun i => ((rdT s).fst.getD i Con.zero).rvs)).toList == s.toList) false, (∀ (i : Nat), i < (rdT s).fst.length → (fun i => ((rdT s).fst.getD i Con.zero).rvs) i = (Con.ofR ((fun i => ((rdT s).fst.getD i Con.zero).rvs) i)).rvs) ∧ (0 : Int) ≤ rdP s ∧ rdP s ≤ 9973 ∧ (∀ (c : Con), (c ∈ consR (rdT s).fst.length fun i => ((rdT s).fst.getD i Con.zero).rvs) → okD c ∧ (c.sign = 1 ∨ c.sign = -1)) ∧ (rdT s).fst.length ≤ (8 : Nat), Dec (!fusM (rdP s) (consR (rdT s).fst.length fun i => ((rdT s).fst.getD i Con.zero).rvs)) false, (∀ (i : Nat), i < (rdT s).fst.length → (fun i => ((rdT s).fst.getD i Con.zero).rvs) i = (Con.ofR ((fun i => ((rdT s).fst.getD i Con.zero).rvs) i)).rvs) ∧ (rdT s).fst.length ≤ (1000 : Nat), Dec (!val2M (rdP s) (consR (rdT s).fst.length fun i => ((rdT s).fst.getD i Con.zero).rvs)) true, (∀ (i : Nat), i < (rdT s).fst.length → (fun i => ((rdT s).fst.getD i Con.zero).rvs) i = (Con.ofR ((fun i => ((rdT s).fst.getD i Con.zero).rvs) i)).rvs) ∧ (rdT s).fst.length ≤ (1000 : Nat), Dec (!!(rdT s).snd.snd) false, s.size ≤ (900 : Nat)] (by kernel_rfl) ⟨?_, ?_, ?_, (dN d4), ?_, (dN d3), ?_, (dN d2), ?_, (dN (dN d1)), (?_ : s.size ≤ (900 : Nat))⟩) (fun d4 => rr [false, true, false, true] [(0 : Int) = rPT s, (rLT s).length = (0 : Nat), (2 : Int) = rET s, Dec (!(txA (rdP s) (consR (rdT s).fst.length fun i => ((rdT s).fst.getD i Con.zero).rvs)).toList == s.toList) true, (∀ (i : Nat), i < (rdT s).fst.length → (fun i => ((rdT s).fst.getD i Con.zero).rvs) i = (Con.ofR ((fun i => ((rdT s).fst.getD i Con.zero).rvs) i)).rvs) ∧ (0 : Int) ≤ rdP s ∧ rdP s ≤ 9973 ∧ (∀ (c : Con), (c ∈ consR (rdT s).fst.length fun i => ((rdT s).fst.getD i Con.zero).rvs) → okD c ∧ (c.sign = 1 ∨ c.sign = -1)) ∧ (rdT s).fst.length ≤ (8 : Nat), Dec (!fusM (rdP s) (consR (rdT s).fst.length fun i => ((rdT s).fst.getD i Con.zero).rvs)) false, (∀ (i : Nat), i < (rdT s).fst.length → (fun i => ((rdT s).fst.getD i Con.zero).rvs) i = (Con.ofR ((fun i => ((rdT s).fst.getD i Con.zero).rvs) i)).rvs) ∧ (rdT s).fst.length ≤ (1000 : Nat), Dec (!val2M (rdP s) (consR (rdT s).fst.length fun i => ((rdT s).fst.getD i Con.zero).rvs)) true, (∀ (i : Nat), i < (rdT s).fst.length → (fun i => ((rdT s).fst.getD i Con.zero).rvs) i = (Con.ofR ((fun i => ((rdT s).fst.getD i Con.zero).rvs) i)).rvs) ∧ (rdT s).fst.length ≤ (1000 : Nat), Dec (!!(rdT s).snd.snd) false, s.size ≤ (900 : Nat)] (by kernel_rfl) ⟨?_, ?_, ?_, (dN d4), ?_, (dN d3), ?_, (dN d2), ?_, (dN (dN d1)), (?_ : s.size ≤ (900 : Nat))⟩)) (fun d3 => rr [false, true, true] [(0 : Int) = rPT s, (rLT s).length = (0 : Nat), (2 : Int) = rET s, Dec (!fusM (rdP s) (consR (rdT s).fst.length fun i => ((rdT s).fst.getD i Con.zero).rvs)) true, (∀ (i : Nat), i < (rdT s).fst.length → (fun i => ((rdT s).fst.getD i Con.zero).rvs) i = (Con.ofR ((fun i => ((rdT s).fst.getD i Con.zero).rvs) i)).rvs) ∧ (rdT s).fst.length ≤ (1000 : Nat), Dec (!val2M (rdP s) (consR (rdT s).fst.length fun i => ((rdT s).fst.getD i Con.zero).rvs)) true, (∀ (i : Nat), i < (rdT s).fst.length → (fun i => ((rdT s).fst.getD i Con.zero).rvs) i = (Con.ofR ((fun i => ((rdT s).fst.getD i Con.zero).rvs) i)).rvs) ∧ (rdT s).fst.length ≤ (1000 : Nat), Dec (!!(rdT s).snd.snd) false, s.size ≤ (900 : Nat)] (by kernel_rfl) ⟨?_, ?_, ?_, (dN d3), ?_, (dN d2), ?_, (dN (dN d1)), (?_ : s.size ≤ (900 : Nat))⟩)))
  all_goals first | (first | (with_reducible rfl) | exact hs | ((try simp only [consR_ro] at *); first | exact ⟨fun _ _ => rfl, ln⟩ | (have k := sh_text (show shV (rdP s) (rdT s).1 = true from by unfold shV; rw [d2]; rfl); exact ⟨fun _ _ => rfl, by omega, by omega, k.2.1, k.2.2⟩) | (have k := sh_text (show shV (rdP s) (rdT s).1 = true from by unfold shV; rw [d2, d3]; rfl); exact ⟨fun _ _ => rfl, by omega, by omega, k.2.1, k.2.2⟩) | (have k := pars_T0 (s := s) (fun h _ => absurd (d1.symm.trans h) (by decide)); first | exact k.1.symm | exact k.2.2.symm | (rw [k.2.1]; rfl)) | (have k := pars_T0 (s := s) (fun _ h => absurd ((show shV (rdP s) (rdT s).1 = false from by unfold shV; rw [d2, d3]; rfl).symm.trans h) (by decide)); first | exact k.1.symm | exact k.2.2.symm | (rw [k.2.1]; rfl)) | (have k := pars_T0 (s := s) (fun _ _ => d3); first | exact k.1.symm | exact k.2.2.symm | (rw [k.2.1]; rfl)) | (have k := pars_T0 (s := s) (fun _ _ => d4); first | exact k.1.symm | exact k.2.2.symm | (rw [k.2.1]; rfl)) | (have k := pars_T1 (s := s) d1 (show shV (rdP s) (rdT s).1 = true from by unfold shV; rw [d2]; rfl) d3; first | exact k.1.symm | exact k.2.2.symm | (rw [k.2.1]; exact ⟨rfl, rfl⟩)) | (have k := pars_T1 (s := s) d1 (show shV (rdP s) (rdT s).1 = true from by unfold shV; rw [d2, d3]; rfl) d4; first | exact k.1.symm | exact k.2.2.symm | (rw [k.2.1]; exact ⟨rfl, rfl⟩))))
end Go.Proofs.YtgdhgnhgmbkpdaaGreatDoor.S

namespace Go.Proofs.YtgdhgnhgmbkpdaaGreatDoor.S
open Go.QfSy Go.RowKit
set_option maxRecDepth 1000000 in
theorem awake2_run : isT0 (bodyF EC (callF EC noOrc 60) noLo 18 (RV.avl []) ⟨trOf (tabList tabs), 1000, [], []⟩) = true := by kernel_rfl
theorem awake2_pure : PureC Tryz.prog tabs 18 [] (.bool true) :=
  pure_true ecOk (callF_ok ecOk (noOrc_ok _ _) 60) rfl rfl ecNg awake2_run
end Go.Proofs.YtgdhgnhgmbkpdaaGreatDoor.S

namespace Go.Proofs.YtgdhgnhgmbkpdaaGreatDoor.S
open Go.QfSy Go.RowKit
noncomputable def entsLN (kx : Int) (X : List Prt) (t : ByteArray) : List OEnt := [
  ⟨24, [], fun A => match A with
    | [.str s] => some (.tup [.agg [.int .i64 (rPT s), roC (rLT s)], .int .i64 (rET s)], [s.size ≤ 900])
    | _ => none⟩,
  ⟨21, [], fun A => match A with
    | [.agg [.int .i64 p, .sl n 5 row]] => some (.tup [.str t, .int .i64 (fET p (consR n row))], [(∀ i, i < n → row i = (Con.ofR (row i)).rvs) ∧ p = 2 ∧ consR n row = listV 8 true X ∧ n ≤ 1000])
    | _ => none⟩,
  ⟨22, pTabs, fun A => match A with
    | [.str s] => some (.tup [.agg [.int .i64 (rPT s), roC (rLT s)], .int .i64 (rET s)], [s.size ≤ 900])
    | _ => none⟩,
  ⟨13, [], fun A => match A with
    | [.agg [.int .i64 p, .sl n 5 row], .agg [.int .i64 q, .sl m 5 row']] => some (.bool true, [(∀ i, i < n → row i = (Con.ofR (row i)).rvs) ∧ (∀ i, i < m → row' i = (Con.ofR (row' i)).rvs) ∧ p = q ∧ consR n row = consR m row' ∧ n ≤ 1000])
    | _ => none⟩,
  ⟨40, [], fun A => match A with
    | [.agg [.int .u8 pr, .sl n 5 row], .int .i64 most, .bool two] => some (roC (listV most two (prtR n row)), [(∀ i, i < n → row i = (Prt.ofR (row i)).rvs) ∧ (∀ p ∈ prtR n row, p.ok) ∧ 1 ≤ most ∧ most ≤ 100 ∧ n ≤ 1000])
    | _ => none⟩,
  ⟨18, tabs, fun A => match A with
    | [] => some (.bool true, [])
    | _ => none⟩]
theorem entsLN_ok {kx : Int} {X : List Prt} {t : ByteArray} (ht : t = fTT 2 (listV 8 true X)) : ∀ e ∈ entsLN kx X t, EntOk Tryz.prog e := by
  intro e he
  simp only [entsLN, List.mem_cons, List.not_mem_nil, or_false] at he
  rcases he with rfl | rfl | rfl | rfl | rfl | rfl
  all_goals
    intro A R ms h hm
    simp only at h
    split at h
    all_goals first | (cases h; done) | cases h
  · exact rparseT_pure _ (all_one hm)
  · obtain ⟨h1, h2, h3, h4⟩ := all_one hm
    subst h2
    rw [ht, ← h3]
    exact PureC.imp (rfmtT_pure _ _ (by rw [consR_len]; exact h4)) (.cons (.agg (.cons .same (.cons (.con h1) .nil))) .nil)
  · have h1 := all_one hm
    exact resT_eq _ ▸ parseT_pure _ h1
  · obtain ⟨h1, h2, h3, h4, h5⟩ := all_one hm
    subst h3
    exact PureC.imp (same_pure _ _ (by rw [consR_len]; exact h5)) (.cons (.agg (.cons .same (.cons (.con h1) .nil))) (.cons (.agg (.cons .same (.cons (by rw [h4]; exact .con h2) .nil))) .nil))
  · obtain ⟨h1, h2, h3, h4, h5⟩ := all_one hm
    exact list_rows h1 h2 h3 h4 h5
  · exact awake2_pure
theorem ext_size (s : ByteArray) (a b : Nat) : (s.extract a b).size ≤ s.size := by
  rw [ByteArray.size_extract]; omega
theorem fTT_small (p : Int) (L : List Con) : (fTT p L).size ≤ 200 := by
  unfold fTT
  cases h : shV p L with
  | true =>
    obtain ⟨-, h1, h2⟩ := sh_bounds h
    simp only [cond_true]
    unfold txT
    have := txB2_size h1 ⟨#[50, 58]⟩
    have h4 : (ByteArray.mk #[50, 58]).size = 2 := rfl
    omega
  | false => exact Nat.zero_le _
theorem fTT_pos {p : Int} {L : List Con} (h : shV p L = true) : 0 < (fTT p L).size := by
  unfold fTT
  rw [h]
  simp only [cond_true]
  unfold txT
  have := txB2_ge L ⟨#[50, 58]⟩
  have h2 : (ByteArray.mk #[50, 58]).size = 2 := rfl
  omega
theorem raw_sh {X : List Prt} {most : Int} (h1 : 1 ≤ most) (hm : most ≤ 8) (hX : ∀ p ∈ X, p.ok) : shV 2 (listV most true X) = true := by
  unfold shV
  rw [val2_listV h1 hm hX]
  rfl
theorem rLT_len {s : ByteArray} (hs : s.size ≤ 900) : (rLT s).length ≤ 1000 := by
  unfold rLT
  cases goodT s with
  | false => exact Nat.zero_le _
  | true =>
    simp only [cond_true]
    unfold conT rdW
    rw [List.length_map]
    have := words_len s
    omega
theorem at_wrap {a : Int} {n : Nat} (ha : U8 a) : IntKind.i64.wrap a = a := w64 (by have := ha.1; omega) (by have := ha.2; omega)
theorem at_rng {a : Int} {n : Nat} (ha : U8 a) (hn : 0 < n) : 0 ≤ a.tmod (n : Int) ∧ a.tmod (n : Int) < n := by
  obtain ⟨h0, h1⟩ := ha
  exact ⟨Int.tmod_nonneg _ h0, Int.tmod_lt_of_pos _ (by omega)⟩
theorem cat3_size (t u : ByteArray) (a b c d : Nat) : (t.extract a b ++ u ++ t.extract c d).size ≤ 2 * t.size + u.size := by
  have h1 := ext_size t a b
  have h2 := ext_size t c d
  rw [ByteArray.size_append, ByteArray.size_append]
  omega
theorem cat2_size (t : ByteArray) (a b c d : Nat) : (t.extract a b ++ t.extract c d).size ≤ 2 * t.size := by
  have h1 := ext_size t a b
  have h2 := ext_size t c d
  rw [ByteArray.size_append]
  omega
theorem cat1_size (t u : ByteArray) (a b : Nat) : (t.extract a b ++ u).size ≤ t.size + u.size := by
  have h1 := ext_size t a b
  rw [ByteArray.size_append]
  omega
theorem cat3s (t : ByteArray) (x : Int) (a b c d : Nat) : (t.extract a b ++ strOfNums [x] ++ t.extract c d).size ≤ 2 * t.size + 1 := cat3_size t (strOfNums [x]) a b c d
theorem cat1s (t : ByteArray) (x : Int) (a b c d : Nat) : (t.extract a b ++ strOfNums [x]).size + (t.extract c d).size ≤ 2 * t.size + 1 := by
  have h1 := cat1_size t (strOfNums [x]) a b
  have h2 := ext_size t c d
  have h3 : (strOfNums [x]).size = 1 := rfl
  omega
theorem ext1s (t : ByteArray) (x : Int) (a b : Nat) : (t.extract a b).size + (strOfNums [x]).size ≤ t.size + 1 := by
  have h1 := ext_size t a b
  have h3 : (strOfNums [x]).size = 1 := rfl
  omega
theorem ext2s (t : ByteArray) (a b c d : Nat) : (t.extract a b).size + (t.extract c d).size ≤ 2 * t.size := by
  have h1 := ext_size t a b
  have h2 := ext_size t c d
  omega
attribute [local irreducible] ByteArray.extract strOfNums ByteArray.size fTT fET rPT rLT rET
set_option maxHeartbeats 2000000 in
theorem trainParse_t (s : ByteArray) (kx : Int) (X : List Prt) (a b : Int) (made drop : Bool) (t : ByteArray) (hk : U8 kx) (hX : ∀ p ∈ X, p.ok) (ha : U8 a) (hb : U8 b) (ht : t = fTT 2 (listV 8 true X)) : PureC Tryz.prog tabs 6 [.str s, .agg [.int .u8 kx, roP X], .int .u8 a, .int .u8 b, .bool made, .bool drop] (.bool true) := by
  have z0 := raw_sh (most := 8) (by decide) (by decide) hX; have z1 : 0 < t.size := (by rw [ht]; exact fTT_pos z0); have z2 : t.size ≤ 200 := (by rw [ht]; exact fTT_small _ _); have l1 := listV_len (most := 8) (two := true) (X := X); have hw : IntKind.i64.wrap a = a := at_wrap (n := 0) ha; have hr := at_rng (a := a) ha z1; have hw2 : IntKind.i64.wrap (a.tmod (t.size : Int) + 1) = a.tmod (t.size : Int) + 1 := w64 (by have := hr.1; omega) (by have := hr.2; omega)
  have rr := fun (tp : List Bool) (ms : List Prop) h hm => pure_run evOk (callF_ok evOk (orcOf_ok (entsLN_ok (kx := kx) (X := X) (t := t) ht)) 8) Tryz.func6 (A := [.str s, .agg [.int .u8 kx, roP X], .int .u8 a, .int .u8 b, .bool made, .bool drop]) rfl none_ann rfl rfl evNg (tabs := tabs) (R := .bool true) (tp := tp) (ms := ms) h hm
  refine oe (decide ((↑s.size : Int) > (300 : Int))) (fun d1 => rr [true] [true = true, Dec (decide ((↑s.size : Int) > (300 : Int))) true] (by kernel_rfl) ⟨?_, d1⟩) (fun d1 => oe (decide ((↑X.length : Int) > (20 : Int))) (fun d2 => rr [false, true] [true = true, Dec (decide ((↑X.length : Int) > (20 : Int))) true, Dec (decide ((↑s.size : Int) > (300 : Int))) false] (by kernel_rfl) ⟨?_, d2, d1⟩) (fun d2 => oe (made) (fun d3 => oe (drop) (fun d4 => oe (rET (t.extract (0 : Nat) ((IntKind.i64.wrap a).tmod (↑t.size : Int)).toNat ++ t.extract (IntKind.i64.wrap ((IntKind.i64.wrap a).tmod (↑t.size : Int) + 1)).toNat t.size) == rET (t.extract (0 : Nat) ((IntKind.i64.wrap a).tmod (↑t.size : Int)).toNat ++ t.extract (IntKind.i64.wrap ((IntKind.i64.wrap a).tmod (↑t.size : Int) + 1)).toNat t.size)) (fun d5 => oe (true) (fun d6 => rr [false, false, true, true, true, true] [true = true, Dec true true, (∀ (i : Nat), i < (rLT (t.extract (0 : Nat) ((IntKind.i64.wrap a).tmod (↑t.size : Int)).toNat ++ t.extract (IntKind.i64.wrap ((IntKind.i64.wrap a).tmod (↑t.size : Int) + 1)).toNat t.size)).length → ((rws (rLT (t.extract (0 : Nat) ((IntKind.i64.wrap a).tmod (↑t.size : Int)).toNat ++ t.extract (IntKind.i64.wrap ((IntKind.i64.wrap a).tmod (↑t.size : Int) + 1)).toNat t.size)))) i = (Con.ofR (((rws (rLT (t.extract (0 : Nat) ((IntKind.i64.wrap a).tmod (↑t.size : Int)).toNat ++ t.extract (IntKind.i64.wrap ((IntKind.i64.wrap a).tmod (↑t.size : Int) + 1)).toNat t.size)))) i)).rvs) ∧ (∀ (i : Nat), i < (rLT (t.extract (0 : Nat) ((IntKind.i64.wrap a).tmod (↑t.size : Int)).toNat ++ t.extract (IntKind.i64.wrap ((IntKind.i64.wrap a).tmod (↑t.size : Int) + 1)).toNat t.size)).length → ((rws (rLT (t.extract (0 : Nat) ((IntKind.i64.wrap a).tmod (↑t.size : Int)).toNat ++ t.extract (IntKind.i64.wrap ((IntKind.i64.wrap a).tmod (↑t.size : Int) + 1)).toNat t.size)))) i = (Con.ofR (((rws (rLT (t.extract (0 : Nat) ((IntKind.i64.wrap a).tmod (↑t.size : Int)).toNat ++ t.extract (IntKind.i64.wrap ((IntKind.i64.wrap a).tmod (↑t.size : Int) + 1)).toNat t.size)))) i)).rvs) ∧ rPT (t.extract (0 : Nat) ((IntKind.i64.wrap a).tmod (↑t.size : Int)).toNat ++ t.extract (IntKind.i64.wrap ((IntKind.i64.wrap a).tmod (↑t.size : Int) + 1)).toNat t.size) = rPT (t.extract (0 : Nat) ((IntKind.i64.wrap a).tmod (↑t.size : Int)).toNat ++ t.extract (IntKind.i64.wrap ((IntKind.i64.wrap a).tmod (↑t.size : Int) + 1)).toNat t.size) ∧ ((consR (rLT (t.extract (0 : Nat) ((IntKind.i64.wrap a).tmod (↑t.size : Int)).toNat ++ t.extract (IntKind.i64.wrap ((IntKind.i64.wrap a).tmod (↑t.size : Int) + 1)).toNat t.size)).length (rws (rLT (t.extract (0 : Nat) ((IntKind.i64.wrap a).tmod (↑t.size : Int)).toNat ++ t.extract (IntKind.i64.wrap ((IntKind.i64.wrap a).tmod (↑t.size : Int) + 1)).toNat t.size)))) = consR (rLT (t.extract (0 : Nat) ((IntKind.i64.wrap a).tmod (↑t.size : Int)).toNat ++ t.extract (IntKind.i64.wrap ((IntKind.i64.wrap a).tmod (↑t.size : Int) + 1)).toNat t.size)).length (rws (rLT (t.extract (0 : Nat) ((IntKind.i64.wrap a).tmod (↑t.size : Int)).toNat ++ t.extract (IntKind.i64.wrap ((IntKind.i64.wrap a).tmod (↑t.size : Int) + 1)).toNat t.size)))) ∧ (rLT (t.extract (0 : Nat) ((IntKind.i64.wrap a).tmod (↑t.size : Int)).toNat ++ t.extract (IntKind.i64.wrap ((IntKind.i64.wrap a).tmod (↑t.size : Int) + 1)).toNat t.size)).length ≤ (1000 : Nat), Dec (rET (t.extract (0 : Nat) ((IntKind.i64.wrap a).tmod (↑t.size : Int)).toNat ++ t.extract (IntKind.i64.wrap ((IntKind.i64.wrap a).tmod (↑t.size : Int) + 1)).toNat t.size) == rET (t.extract (0 : Nat) ((IntKind.i64.wrap a).tmod (↑t.size : Int)).toNat ++ t.extract (IntKind.i64.wrap ((IntKind.i64.wrap a).tmod (↑t.size : Int) + 1)).toNat t.size)) true, (t.extract (0 : Nat) ((IntKind.i64.wrap a).tmod (↑t.size : Int)).toNat ++ t.extract (IntKind.i64.wrap ((IntKind.i64.wrap a).tmod (↑t.size : Int) + 1)).toNat t.size).size ≤ (900 : Nat), (t.extract (0 : Nat) ((IntKind.i64.wrap a).tmod (↑t.size : Int)).toNat ++ t.extract (IntKind.i64.wrap ((IntKind.i64.wrap a).tmod (↑t.size : Int) + 1)).toNat t.size).size ≤ (900 : Nat), (t.extract (0 : Nat) ((IntKind.i64.wrap a).tmod (↑t.size : Int)).toNat).size + (t.extract (IntKind.i64.wrap ((IntKind.i64.wrap a).tmod (↑t.size : Int) + 1)).toNat t.size).size ≤ (1000000 : Nat), (0 : Int) ≤ IntKind.i64.wrap ((IntKind.i64.wrap a).tmod (↑t.size : Int) + 1) ∧ IntKind.i64.wrap ((IntKind.i64.wrap a).tmod (↑t.size : Int) + 1) ≤ ↑t.size, (0 : Int) ≤ (IntKind.i64.wrap a).tmod (↑t.size : Int) ∧ (IntKind.i64.wrap a).tmod (↑t.size : Int) ≤ ↑t.size, Dec drop true, (t.extract (0 : Nat) ((IntKind.i64.wrap a).tmod (↑t.size : Int)).toNat ++ strOfNums [b]).size + (t.extract (IntKind.i64.wrap ((IntKind.i64.wrap a).tmod (↑t.size : Int) + 1)).toNat t.size).size ≤ (1000000 : Nat), (0 : Int) ≤ IntKind.i64.wrap ((IntKind.i64.wrap a).tmod (↑t.size : Int) + 1) ∧ IntKind.i64.wrap ((IntKind.i64.wrap a).tmod (↑t.size : Int) + 1) ≤ ↑t.size, (t.extract (0 : Nat) ((IntKind.i64.wrap a).tmod (↑t.size : Int)).toNat).size + (strOfNums [b]).size ≤ (1000000 : Nat), (0 : Int) ≤ (IntKind.i64.wrap a).tmod (↑t.size : Int) ∧ (IntKind.i64.wrap a).tmod (↑t.size : Int) ≤ ↑t.size, (↑t.size : Int) ≠ (0 : Int), (∀ (i : Nat), i < (listV (8 : Int) true (prtR X.length fun i => (X.getD i Prt.zero).rvs)).length → ((rws (listV (8 : Int) true (prtR X.length fun i => (X.getD i Prt.zero).rvs)))) i = (Con.ofR (((rws (listV (8 : Int) true (prtR X.length fun i => (X.getD i Prt.zero).rvs)))) i)).rvs) ∧ (2 : Int) = 2 ∧ (consR (listV (8 : Int) true (prtR X.length fun i => (X.getD i Prt.zero).rvs)).length (rws (listV (8 : Int) true (prtR X.length fun i => (X.getD i Prt.zero).rvs)))) = listV (8 : Int) true X ∧ (listV (8 : Int) true (prtR X.length fun i => (X.getD i Prt.zero).rvs)).length ≤ (1000 : Nat), (∀ (i : Nat), i < X.length → (fun i => (X.getD i Prt.zero).rvs) i = (Prt.ofR ((fun i => (X.getD i Prt.zero).rvs) i)).rvs) ∧ (∀ (p : Prt), (p ∈ prtR X.length fun i => (X.getD i Prt.zero).rvs) → p.ok) ∧ (1 : Int) ≤ 8 ∧ (8 : Int) ≤ 100 ∧ X.length ≤ (1000 : Nat), Dec made true, Dec (decide ((↑X.length : Int) > 20)) false, Dec (decide ((↑s.size : Int) > 300)) false] (by kernel_rfl) ⟨?_, d6, ?_, d5, ?_, ?_, ?_, ?_, ?_, d4, ?_, ?_, ?_, ?_, ?_, ?_, ?_, d3, d2, d1⟩) (fun d6 => CtG.no ?_)) (fun d5 => CtG.no ?_)) (fun d4 => oe (rET (t.extract (0 : Nat) ((IntKind.i64.wrap a).tmod (↑t.size : Int)).toNat ++ strOfNums [b] ++ t.extract (IntKind.i64.wrap ((IntKind.i64.wrap a).tmod (↑t.size : Int) + 1)).toNat t.size) == rET (t.extract (0 : Nat) ((IntKind.i64.wrap a).tmod (↑t.size : Int)).toNat ++ strOfNums [b] ++ t.extract (IntKind.i64.wrap ((IntKind.i64.wrap a).tmod (↑t.size : Int) + 1)).toNat t.size)) (fun d5 => oe (true) (fun d6 => rr [false, false, true, false, true, true] [true = true, Dec true true, (∀ (i : Nat), i < (rLT (t.extract (0 : Nat) ((IntKind.i64.wrap a).tmod (↑t.size : Int)).toNat ++ strOfNums [b] ++ t.extract (IntKind.i64.wrap ((IntKind.i64.wrap a).tmod (↑t.size : Int) + 1)).toNat t.size)).length → ((rws (rLT (t.extract (0 : Nat) ((IntKind.i64.wrap a).tmod (↑t.size : Int)).toNat ++ strOfNums [b] ++ t.extract (IntKind.i64.wrap ((IntKind.i64.wrap a).tmod (↑t.size : Int) + 1)).toNat t.size)))) i = (Con.ofR (((rws (rLT (t.extract (0 : Nat) ((IntKind.i64.wrap a).tmod (↑t.size : Int)).toNat ++ strOfNums [b] ++ t.extract (IntKind.i64.wrap ((IntKind.i64.wrap a).tmod (↑t.size : Int) + 1)).toNat t.size)))) i)).rvs) ∧ (∀ (i : Nat), i < (rLT (t.extract (0 : Nat) ((IntKind.i64.wrap a).tmod (↑t.size : Int)).toNat ++ strOfNums [b] ++ t.extract (IntKind.i64.wrap ((IntKind.i64.wrap a).tmod (↑t.size : Int) + 1)).toNat t.size)).length → ((rws (rLT (t.extract (0 : Nat) ((IntKind.i64.wrap a).tmod (↑t.size : Int)).toNat ++ strOfNums [b] ++ t.extract (IntKind.i64.wrap ((IntKind.i64.wrap a).tmod (↑t.size : Int) + 1)).toNat t.size)))) i = (Con.ofR (((rws (rLT (t.extract (0 : Nat) ((IntKind.i64.wrap a).tmod (↑t.size : Int)).toNat ++ strOfNums [b] ++ t.extract (IntKind.i64.wrap ((IntKind.i64.wrap a).tmod (↑t.size : Int) + 1)).toNat t.size)))) i)).rvs) ∧ rPT (t.extract (0 : Nat) ((IntKind.i64.wrap a).tmod (↑t.size : Int)).toNat ++ strOfNums [b] ++ t.extract (IntKind.i64.wrap ((IntKind.i64.wrap a).tmod (↑t.size : Int) + 1)).toNat t.size) = rPT (t.extract (0 : Nat) ((IntKind.i64.wrap a).tmod (↑t.size : Int)).toNat ++ strOfNums [b] ++ t.extract (IntKind.i64.wrap ((IntKind.i64.wrap a).tmod (↑t.size : Int) + 1)).toNat t.size) ∧ ((consR (rLT (t.extract (0 : Nat) ((IntKind.i64.wrap a).tmod (↑t.size : Int)).toNat ++ strOfNums [b] ++ t.extract (IntKind.i64.wrap ((IntKind.i64.wrap a).tmod (↑t.size : Int) + 1)).toNat t.size)).length (rws (rLT (t.extract (0 : Nat) ((IntKind.i64.wrap a).tmod (↑t.size : Int)).toNat ++ strOfNums [b] ++ t.extract (IntKind.i64.wrap ((IntKind.i64.wrap a).tmod (↑t.size : Int) + 1)).toNat t.size)))) = consR (rLT (t.extract (0 : Nat) ((IntKind.i64.wrap a).tmod (↑t.size : Int)).toNat ++ strOfNums [b] ++ t.extract (IntKind.i64.wrap ((IntKind.i64.wrap a).tmod (↑t.size : Int) + 1)).toNat t.size)).length (rws (rLT (t.extract (0 : Nat) ((IntKind.i64.wrap a).tmod (↑t.size : Int)).toNat ++ strOfNums [b] ++ t.extract (IntKind.i64.wrap ((IntKind.i64.wrap a).tmod (↑t.size : Int) + 1)).toNat t.size)))) ∧ (rLT (t.extract (0 : Nat) ((IntKind.i64.wrap a).tmod (↑t.size : Int)).toNat ++ strOfNums [b] ++ t.extract (IntKind.i64.wrap ((IntKind.i64.wrap a).tmod (↑t.size : Int) + 1)).toNat t.size)).length ≤ (1000 : Nat), Dec (rET (t.extract (0 : Nat) ((IntKind.i64.wrap a).tmod (↑t.size : Int)).toNat ++ strOfNums [b] ++ t.extract (IntKind.i64.wrap ((IntKind.i64.wrap a).tmod (↑t.size : Int) + 1)).toNat t.size) == rET (t.extract (0 : Nat) ((IntKind.i64.wrap a).tmod (↑t.size : Int)).toNat ++ strOfNums [b] ++ t.extract (IntKind.i64.wrap ((IntKind.i64.wrap a).tmod (↑t.size : Int) + 1)).toNat t.size)) true, (t.extract (0 : Nat) ((IntKind.i64.wrap a).tmod (↑t.size : Int)).toNat ++ strOfNums [b] ++ t.extract (IntKind.i64.wrap ((IntKind.i64.wrap a).tmod (↑t.size : Int) + 1)).toNat t.size).size ≤ (900 : Nat), (t.extract (0 : Nat) ((IntKind.i64.wrap a).tmod (↑t.size : Int)).toNat ++ strOfNums [b] ++ t.extract (IntKind.i64.wrap ((IntKind.i64.wrap a).tmod (↑t.size : Int) + 1)).toNat t.size).size ≤ (900 : Nat), Dec drop false, (t.extract (0 : Nat) ((IntKind.i64.wrap a).tmod (↑t.size : Int)).toNat ++ strOfNums [b]).size + (t.extract (IntKind.i64.wrap ((IntKind.i64.wrap a).tmod (↑t.size : Int) + 1)).toNat t.size).size ≤ (1000000 : Nat), (0 : Int) ≤ IntKind.i64.wrap ((IntKind.i64.wrap a).tmod (↑t.size : Int) + 1) ∧ IntKind.i64.wrap ((IntKind.i64.wrap a).tmod (↑t.size : Int) + 1) ≤ ↑t.size, (t.extract (0 : Nat) ((IntKind.i64.wrap a).tmod (↑t.size : Int)).toNat).size + (strOfNums [b]).size ≤ (1000000 : Nat), (0 : Int) ≤ (IntKind.i64.wrap a).tmod (↑t.size : Int) ∧ (IntKind.i64.wrap a).tmod (↑t.size : Int) ≤ ↑t.size, (↑t.size : Int) ≠ (0 : Int), (∀ (i : Nat), i < (listV (8 : Int) true (prtR X.length fun i => (X.getD i Prt.zero).rvs)).length → ((rws (listV (8 : Int) true (prtR X.length fun i => (X.getD i Prt.zero).rvs)))) i = (Con.ofR (((rws (listV (8 : Int) true (prtR X.length fun i => (X.getD i Prt.zero).rvs)))) i)).rvs) ∧ (2 : Int) = 2 ∧ (consR (listV (8 : Int) true (prtR X.length fun i => (X.getD i Prt.zero).rvs)).length (rws (listV (8 : Int) true (prtR X.length fun i => (X.getD i Prt.zero).rvs)))) = listV (8 : Int) true X ∧ (listV (8 : Int) true (prtR X.length fun i => (X.getD i Prt.zero).rvs)).length ≤ (1000 : Nat), (∀ (i : Nat), i < X.length → (fun i => (X.getD i Prt.zero).rvs) i = (Prt.ofR ((fun i => (X.getD i Prt.zero).rvs) i)).rvs) ∧ (∀ (p : Prt), (p ∈ prtR X.length fun i => (X.getD i Prt.zero).rvs) → p.ok) ∧ (1 : Int) ≤ 8 ∧ (8 : Int) ≤ 100 ∧ X.length ≤ (1000 : Nat), Dec made true, Dec (decide ((↑X.length : Int) > 20)) false, Dec (decide ((↑s.size : Int) > 300)) false] (by kernel_rfl) ⟨?_, d6, ?_, d5, ?_, ?_, d4, ?_, ?_, ?_, ?_, ?_, ?_, ?_, d3, d2, d1⟩) (fun d6 => CtG.no ?_)) (fun d5 => CtG.no ?_))) (fun d3 => oe (rET s == rET s) (fun d4 => oe (true) (fun d5 => rr [false, false, false, true, true] [true = true, Dec true true, (∀ (i : Nat), i < (rLT s).length → ((rws (rLT s))) i = (Con.ofR (((rws (rLT s))) i)).rvs) ∧ (∀ (i : Nat), i < (rLT s).length → ((rws (rLT s))) i = (Con.ofR (((rws (rLT s))) i)).rvs) ∧ rPT s = rPT s ∧ ((consR (rLT s).length (rws (rLT s))) = consR (rLT s).length (rws (rLT s))) ∧ (rLT s).length ≤ (1000 : Nat), Dec (rET s == rET s) true, s.size ≤ (900 : Nat), s.size ≤ (900 : Nat), Dec made false, Dec (decide ((↑X.length : Int) > 20)) false, Dec (decide ((↑s.size : Int) > 300)) false] (by kernel_rfl) ⟨?_, d5, ?_, d4, ?_, ?_, d3, d2, d1⟩) (fun d5 => CtG.no ?_)) (fun d4 => CtG.no ?_))))
  all_goals first | (refine CtG.mk ?_; (first | (rw [beq_self_eq_true] at d4; cases d4; done) | (rw [beq_self_eq_true] at d5; cases d5; done) | exact absurd d6 (by decide) | exact absurd d5 (by decide))) | (first | (with_reducible rfl) | (with_reducible exact ⟨rfl, rfl⟩) | (with_reducible exact ⟨hk.1, hk.2⟩) | (with_reducible exact Nat.le_trans (cat2_size _ _ _ _ _) (by omega)) | (with_reducible exact Nat.le_trans (cat3s _ _ _ _ _ _) (by omega)) | (with_reducible exact Nat.le_trans (ext1s _ _ _ _) (by omega)) | (with_reducible exact Nat.le_trans (ext2s _ _ _ _ _) (by omega)) | (with_reducible exact Nat.le_trans (cat1s _ _ _ _ _ _) (by omega)) | (have q := of_decide_eq_false d1; omega) | (rw [hw]; exact ⟨by have := hr.1; omega, by have := hr.2; omega⟩) | (rw [hw, hw2]; exact ⟨by have := hr.1; omega, by have := hr.2; omega⟩) | exact ⟨fun _ _ => rfl, fun _ _ => rfl, rfl, rfl, rLT_len (by first | exact Nat.le_trans (cat2_size _ _ _ _ _) (by omega) | exact Nat.le_trans (cat3s _ _ _ _ _ _) (by omega) | (have q := of_decide_eq_false d1; omega))⟩ | exact ⟨fun _ _ => rfl, by rw [prtR_ro]; exact hX, by decide, by decide, (by have q := of_decide_eq_false d2; omega)⟩ | exact ⟨fun _ _ => rfl, rfl, (by simp only [prtR_ro, consR_ro]), (by simp only [prtR_ro]; have q := of_decide_eq_false d2; omega)⟩ | exact ⟨hk.1, hk.2⟩ | exact ⟨rfl, rfl⟩ | exact (5 : Nat))
theorem trainParse_pure (s : ByteArray) (kx : Int) (X : List Prt) (a b : Int) (made drop : Bool) (hk : U8 kx) (hX : ∀ p ∈ X, p.ok) (ha : U8 a) (hb : U8 b) : PureC Tryz.prog tabs 6 [.str s, .agg [.int .u8 kx, roP X], .int .u8 a, .int .u8 b, .bool made, .bool drop] (.bool true) :=
  trainParse_t s kx X a b made drop _ hk hX ha hb rfl
end Go.Proofs.YtgdhgnhgmbkpdaaGreatDoor.S

namespace Go.Proofs.YtgdhgnhgmbkpdaaGreatDoor.trainParse
open Go.ChangeShapes Go.WideShapes Go.ChangeAt Go.RowKit Go.Joins Go.Deep
open Go.QfSy (Con RV RRel RsRel FzAt roC Fz Tb TabW PureC)
open S
theorem readable : ∀ t ∈ Tryz.f6.params.toList, Tryz.prog.readableRec t = true ∧ t < Tryz.prog.types.size := by
  have h : (Tryz.f6.params.toList.all fun t => Tryz.prog.readableRec t && Nat.blt t Tryz.prog.types.size) = true := by kernel_rfl
  intro t ht
  have := List.all_eq_true.1 h t ht
  simp only [Bool.and_eq_true] at this
  exact ⟨this.1, Nat.le_of_ble_eq_true this.2⟩
theorem contract (H : Type) (enc : TypeId × Value → H) (W : World) (base : Nat) (args : Array Value) (ds gs : List (DataW H)) (before : List MemPlace)
    (hval : ∀ (j : Nat) t v, Tryz.f6.params[j]? = some t → args[j]? = some v → Value.okWide Tryz.prog W .any base t v)
    (hW : DataW.Whole enc Tryz.prog Tryz.f6.params.toList Rows.trainParseSpec.vars false W args.toList ds gs before) (hO : TabW tabs W) :
    Calls Tryz.prog 6 args W fun e W' => ∃ v, e = .returned v ∧ Rows.trainParseSpec.post enc Tryz.prog Tryz.f6 false true false false W args v W' := by
  have hW' := hW
  obtain ⟨p, q, hA0, hV, rfl, hfz, hnd⟩ := hW
  have hA : DataW.TrodAll enc Tryz.prog W 0 (fun _ => true) true Tryz.f6.params.toList args.toList ds p := hA0
  rw [Tryz.params6] at hA hval
  obtain ⟨v0, vs0, d0, ds0, p0, q0, hargs0, rfl, rfl, h0, r0⟩ := trodAll_cons hA
  obtain ⟨v1, vs1, d1, ds1, p1, q1, hargs1, rfl, rfl, h1, r1⟩ := trodAll_cons r0
  obtain ⟨v2, vs2, d2, ds2, p2, q2, hargs2, rfl, rfl, h2, r2⟩ := trodAll_cons r1
  obtain ⟨v3, vs3, d3, ds3, p3, q3, hargs3, rfl, rfl, h3, r3⟩ := trodAll_cons r2
  obtain ⟨v4, vs4, d4, ds4, p4, q4, hargs4, rfl, rfl, h4, r4⟩ := trodAll_cons r3
  obtain ⟨v5, vs5, d5, ds5, p5, q5, hargs5, rfl, rfl, h5, r5⟩ := trodAll_cons r4
  obtain ⟨rfl, rfl, rfl⟩ := trodAll_nil r5
  obtain rfl : args = #[v0, v1, v2, v3, v4, v5] := by cases args; simp_all
  obtain ⟨s0, rfl, rfl, rfl, hs0⟩ := Go.ChangeMaps.open_string Tryz.underlying9 (hval 0 9 v0 rfl rfl) h0
  have hr0 : RRel (Wz W) (.str s0) (.string s0) := .str _
  obtain ⟨P1, X1, hr1, hP1, hn1, ho1⟩ := open_symbol symbolTys (hval 1 27 v1 rfl rfl) h1
  obtain ⟨z2, rfl, rfl, rfl, hz2⟩ := open_int Tryz.underlying5 (hval 2 5 v2 rfl rfl) h2
  have hr2 : RRel (Wz W) (.int .u8 z2) (.int .u8 z2) := .int _ _
  obtain ⟨z3, rfl, rfl, rfl, hz3⟩ := open_int Tryz.underlying5 (hval 3 5 v3 rfl rfl) h3
  have hr3 : RRel (Wz W) (.int .u8 z3) (.int .u8 z3) := .int _ _
  obtain ⟨b4, rfl, rfl, rfl⟩ := open_bool Tryz.underlying4 (hval 4 4 v4 rfl rfl) h4
  have hr4 : RRel (Wz W) (.bool b4) (.bool b4) := .bool _
  obtain ⟨b5, rfl, rfl, rfl⟩ := open_bool Tryz.underlying4 (hval 5 4 v5 rfl rfl) h5
  have hr5 : RRel (Wz W) (.bool b5) (.bool b5) := .bool _
  refine (pure_calls (trainParse_pure s0 P1 X1 z2 z3 b4 b5 hP1 ho1 (wf_u8 hz2) (wf_u8 hz3)) hO (.cons hr0 (.cons hr1 (.cons hr2 (.cons hr3 (.cons hr4 (.cons hr5 .nil))))))).mono fun e W' ⟨he, hb⟩ => ?_
  exact ⟨_, he, law_post laidOut readable rfl Tryz.underlying4 rfl hW' rfl hb⟩
def wArgs : Array Value := #[.string ⟨#[]⟩, .agg #[.int .u8 0, .slice none 0 0], .int .u8 0, .int .u8 0, .bool false, .bool false]
theorem laid_met (os : Os) : laidMet Tryz.prog Rows.trainParseRow.laid ((laidWorld os).forCall (fun _ _ => 0) ⟨#[], wArgs, []⟩).memory :=
  laidMet_of_run3 8 (by kernel_rfl) (by kernel_rfl) (by kernel_rfl)
theorem reads (os : Os) {H : Type} (enc : TypeId × Value → H) : ∃ ds places, DataW.whole enc Tryz.prog ((laidWorld os).forCall (fun _ _ => 0) ⟨#[], wArgs, []⟩).memory Tryz.f6.params.toList Rows.trainParseSpec.vars false wArgs.toList 8 = some (ds, [], places) :=
  ⟨[.lit (.string []), .agg [.lit (.int .u8 0), .nil], .lit (.int .u8 0), .lit (.int .u8 0), .lit (.bool false), .lit (.bool false)], [], by kernel_rfl⟩
theorem lifted (os : Os) (started : os.Started) (H : Type) (enc : TypeId × Value → H) (F : Stop.Interp) :
    ReturnsInHanded {} Tryz.checked os 6 .any ((OpenSpec.ofChange Rows.trainParseSpec).preRow enc Tryz.prog Tryz.f6 Rows.trainParseRow.domain false Rows.trainParseRow.laid) (((OpenSpec.ofChange Rows.trainParseSpec).at F).post enc Tryz.prog Tryz.f6 false true false false) := by
  refine returnsInHanded_of_row (C := Tryz.checked) (s := OpenSpec.ofChange Rows.trainParseSpec) own started (by kernel_rfl) Tryz.func6
    (witness_row_at (enc := enc) (C := Tryz.checked) false (laidWorld os) wArgs rfl (by kernel_rfl) (by kernel_rfl) (by kernel_rfl)
      (OpenSpec.preRow_of_cond 8 (reads os enc).choose_spec.choose_spec (by kernel_rfl) (fun k hk => by cases hk) (by kernel_rfl) (laid_met os))) ?_
  intro W base args ds gs before hval hW _ _ _ hL hS _
  exact contract H enc W base args ds gs before hval hW (tabs_of hL hS)
theorem named : Tryz.prog.funcNamed Rows.trainParseRow.func = some 6 := by kernel_rfl
theorem facts : joinedFacts Tryz.prog 6 Tryz.f6 (OpenSpec.ofChange Rows.trainParseSpec).bare Rows.trainParseRow = true := by kernel_rfl
theorem inst : Tryz.f6.isInstance Tryz.prog Rows.trainParseRow.origin Rows.trainParseRow.targs := of_decide_eq_true (by kernel_rfl)
theorem wrap : Tryz.f6.isWrapper Tryz.prog Rows.trainParseRow.wrapper Rows.trainParseRow.mainSum := by
  unfold Func.isWrapper; first | (rw [if_pos (by decide +kernel)]; kernel_rfl) | (rw [if_neg (by decide +kernel)]; exact ⟨rfl, rfl⟩)
theorem said : Rows.TrainParseSaid :=
  OpenClaim.holds_of_cond 6 Tryz.f6 rfl rfl rfl rfl rfl rfl rfl ⟨rfl, rfl, rfl, rfl, rfl⟩ rfl rfl rfl rfl rfl named Tryz.func6 facts inst wrap
    (fun os started H enc _ F => by rw [OpenClaim.pre_eq_preRow]; exact lifted os started H enc F)
end Go.Proofs.YtgdhgnhgmbkpdaaGreatDoor.trainParse

namespace Go.Proofs.YtgdhgnhgmbkpdaaGreatDoor.trainParse
open Go.ChangeShapes Go.WideShapes Go.ChangeAt Go.RowKit Go.Joins Go.Deep
theorem stands : (Tryz.f6.params.toList.all fun t => !Tryz.prog.wantsStandIn t) = true := by kernel_rfl
theorem looks : true = Tryz.prog.looks [] := by kernel_rfl
theorem plain (f : FuncId) (fn : Func) (hf : Tryz.pinned.checked.prog.funcNamed "quadform/quadformlaw27.TrainParse" = some f) (hfn : Tryz.pinned.checked.prog.funcs[f]? = some fn) :
    true = Tryz.pinned.checked.prog.looks [] ∧ ∀ (j : Nat) t, fn.params[j]? = some t → Tryz.pinned.checked.prog.wantsStandIn t = false := by
  obtain rfl : f = 6 := Option.some.inj (named.symm.trans hf) |>.symm
  obtain rfl : fn = Tryz.f6 := (Option.some.inj (Tryz.func6.symm.trans hfn)).symm
  refine ⟨looks, fun j t ht => ?_⟩
  have := List.all_eq_true.1 stands t (by simpa using Array.mem_of_getElem? ht)
  exact (by simpa using this : Tryz.prog.wantsStandIn t = false)
theorem holds : Rows.TrainParseCardSaid :=
  Claim7.holds_tied_plain_at .later [] _ _ _ _ said (fun _ h => by cases h) (by kernel_rfl) (fun _ h => by cases h) trainParse_row_tie rfl ⟨rfl, rfl⟩ (by kernel_rfl) rfl plain (by kernel_rfl)
end Go.Proofs.YtgdhgnhgmbkpdaaGreatDoor.trainParse

