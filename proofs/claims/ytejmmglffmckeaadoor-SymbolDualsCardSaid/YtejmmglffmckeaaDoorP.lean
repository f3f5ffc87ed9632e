/- Plain laws on lists of constituents: what scaling, dualising and adding symbols do. -/
import Derived.Test.YtejmmglffmckeaaDoorD
import Derived.Test.YtejmmglffmckeaaDoorW8
namespace Go.Proofs.YtejmmglffmckeaaDoor.Q

/-- Which constituents stand in a symbol for an odd prime, from L on. -/
def Con.fine (L : Int) (c : Con) : Prop := L < c.exp ∧ c.exp ≤ 60 ∧ 1 ≤ c.dim ∧ (c.sign = 1 ∨ c.sign = -1) ∧ c.odd = false ∧ c.oddity = 0
def Asc (l : List Con) : Prop := l.Pairwise (fun a b => a.exp < b.exp)

theorem dims_nonneg : ∀ {l : List Con}, (∀ c ∈ l, 1 ≤ c.dim) → (l.length : Int) ≤ dims l
  | [], _ => by simp [dims]
  | c :: l, h => by
    have h1 := h c (by simp)
    have h2 := dims_nonneg (l := l) (fun x hx => h x (by simp [hx]))
    simp [dims]; omega

theorem vL_iff : ∀ {l : List Con} {s L : Int}, s ≤ 8 → (vL l s L = true ↔ Asc l ∧ (∀ c ∈ l, c.fine L) ∧ s + dims l ≤ 8)
  | [], s, L, hs => by simp [vL, Asc, dims, hs]
  | x :: l, s, L, hs => by
    simp only [vL, Bool.and_eq_true, vc, decide_eq_true_eq, Asc, List.pairwise_cons, List.mem_cons, dims]
    constructor
    · rintro ⟨⟨a1, a2, a3, a4, a5, a6, a7⟩, h⟩
      obtain ⟨b1, b2, b3⟩ := (vL_iff (by omega)).1 h
      refine ⟨⟨fun y hy => (b2 y hy).1, b1⟩, ?_, by omega⟩
      rintro c (rfl | hc)
      · exact ⟨a1, a2, a3, a5, a6, a7⟩
      · obtain ⟨c1, c2⟩ := b2 c hc
        exact ⟨by omega, c2⟩
    · rintro ⟨⟨b1, b2⟩, b3, b4⟩
      obtain ⟨a1, a2, a3, a5, a6, a7⟩ := b3 x (.inl rfl)
      have hd := dims_nonneg (l := l) (fun c hc => (b3 c (.inr hc)).2.2.1)
      refine ⟨⟨a1, a2, a3, by omega, a5, a6, a7⟩, (vL_iff (by omega)).2 ⟨b2, fun c hc => ?_, by omega⟩⟩
      exact ⟨b1 c hc, (b3 c (.inr hc)).2⟩

/- scaling -/
def shift (k : Int) (c : Con) : Con := { c with exp := c.exp + k }
def turn (k : Int) (c : Con) : Con := { c with exp := k - c.exp }
def firstE (l : List Con) : Int := (l.head?.map Con.exp).getD 0
def lastE (l : List Con) : Int := (l.getLast?.map Con.exp).getD 0

theorem firstE_le {l : List Con} (ha : Asc l) : ∀ c ∈ l, firstE l ≤ c.exp := by
  intro c hc
  cases l with
  | nil => cases hc
  | cons x l =>
    simp only [Asc, List.pairwise_cons] at ha
    rcases List.mem_cons.1 hc with rfl | hc
    · simp [firstE]
    · have := ha.1 c hc
      simp [firstE]; omega
theorem lastE_ge {l : List Con} (ha : Asc l) : ∀ c ∈ l, c.exp ≤ lastE l := by
  intro c hc
  have hne : l ≠ [] := by intro e; subst e; cases hc
  obtain ⟨m, x, rfl⟩ : ∃ m x, l = m ++ [x] := ⟨l.dropLast, l.getLast hne, (List.dropLast_concat_getLast hne).symm⟩
  simp only [Asc, List.pairwise_append] at ha
  rcases List.mem_append.1 hc with h | h
  · have := ha.2.2 c h x (by simp)
    simp [lastE]; omega
  · simp at h; subst h; simp [lastE]
theorem firstE_mem {l : List Con} (h : l ≠ []) : ∃ c ∈ l, c.exp = firstE l := by
  cases l with
  | nil => exact absurd rfl h
  | cons x l => exact ⟨x, by simp, by simp [firstE]⟩
theorem lastE_mem {l : List Con} (h : l ≠ []) : ∃ c ∈ l, c.exp = lastE l := by
  obtain ⟨m, x, rfl⟩ : ∃ m x, l = m ++ [x] := ⟨l.dropLast, l.getLast h, (List.dropLast_concat_getLast h).symm⟩
  exact ⟨x, by simp, by simp [lastE]⟩

theorem dims_map {f : Con → Con} (h : ∀ c, (f c).dim = c.dim) : ∀ l : List Con, dims (l.map f) = dims l
  | [] => rfl
  | c :: l => by simp [dims, dims_map h l, h c]
theorem dims_reverse (l : List Con) : dims l.reverse = dims l := by
  induction l with
  | nil => rfl
  | cons c l ih => simp only [List.reverse_cons, dims_append, ih, dims]; omega

theorem vL_shift {l : List Con} {k : Int} (hv : vL l 0 (-1) = true) (hne : l ≠ []) : vL (l.map (shift k)) 0 (-1) = decide (-firstE l ≤ k ∧ k ≤ 60 - lastE l) := by
  obtain ⟨h1, h2, h3⟩ := (vL_iff (by omega)).1 hv
  rw [Bool.eq_iff_iff, vL_iff (by omega), decide_eq_true_eq]
  constructor
  · rintro ⟨_, g2, _⟩
    obtain ⟨x, hx, ex⟩ := firstE_mem hne
    obtain ⟨y, hy, ey⟩ := lastE_mem hne
    have a := (g2 (shift k x) (List.mem_map_of_mem hx)).1
    have b := (g2 (shift k y) (List.mem_map_of_mem hy)).2.1
    simp only [shift] at a b
    omega
  · rintro ⟨g1, g2⟩
    refine ⟨?_, ?_, ?_⟩
    · simp only [Asc, List.pairwise_map]
      exact h1.imp (fun h => by simp only [shift]; omega)
    · intro c hc
      obtain ⟨x, hx, rfl⟩ := List.mem_map.1 hc
      obtain ⟨a1, a2, a3, a4⟩ := h2 x hx
      have := firstE_le h1 x hx
      have := lastE_ge h1 x hx
      exact ⟨by simp only [shift]; omega, by simp only [shift]; omega, a3, a4⟩
    · rw [dims_map (f := shift k) (fun _ => rfl)]; exact h3

theorem vL_turn {l : List Con} {k : Int} (hv : vL l 0 (-1) = true) (hne : l ≠ []) : vL (l.reverse.map (turn k)) 0 (-1) = decide (lastE l ≤ k ∧ k ≤ 60 + firstE l) := by
  obtain ⟨h1, h2, h3⟩ := (vL_iff (by omega)).1 hv
  rw [Bool.eq_iff_iff, vL_iff (by omega), decide_eq_true_eq]
  constructor
  · rintro ⟨_, g2, _⟩
    obtain ⟨x, hx, ex⟩ := firstE_mem hne
    obtain ⟨y, hy, ey⟩ := lastE_mem hne
    have a := (g2 (turn k x) (List.mem_map_of_mem (List.mem_reverse.2 hx))).2.1
    have b := (g2 (turn k y) (List.mem_map_of_mem (List.mem_reverse.2 hy))).1
    simp only [turn] at a b
    omega
  · rintro ⟨g1, g2⟩
    refine ⟨?_, ?_, ?_⟩
    · simp only [Asc, List.pairwise_map, List.pairwise_reverse]
      exact h1.imp (fun h => by simp only [turn]; omega)
    · intro c hc
      obtain ⟨x, hx, rfl⟩ := List.mem_map.1 hc
      have hx := List.mem_reverse.1 hx
      obtain ⟨a1, a2, a3, a4⟩ := h2 x hx
      have := firstE_le h1 x hx
      have := lastE_ge h1 x hx
      exact ⟨by simp only [turn]; omega, by simp only [turn]; omega, a3, a4⟩
    · rw [dims_map (f := turn k) (fun _ => rfl), dims_reverse]; exact h3

theorem exps_in {l : List Con} (hv : vL l 0 (-1) = true) (hne : l ≠ []) : 0 ≤ firstE l ∧ firstE l ≤ lastE l ∧ lastE l ≤ 60 := by
  obtain ⟨h1, h2, h3⟩ := (vL_iff (by omega)).1 hv
  obtain ⟨x, hx, ex⟩ := firstE_mem hne
  obtain ⟨y, hy, ey⟩ := lastE_mem hne
  have := firstE_le h1 y hy
  have := (h2 x hx).1
  have := (h2 y hy).2.1
  omega

/- the sum -/
def joinC (a b : Con) : Con := ⟨a.exp, a.dim + b.dim, a.sign * b.sign, false, 0⟩
def joinR (a b : Con) : Con := ⟨a.exp, a.dim + b.dim, a.sign * b.sign, a.odd || b.odd, (a.oddity + b.oddity) % 8⟩
def mrg (j : Con → Con → Con) : List Con → List Con → List Con
  | [], b => b
  | x :: a, [] => x :: a
  | x :: a, y :: b => if x.exp < y.exp then x :: mrg j a (y :: b) else if y.exp < x.exp then y :: mrg j (x :: a) b else j x y :: mrg j a b
termination_by a b => a.length + b.length

theorem mrg_nil (j : Con → Con → Con) (b : List Con) : mrg j [] b = b := by rw [mrg]
theorem mrg_nil' (j : Con → Con → Con) (a : List Con) : mrg j a [] = a := by cases a <;> rw [mrg]
theorem mrg_lt (j : Con → Con → Con) {x y : Con} {a b : List Con} (h : x.exp < y.exp) : mrg j (x :: a) (y :: b) = x :: mrg j a (y :: b) := by rw [mrg, if_pos h]
theorem mrg_gt (j : Con → Con → Con) {x y : Con} {a b : List Con} (h : y.exp < x.exp) : mrg j (x :: a) (y :: b) = y :: mrg j (x :: a) b := by rw [mrg, if_neg (by omega), if_pos h]
theorem mrg_eq (j : Con → Con → Con) {x y : Con} {a b : List Con} (h : x.exp = y.exp) : mrg j (x :: a) (y :: b) = j x y :: mrg j a b := by rw [mrg, if_neg (by omega), if_neg (by omega)]

/-- A property of merged lists, by the way the merge goes. -/
theorem mrg_ind {j : Con → Con → Con} {P : List Con → List Con → List Con → Prop} (h0 : ∀ b, P [] b b) (h1 : ∀ a, P a [] a)
    (h2 : ∀ x a y b, x.exp < y.exp → P a (y :: b) (mrg j a (y :: b)) → P (x :: a) (y :: b) (x :: mrg j a (y :: b)))
    (h3 : ∀ x a y b, y.exp < x.exp → P (x :: a) b (mrg j (x :: a) b) → P (x :: a) (y :: b) (y :: mrg j (x :: a) b))
    (h4 : ∀ x a y b, x.exp = y.exp → P a b (mrg j a b) → P (x :: a) (y :: b) (j x y :: mrg j a b)) : ∀ a b, P a b (mrg j a b)
  | [], b => by rw [mrg_nil]; exact h0 b
  | x :: a, [] => by rw [mrg_nil']; exact h1 _
  | x :: a, y :: b => by
    by_cases h : x.exp < y.exp
    · rw [mrg_lt j h]; exact h2 x a y b h (mrg_ind h0 h1 h2 h3 h4 a (y :: b))
    · by_cases h' : y.exp < x.exp
      · rw [mrg_gt j h']; exact h3 x a y b h' (mrg_ind h0 h1 h2 h3 h4 (x :: a) b)
      · rw [mrg_eq j (by omega)]; exact h4 x a y b (by omega) (mrg_ind h0 h1 h2 h3 h4 a b)
termination_by a b => a.length + b.length

theorem mrg_all {j : Con → Con → Con} {Q : Con → Prop} (hj : ∀ x y, x.exp = y.exp → Q x → Q y → Q (j x y)) (a b : List Con) (ha : ∀ c ∈ a, Q c) (hb : ∀ c ∈ b, Q c) : ∀ c ∈ mrg j a b, Q c := by
  refine mrg_ind (j := j) (P := fun a b m => (∀ c ∈ a, Q c) → (∀ c ∈ b, Q c) → ∀ c ∈ m, Q c) ?_ ?_ ?_ ?_ ?_ a b ha hb
  · intro b _ hb; exact hb
  · intro a ha _; exact ha
  · intro x a y b _ ih ha hb c hc
    rcases List.mem_cons.1 hc with rfl | hc
    · exact ha _ (by simp)
    · exact ih (fun c hc => ha c (by simp [hc])) hb c hc
  · intro x a y b _ ih ha hb c hc
    rcases List.mem_cons.1 hc with rfl | hc
    · exact hb _ (by simp)
    · exact ih ha (fun c hc => hb c (by simp [hc])) c hc
  · intro x a y b h ih ha hb c hc
    rcases List.mem_cons.1 hc with rfl | hc
    · exact hj x y h (ha _ (by simp)) (hb _ (by simp))
    · exact ih (fun c hc => ha c (by simp [hc])) (fun c hc => hb c (by simp [hc])) c hc

theorem mrg_asc {j : Con → Con → Con} (hj : ∀ x y, (j x y).exp = x.exp) (a b : List Con) (ha : Asc a) (hb : Asc b) : Asc (mrg j a b) := by
  refine mrg_ind (j := j) (P := fun a b m => Asc a → Asc b → Asc m) ?_ ?_ ?_ ?_ ?_ a b ha hb
  · intro b _ hb; exact hb
  · intro a ha _; exact ha
  · intro x a y b h ih ha hb
    simp only [Asc, List.pairwise_cons] at ha
    refine List.pairwise_cons.2 ⟨?_, ih ha.2 hb⟩
    refine mrg_all (Q := fun c => x.exp < c.exp) (fun u v _ hu _ => by rw [hj]; exact hu) _ _ ha.1 ?_
    intro c hc
    simp only [Asc, List.pairwise_cons] at hb
    rcases List.mem_cons.1 hc with rfl | hc
    · exact h
    · have := hb.1 c hc; omega
  · intro x a y b h ih ha hb
    simp only [Asc, List.pairwise_cons] at hb
    refine List.pairwise_cons.2 ⟨?_, ih ha hb.2⟩
    refine mrg_all (Q := fun c => y.exp < c.exp) (fun u v _ hu _ => by rw [hj]; exact hu) _ _ ?_ hb.1
    intro c hc
    simp only [Asc, List.pairwise_cons] at ha
    rcases List.mem_cons.1 hc with rfl | hc
    · exact h
    · have := ha.1 c hc; omega
  · intro x a y b h ih ha hb
    simp only [Asc, List.pairwise_cons] at ha hb
    refine List.pairwise_cons.2 ⟨?_, ih ha.2 hb.2⟩
    refine mrg_all (Q := fun c => (j x y).exp < c.exp) (fun u v _ hu _ => by rw [hj u v]; exact hu) _ _ ?_ ?_
    · intro c hc; rw [hj]; exact ha.1 c hc
    · intro c hc; rw [hj, h]; exact hb.1 c hc

theorem mrg_dims {j : Con → Con → Con} (hj : ∀ x y, (j x y).dim = x.dim + y.dim) (a b : List Con) : dims (mrg j a b) = dims a + dims b := by
  refine mrg_ind (j := j) (P := fun a b m => dims m = dims a + dims b) ?_ ?_ ?_ ?_ ?_ a b
  · intro b; simp [dims]
  · intro a; simp [dims]
  · intro x a y b _ ih; simp only [dims] at ih ⊢; omega
  · intro x a y b _ ih; simp only [dims] at ih ⊢; omega
  · intro x a y b _ ih; simp only [dims, hj] at ih ⊢; omega

theorem mrg_len {j : Con → Con → Con} (a b : List Con) : (mrg j a b).length ≤ a.length + b.length := by
  refine mrg_ind (j := j) (P := fun a b m => m.length ≤ a.length + b.length) ?_ ?_ ?_ ?_ ?_ a b
  · intro b; simp
  · intro a; simp
  · intro x a y b _ ih; simp at ih ⊢; omega
  · intro x a y b _ ih; simp at ih ⊢; omega
  · intro x a y b _ ih; simp at ih ⊢; omega

theorem mrg_ne {j : Con → Con → Con} {a b : List Con} (h : a ≠ []) : mrg j a b ≠ [] := by
  cases a with
  | nil => exact absurd rfl h
  | cons x a =>
    cases b with
    | nil => rw [mrg_nil']; simp
    | cons y b =>
      by_cases h1 : x.exp < y.exp
      · rw [mrg_lt j h1]; simp
      · by_cases h2 : y.exp < x.exp
        · rw [mrg_gt j h2]; simp
        · rw [mrg_eq j (by omega)]; simp

theorem mrg_comm {j : Con → Con → Con} (hj : ∀ x y, x.exp = y.exp → j x y = j y x) (a b : List Con) : mrg j a b = mrg j b a := by
  refine mrg_ind (j := j) (P := fun a b m => m = mrg j b a) ?_ ?_ ?_ ?_ ?_ a b
  · intro b; rw [mrg_nil']
  · intro a; rw [mrg_nil]
  · intro x a y b h ih; rw [mrg_gt j h, ih]
  · intro x a y b h ih; rw [mrg_lt j h, ih]
  · intro x a y b h ih; rw [mrg_eq j h.symm, ih, hj x y h]

theorem joinC_comm (x y : Con) (h : x.exp = y.exp) : joinC x y = joinC y x := by
  simp only [joinC, h, Int.add_comm, Int.mul_comm]

theorem mrg_assoc : ∀ a b c : List Con, mrg joinC (mrg joinC a b) c = mrg joinC a (mrg joinC b c)
  | [], b, c => by rw [mrg_nil, mrg_nil]
  | x :: a, [], c => by rw [mrg_nil', mrg_nil]
  | x :: a, y :: b, [] => by rw [mrg_nil', mrg_nil']
  | x :: a, y :: b, z :: c => by
    have i1 := mrg_assoc a (y :: b) (z :: c)
    have i2 := mrg_assoc (x :: a) b (z :: c)
    have i3 := mrg_assoc (x :: a) (y :: b) c
    have i4 := mrg_assoc a b (z :: c)
    have i5 := mrg_assoc a (y :: b) c
    have i6 := mrg_assoc (x :: a) b c
    have i7 := mrg_assoc a b c
    rcases Int.lt_trichotomy x.exp y.exp with h | h | h
    · rcases Int.lt_trichotomy x.exp z.exp with g | g | g
      · rw [mrg_lt _ h, mrg_lt _ g, i1]
        rcases Int.lt_trichotomy y.exp z.exp with k | k | k
        · rw [mrg_lt _ k, mrg_lt _ h]
        · rw [mrg_eq _ k, mrg_lt joinC (y := joinC y z) (by exact h)]
        · rw [mrg_gt _ k, mrg_lt _ g]
      · rw [mrg_lt _ h, mrg_eq _ g, i5, mrg_gt joinC (x := y) (y := z) (by omega), mrg_eq _ g]
      · rw [mrg_gt joinC (x := y) (y := z) (by omega), mrg_gt _ g, ← i3, mrg_lt _ h, mrg_gt _ g]
    · rcases Int.lt_trichotomy x.exp z.exp with g | g | g
      · rw [mrg_eq _ h, mrg_lt joinC (x := joinC x y) (by exact g), i4, mrg_lt joinC (x := y) (y := z) (by omega), mrg_eq _ h]
      · rw [mrg_eq _ h, mrg_eq joinC (x := joinC x y) (by exact g), i7, mrg_eq joinC (x := y) (y := z) (by omega), mrg_eq joinC (y := joinC y z) (by exact h)]
        congr 1
        simp only [joinC, Int.add_assoc, Int.mul_assoc]
      · rw [mrg_gt joinC (x := y) (y := z) (by omega), mrg_gt _ g, ← i3, mrg_eq _ h, mrg_gt joinC (x := joinC x y) (by exact g)]
    · rcases Int.lt_trichotomy y.exp z.exp with g | g | g
      · rw [mrg_gt _ h, mrg_lt _ g, mrg_lt _ g, mrg_gt _ h, i2]
      · rw [mrg_gt _ h, mrg_eq _ g, mrg_eq _ g, mrg_gt joinC (y := joinC y z) (by exact h), i6]
      · rw [mrg_gt joinC (x := y) (y := z) g, mrg_gt joinC (x := x) (y := z) (by omega), ← i3, mrg_gt _ h, mrg_gt _ g]
termination_by a b c => a.length + b.length + c.length

theorem mrg_joins {a b : List Con} (ha : ∀ c ∈ a, c.odd = false ∧ c.oddity = 0) (hb : ∀ c ∈ b, c.odd = false ∧ c.oddity = 0) : mrg joinR a b = mrg joinC a b := by
  refine mrg_ind (j := joinR) (P := fun a b m => (∀ c ∈ a, c.odd = false ∧ c.oddity = 0) → (∀ c ∈ b, c.odd = false ∧ c.oddity = 0) → m = mrg joinC a b) ?_ ?_ ?_ ?_ ?_ a b ha hb
  · intro b _ _; rw [mrg_nil]
  · intro a _ _; rw [mrg_nil']
  · intro x a y b h ih ha hb; rw [mrg_lt _ h, ih (fun c hc => ha c (by simp [hc])) hb]
  · intro x a y b h ih ha hb; rw [mrg_gt _ h, ih ha (fun c hc => hb c (by simp [hc]))]
  · intro x a y b h ih ha hb
    rw [mrg_eq _ h, ih (fun c hc => ha c (by simp [hc])) (fun c hc => hb c (by simp [hc]))]
    have hx := ha x (by simp)
    have hy := hb y (by simp)
    simp [joinR, joinC, hx, hy]

theorem vL_mrg {a b : List Con} (ha : vL a 0 (-1) = true) (hb : vL b 0 (-1) = true) : vL (mrg joinC a b) 0 (-1) = decide (dims a + dims b ≤ 8) := by
  obtain ⟨a1, a2, a3⟩ := (vL_iff (by omega)).1 ha
  obtain ⟨b1, b2, b3⟩ := (vL_iff (by omega)).1 hb
  rw [Bool.eq_iff_iff, vL_iff (by omega), decide_eq_true_eq, mrg_dims (fun _ _ => rfl)]
  constructor
  · rintro ⟨_, _, h⟩; omega
  · intro h
    refine ⟨mrg_asc (j := joinC) (fun _ _ => rfl) a b a1 b1, ?_, by omega⟩
    refine mrg_all (Q := Con.fine (-1)) ?_ a b a2 b2
    rintro x y hxy ⟨p1, p2, p3, p4, p5, p6⟩ ⟨q1, q2, q3, q4, q5, q6⟩
    refine ⟨p1, p2, by simp only [joinC]; omega, ?_, rfl, rfl⟩
    simp only [joinC]
    rcases p4 with p | p <;> rcases q4 with q | q <;> rw [p, q] <;> decide

theorem ex1_mrg (p : Int) {a b : List Con} (ha : ∀ c ∈ a, c.sign = 1 ∨ c.sign = -1) (hb : ∀ c ∈ b, c.sign = 1 ∨ c.sign = -1) : ex1 p (mrg joinC a b) % 8 = (ex1 p a + ex1 p b) % 8 := by
  refine mrg_ind (j := joinC) (P := fun a b m => (∀ c ∈ a, c.sign = 1 ∨ c.sign = -1) → (∀ c ∈ b, c.sign = 1 ∨ c.sign = -1) → ex1 p m % 8 = (ex1 p a + ex1 p b) % 8) ?_ ?_ ?_ ?_ ?_ a b ha hb
  · intro b _ _; simp [ex1]
  · intro a _ _; simp [ex1]
  · intro x a y b h ih ha hb
    have := ih (fun c hc => ha c (by simp [hc])) hb
    simp only [ex1] at this ⊢; omega
  · intro x a y b h ih ha hb
    have := ih ha (fun c hc => hb c (by simp [hc]))
    simp only [ex1] at this ⊢; omega
  · intro x a y b h ih ha hb
    have := ih (fun c hc => ha c (by simp [hc])) (fun c hc => hb c (by simp [hc]))
    have hf : four (joinC x y) % 8 = (four x + four y) % 8 := by
      have e : (joinC x y).exp = x.exp := rfl
      have s : (joinC x y).sign = x.sign * y.sign := rfl
      simp only [four, e, s, ← h]
      rcases ha x (by simp) with p | p <;> rcases hb y (by simp) with q | q <;> rw [p, q] <;> by_cases o : x.exp % 2 = 1 <;> simp [o]
    have e : (joinC x y).exp = x.exp := rfl
    have d : (joinC x y).dim = x.dim + y.dim := rfl
    simp only [ex1, e, d, ← h, Int.add_mul] at this ⊢
    omega
end Go.Proofs.YtejmmglffmckeaaDoor.Q
