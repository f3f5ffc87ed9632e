/- quadformscene.Symbol.list for an odd prime. -/
import Derived.Test.YtejmmglffmckeaaGreatDoorW7
import Derived.Laws.AppendOwn
import Derived.OwnWalk
import Derived.WalkSpells
namespace Go.Proofs.YtejmmglffmckeaaGreatDoor.Q
open Go.RowKit

/-- Five bytes of block b from o. -/
structure PartAt (w : World) (b o : Nat) (x0 x1 x2 x3 x4 : Int) : Prop where
  c0 : w.cell? ⟨b, o, none⟩ = some (.int .u8 x0)
  c1 : w.cell? ⟨b, o + 1, none⟩ = some (.int .u8 x1)
  c2 : w.cell? ⟨b, o + 2, none⟩ = some (.int .u8 x2)
  c3 : w.cell? ⟨b, o + 3, none⟩ = some (.int .u8 x3)
  c4 : w.cell? ⟨b, o + 4, none⟩ = some (.int .u8 x4)
  b0 : 0 ≤ x0 ∧ x0 ≤ 255
  b1 : 0 ≤ x1 ∧ x1 ≤ 255
  b2 : 0 ≤ x2 ∧ x2 ≤ 255
  b3 : 0 ≤ x3 ∧ x3 ≤ 255
  b4 : 0 ≤ x4 ∧ x4 ≤ 255

theorem PartAt.below {w w' : World} {b o n : Nat} {x0 x1 x2 x3 x4 : Int} (h : PartAt w b o x0 x1 x2 x3 x4) (hb : Below n w w') (hl : b < n) : PartAt w' b o x0 x1 x2 x3 x4 :=
  ⟨(hb.cell (p := ⟨b, _, none⟩) hl).trans h.c0, (hb.cell (p := ⟨b, _, none⟩) hl).trans h.c1, (hb.cell (p := ⟨b, _, none⟩) hl).trans h.c2, (hb.cell (p := ⟨b, _, none⟩) hl).trans h.c3, (hb.cell (p := ⟨b, _, none⟩) hl).trans h.c4, h.b0, h.b1, h.b2, h.b3, h.b4⟩

/-- The slice value v holds n parts. -/
def Prts (w : World) (v : Value) (n : Nat) : Prop :=
  ∃ a cap, v = .slice a n cap ∧ (0 < n → ∃ b o, a = some ⟨b, o, none⟩ ∧ b < w.heap.size ∧ ∀ i, i < n → ∃ x0 x1 x2 x3 x4, PartAt w b (o + i * 5) x0 x1 x2 x3 x4)

def Con.vals (c : Con) : List Value := [.int .i64 c.exp, .int .i64 c.dim, .int .i64 c.sign, .bool c.odd, .int .i64 c.oddity]
def flat : List Con → List Value
  | [] => []
  | c :: l => c.vals ++ flat l
theorem flat_append (a b : List Con) : flat (a ++ b) = flat a ++ flat b := by
  induction a with
  | nil => rfl
  | cons c a ih => simp [flat, ih]
theorem flat_length (l : List Con) : (flat l).length = l.length * 5 := by
  induction l with
  | nil => rfl
  | cons c l ih => simp [flat, Con.vals, ih]; omega
theorem flat_at : ∀ {l : List Con} {i : Nat} {c : Con}, l[i]? = some c → ∀ j u, c.vals[j]? = some u → (flat l)[i * 5 + j]? = some u
  | [], i, c, h, _, _, _ => by simp at h
  | x :: l, 0, c, h, j, u, hu => by
    simp at h
    subst h
    simp only [flat, Nat.zero_mul, Nat.zero_add]
    rw [List.getElem?_append_left (by have := (List.getElem?_eq_some_iff.1 hu).1; exact this)]
    exact hu
  | x :: l, i + 1, c, h, j, u, hu => by
    simp only [List.getElem?_cons_succ] at h
    simp only [flat]
    rw [List.getElem?_append_right (by simp [Con.vals]; omega)]
    have e : (i + 1) * 5 + j - x.vals.length = i * 5 + j := by simp [Con.vals]; omega
    rw [e]
    exact flat_at h j u hu

theorem ownsRow_below {w w' : World} {base : Nat} {e : TypeId} {size : Nat} {v : Value} {n : Nat} {xs : List Value} (h : w.ownsRow base e size v n xs) (hb : Below w.heap.size w w') : w'.ownsRow base e size v n xs := by
  obtain ⟨h1, h2⟩ := h
  refine ⟨h1, ?_⟩
  rcases h2 with h2 | ⟨g, cap, cur, a, b, c, d⟩
  · exact .inl h2
  · refine .inr ⟨g, cap, cur, a, b, ?_, d⟩
    have hlt : g < w.heap.size := by
      rcases Nat.lt_or_ge g w.heap.size with hl | hl
      · exact hl
      · rw [Array.getElem?_eq_none hl] at c; cases c
    rw [hb.block g hlt]; exact c

/-- An own row of constituents is a list. -/
theorem lst_of_own {w : World} {base : Nat} {e : TypeId} {v : Value} {l : List Con} (h : w.ownsRow base e 5 v l.length (flat l)) : Lst w v l := by
  rcases h.2 with ⟨h1, h2⟩ | ⟨g, cap, cur, h1, h2, h3, h4, h5, h6, h7⟩
  · exact .inl ⟨List.length_eq_zero_iff.1 h2, none, 0, h1⟩
  · by_cases hl : l = []
    · subst hl; exact .inl ⟨rfl, _, _, h1⟩
    · have hlt : g < w.heap.size := (h.lt g (by rw [h1]; rfl)).2
      refine .inr ⟨hl, g, 0, cap, h1, hlt, h4, fun i c hi => ?_⟩
      have hcell : ∀ j u, c.vals[j]? = some u → w.cell? ⟨g, 0 + i * 5 + j, none⟩ = some u := fun j u hu => by
        have := h.cells (g := g) (by rw [h1]; rfl) (i * 5 + j) u (flat_at hi j u hu)
        rw [addr_add] at this
        rw [Nat.zero_add] at this ⊢
        exact this
      exact ⟨hcell 0 _ rfl, hcell 1 _ rfl, hcell 2 _ rfl, hcell 3 _ rfl, hcell 4 _ rfl⟩

theorem info74 : (Tryz.prog.info? 74).map (fun i => (i.zero, i.size, i.bytes)) = some (some (.agg #[.int .i64 0, .int .i64 0, .int .i64 0, .bool false, .int .i64 0]), 5, 40) := by kernel_rfl
theorem info_parts74 : ∃ i0, Tryz.prog.info? 74 = some i0 ∧ i0.zero = some (.agg #[.int .i64 0, .int .i64 0, .int .i64 0, .bool false, .int .i64 0]) ∧ i0.size = 5 ∧ i0.bytes = 40 := by
  have h := info74
  cases hi : Tryz.prog.info? 74 with
  | none => rw [hi] at h; cases h
  | some i =>
    rw [hi] at h
    simp only [Option.map_some, Option.some.injEq, Prod.mk.injEq] at h
    exact ⟨i, rfl, h.1, h.2.1, h.2.2⟩
theorem cell_five_new (w : World) (c : Con) (t : TypeId) : ∀ j u, c.vals[j]? = some u → (w.alloc (.cells #[.int .i64 c.exp, .int .i64 c.dim, .int .i64 c.sign, .bool c.odd, .int .i64 c.oddity] t)).cell? ((⟨w.heap.size, 0, none⟩ : Addr).add j) = some u := by
  intro j u hj
  match j, hj with
  | 0, hj => simp [Con.vals] at hj; subst hj; simp [Addr.add]
  | 1, hj => simp [Con.vals] at hj; subst hj; simp [Addr.add]
  | 2, hj => simp [Con.vals] at hj; subst hj; simp [Addr.add]
  | 3, hj => simp [Con.vals] at hj; subst hj; simp [Addr.add]
  | 4, hj => simp [Con.vals] at hj; subst hj; simp [Addr.add]
  | j + 5, hj => simp [Con.vals] at hj

def dims : List Con → Int
  | [] => 0
  | c :: l => c.dim + dims l
theorem dims_append (a b : List Con) : dims (a ++ b) = dims a + dims b := by
  induction a with
  | nil => simp [dims]
  | cons c a ih => simp only [List.cons_append, dims, ih]; omega

/-- What the loop of list keeps. -/
structure Grows (l : List Con) (D E : Int) : Prop where
  ok : ∀ r, vL (l ++ r) 0 (-1) = vL r D E
  sum : dims l = D
  len : l.length ≤ D
  top : ∀ c ∈ l, c.exp ≤ E
  exl : E ≤ 3 * l.length - 1
theorem Grows.nil : Grows [] 0 (-1) := ⟨fun _ => rfl, rfl, by simp, by simp, by simp⟩
theorem Grows.snoc {l : List Con} {D E : Int} {c : Con} (h : Grows l D E) (h1 : E < c.exp) (h2 : c.exp ≤ 60) (h3 : 1 ≤ c.dim) (h4 : c.dim ≤ 8 - D) (h5 : c.sign = 1 ∨ c.sign = -1) (h6 : c.odd = false) (h7 : c.oddity = 0) (h8 : c.exp ≤ E + 3) : Grows (l ++ [c]) (D + c.dim) c.exp := by
  refine ⟨fun r => ?_, ?_, ?_, ?_, ?_⟩
  · rw [List.append_assoc, h.ok]
    simp [vL, vc, h1, h2, h3, h4, h5, h6, h7]
  · rw [dims_append, h.sum]; simp [dims]
  · have := h.len; simp; omega
  · intro x hx
    rcases List.mem_append.1 hx with hx | hx
    · have := h.top x hx; omega
    · simp at hx; subst hx; omega
  · have := h.exl; simp; omega
theorem Grows.valid {l : List Con} {D E : Int} (h : Grows l D E) : vL l 0 (-1) = true := by
  have := h.ok []
  simpa [vL] using this

/-- What list returns. -/
structure Listed (base : Nat) (w : World) (v : Value) (most : Int) (l : List Con) : Prop where
  lst : Lst w v l
  far : ∀ k, v.ownBlock = some k → base ≤ k
  ok : vL l 0 (-1) = true
  ne : l ≠ []
  sum : dims l ≤ most
  top : ∀ c ∈ l, c.exp ≤ 23
theorem Grows.top23 {l : List Con} {D E most : Int} (h : Grows l D E) (h1 : D ≤ most) (h2 : most ≤ 8) : ∀ c ∈ l, c.exp ≤ 23 := by
  intro c hc
  have := h.top c hc
  have := h.exl
  have := h.len
  omega

set_option maxRecDepth 100000 in
set_option maxHeartbeats 4000000 in
theorem list_pos (xp most : Int) (n b o cap : Nat) (w : World) (hm : 1 ≤ most) (hm' : most ≤ 8) (hn0 : 0 < n) (hn1 : n ≤ 20) (hb : b < w.heap.size) (hp : Hid (∀ i, i < n → ∃ x0 x1 x2 x3 x4, PartAt w b (o + i * 5) x0 x1 x2 x3 x4)) :
    Calls Tryz.prog 53 #[.agg #[.int .u8 xp, .slice (some ⟨b, o, none⟩) n cap], .int .i64 most, .bool false] w fun e w' => ∃ v l, e = .returned v ∧ Listed w.heap.size w' v most l ∧ Below w.heap.size w w' := by
  obtain ⟨i0, hi, hz0, hz1, hz2⟩ := info_parts74
  have hi' := Lib.hid hi
  have hz0' := Lib.hid hz0
  have hz1' := Lib.hid hz1
  have hz2' := Lib.hid hz2
  clear hi hz0 hz1 hz2
  go_enter Tryz.func53, Tryz.ntmps53
  go_wp2
  go_loopw [7, 8, 9, 16] (fun v e d i wr => ∃ (k : Nat) (E D : Int) (l : List Con), k ≤ n ∧ -1 ≤ E ∧ E ≤ 3 * k - 1 ∧ 0 ≤ D ∧ D ≤ most ∧ l.length ≤ 20 ∧ (0 < k → 0 < D) ∧ e = .int .i64 E ∧ d = .int .i64 D ∧ i = .int .i64 k ∧ Hid (Grows l D E) ∧ Hid (wr.ownsRow (w.heap.size + 1) 74 5 v l.length (flat l)) ∧ Below w.heap.size w wr ∧ w.heap.size < wr.heap.size) (fun _ _ _ i _ => (n - (intOf i).toNat))
  case atStart => exact ⟨0, -1, 0, [], by omega, by omega, by omega, by omega, by omega, by simp, by omega, rfl, rfl, rfl, Grows.nil, World.ownsRow_nil _ _ _ _, (Below.refl _ _).alloc (Nat.le_refl _) _, by simp⟩
  case round =>
    obtain ⟨k, E, D, l, hk, hE0, hE1, hD0, hD1, hl, hkD, rfl, rfl, rfl, hG, hown, hbe, hbs⟩ := hrel
    by_cases hlt : k < n
    · obtain ⟨x0, x1, x2, x3, x4, hx⟩ := hp.out k hlt
      obtain ⟨g0, g1, g2, g3, g4, b0, b1, b2, -, -⟩ := hx.below hbe hb
      by_cases hD : most ≤ D
      · have hne : Hid (l ≠ []) := fun e => by have := hG.out.sum; rw [e] at this; simp [dims] at this; omega
        go_wp2
        go_ret
        exact ⟨_, l, rfl, ⟨lst_of_own (hown.out.alloc _), fun k hk => by have := (hown.out.lt k hk).1; omega, hG.out.valid, hne.out, by rw [hG.out.sum]; exact hD1, hG.out.top23 hD1 hm'⟩, hbe.alloc (by omega) _⟩
      · have hcall := Lib.hid (fun W => constituent_calls x0 x1 x2 x3 x4 (E + (1 + x0 % 4 % 3)) (most - D) W b1.1 b1.2 b2.1 b2.2 (by omega) (by omega) (by omega) (by omega))
        obtain ⟨c1, c2, c3, c4, c5, c6⟩ := mkCon_good (x1 := x1) (x2 := x2) (exp := E + (1 + x0 % 4 % 3)) (room := most - D) (by omega)
        generalize mkCon x1 x2 (E + (1 + x0 % 4 % 3)) (most - D) = c at hcall c1 c2 c3 c4 c5 c6
        have hcc := Lib.hid (And.intro c1 (And.intro c4 (And.intro c5 c6)))
        clear c1 c4 c5 c6
        unfold Con.agg at hcall
        go_wp2_with (first
          | (go_at_call 104; refine (hcall.out _).mono ?_; rintro e w1 ⟨rfl, hb1⟩; have hz1 := hb1.size; simp at hz1)
          | (at_builtin; refine wpList_append_own _ rfl _ _ 22 rfl (w.heap.size + 1) 74 i0 _ 5 40 Tryz.underlying22 hi'.out hz0'.out hz1'.out hz2'.out rfl (by decide) _ l.length (flat l) rfl (((ownsRow_below (hown.out.alloc _) hb1).alloc _).alloc _) ⟨w1.heap.size + 1, 0, none⟩ 1 1 c.vals rfl rfl ?_ (fun x hx => by simp [Con.vals] at hx; rcases hx with rfl | rfl | rfl | rfl | rfl <;> rfl) (by unfold maxLen; omega) (by omega) (by simp; omega) ?_
             · simpa using cell_five_new (w1.alloc _) c 74
             intro v' w3 hown' hgrow3 hnil3
             have hbw3 : Below w.heap.size w w3 := Below.grown (((((hbe.alloc (by omega) _).trans (hb1.mono (by simp; omega))).alloc (by omega) _).alloc (by simp; omega) _)) hgrow3 (by simp; omega) (fun j hj => by have := (hown.out.lt _ hj).1; omega)
             have hz3 := hgrow3.size
             simp at hz3
             have X : Hid (w3.ownsRow (w.heap.size + 1) 74 5 v' (l.length + 1) (flat l ++ c.vals) ∧ Below w.heap.size w w3) := ⟨hown', hbw3⟩
             clear hown' hgrow3 hnil3 hbw3))
        go_roundw
        case rel =>
          obtain ⟨c1, c4, c5, c6⟩ := hcc.out
          have hx : w3.ownsRow (w.heap.size + 1) 74 5 v' (l ++ [c]).length (flat (l ++ [c])) := by
            have := X.out.1
            rw [flat_append]
            simpa [flat] using this
          exact ⟨k + 1, c.exp, D + c.dim, l ++ [c], by omega, by omega, by omega, by omega, by omega, by have := hG.out.len; simp; omega, by omega, by rw [c1], rfl, by go_num, hG.out.snoc (by omega) (by omega) c2 (by omega) c4 c5 c6 (by omega), hx, X.out.2, by omega⟩
        case measure => simp [intOf]; omega
    · have hne : Hid (l ≠ []) := fun e => by have := hG.out.sum; rw [e] at this; simp [dims] at this; omega
      have hDp : 0 < D := hkD (by omega)
      go_wp2
      go_ret
      exact ⟨_, l, rfl, ⟨lst_of_own hown.out, fun k hk => by have := (hown.out.lt k hk).1; omega, hG.out.valid, hne.out, by rw [hG.out.sum]; exact hD1, hG.out.top23 hD1 hm'⟩, hbe⟩
end Go.Proofs.YtejmmglffmckeaaGreatDoor.Q
