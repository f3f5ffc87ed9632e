/- Lists of constituents that the call itself has made: reading and writing them. slices.Clone. -/
import Derived.Test.YtejmmglffmckeaaDoorX3
import Derived.Laws.OwnMore
import Derived.OwnWalk
import Derived.Deep.AppendLies
namespace Go.Proofs.YtejmmglffmckeaaDoor.Q
open Go.RowKit

def Own (w : World) (base : Nat) (v : Value) (l : List Con) : Prop := w.ownsRow base 31 5 v l.length (flat l)

/-- The cells of a list, one by one. -/
theorem flat_cells {w : World} {b : Nat} : ∀ {l : List Con} {o : Nat}, (∀ i c, l[i]? = some c → ConAt w b (o + i * 5) c) → ∀ j u, (flat l)[j]? = some u → w.cell? ⟨b, o + j, none⟩ = some u
  | [], o, _, j, u, hu => by simp [flat] at hu
  | c :: l, o, h, j, u, hu => by
    by_cases hj : j < 5
    · simp only [flat] at hu
      rw [List.getElem?_append_left (by simpa [Con.vals] using hj)] at hu
      have hc := h 0 c (by simp)
      simp only [Nat.zero_mul, Nat.add_zero] at hc
      match j, hj with
      | 0, _ => simp [Con.vals] at hu; subst hu; exact hc.c0
      | 1, _ => simp [Con.vals] at hu; subst hu; exact hc.c1
      | 2, _ => simp [Con.vals] at hu; subst hu; exact hc.c2
      | 3, _ => simp [Con.vals] at hu; subst hu; exact hc.c3
      | 4, _ => simp [Con.vals] at hu; subst hu; exact hc.c4
    · simp only [flat] at hu
      rw [List.getElem?_append_right (by simp [Con.vals]; omega)] at hu
      have := flat_cells (l := l) (o := o + 5) (fun i x hi => by
        have := h (i + 1) x (by simpa using hi)
        have e : o + (i + 1) * 5 = o + 5 + i * 5 := by omega
        rw [e] at this; exact this) (j - 5) u (by simpa [Con.vals] using hu)
      have e : o + 5 + (j - 5) = o + j := by omega
      rw [e] at this; exact this

theorem flat_one (l : List Con) : ∀ u ∈ flat l, u.oneCell' = true := by
  induction l with
  | nil => intro u hu; simp [flat] at hu
  | cons c l ih =>
    intro u hu
    simp only [flat, List.mem_append] at hu
    rcases hu with hu | hu
    · simp [Con.vals] at hu; rcases hu with rfl | rfl | rfl | rfl | rfl <;> rfl
    · exact ih u hu

theorem Own.lst {w : World} {base : Nat} {v : Value} {l : List Con} (h : Own w base v l) : Lst w v l := lst_of_own h
theorem Own.lt {w : World} {base : Nat} {v : Value} {l : List Con} (h : Own w base v l) : ∀ k, v.ownBlock = some k → base ≤ k ∧ k < w.heap.size := World.ownsRow.lt h
theorem Own.below {w w' : World} {base : Nat} {v : Value} {l : List Con} (h : Own w base v l) (hb : Below w.heap.size w w') : Own w' base v l := ownsRow_below h hb
theorem Own.alloc {w : World} {base : Nat} {v : Value} {l : List Con} (h : Own w base v l) (o : Obj) : Own (w.alloc o) base v l := World.ownsRow.alloc h o
theorem Own.base_le {w : World} {base base' : Nat} {v : Value} {l : List Con} (h : Own w base v l) (hb : base' ≤ base) : Own w base' v l := by
  refine ⟨h.1, ?_⟩
  rcases h.2 with h2 | ⟨g, cap, cur, a, b, c⟩
  · exact .inl h2
  · exact .inr ⟨g, cap, cur, a, by omega, c⟩
theorem Own.far {w : World} {base : Nat} {v : Value} {l : List Con} (h : Own w base v l) {p : Addr} (hp : ∀ k, v.ownBlock = some k → k ≠ p.block) (u : Value) : Own (w.setCell p u) base v l := by
  refine ⟨h.1, ?_⟩
  rcases h.2 with h2 | ⟨g, cap, cur, a, b, c, d⟩
  · exact .inl h2
  · refine .inr ⟨g, cap, cur, a, b, ?_, d⟩
    exact (Below.heap_setCell w p u g (hp g (by rw [a]; rfl))).trans c
theorem Own.form {w : World} {base : Nat} {v : Value} {l : List Con} (h : Own w base v l) (hne : 0 < l.length) : ∃ g cap, v = .slice (some ⟨g, 0, none⟩) l.length cap ∧ base ≤ g ∧ g < w.heap.size := by
  rcases h.2 with ⟨_, h2⟩ | ⟨g, cap, cur, a, b, _⟩
  · omega
  · exact ⟨g, cap, a, b, (h.lt g (by rw [a]; rfl)).2⟩
theorem Own.at_ {w : World} {base g n cap : Nat} {l : List Con} (h : Own w base (.slice (some ⟨g, 0, none⟩) n cap) l) {i : Nat} {c : Con} (hi : l[i]? = some c) : ConAt w g (i * 5) c := by
  have hcell : ∀ j u, c.vals[j]? = some u → w.cell? ⟨g, i * 5 + j, none⟩ = some u := fun j u hu => by
    have := World.ownsRow.cells h (g := g) rfl (i * 5 + j) u (flat_at hi j u hu)
    rw [addr_add] at this
    simpa using this
  exact ⟨hcell 0 _ rfl, hcell 1 _ rfl, hcell 2 _ rfl, hcell 3 _ rfl, hcell 4 _ rfl⟩
theorem Own.free {w : World} {base g n cap : Nat} {l : List Con} (h : Own w base (.slice (some ⟨g, 0, none⟩) n cap) l) (j : Nat) : w.frozen? ⟨g, j, none⟩ = false := by
  have hn : n = l.length := by
    rcases h.2 with ⟨e, _⟩ | ⟨_, _, _, e, _⟩
    · cases e
    · cases e; rfl
  subst hn
  exact World.ownsRow.frozenAt h j

theorem flat_set : ∀ {l : List Con} {i j : Nat} {c c' : Con} {u : Value}, l[i]? = some c → j < 5 → c'.vals = c.vals.set j u → (flat l).set (i * 5 + j) u = flat (l.set i c')
  | [], _, _, _, _, _, h, _, _ => by simp at h
  | x :: l, 0, j, c, c', u, h, hj, hv => by
    simp at h
    subst h
    simp only [flat, Nat.zero_mul, Nat.zero_add, List.set_cons_zero]
    rw [List.set_append_left _ _ (by simpa [Con.vals] using hj), hv]
  | x :: l, i + 1, j, c, c', u, h, hj, hv => by
    simp only [List.getElem?_cons_succ] at h
    simp only [flat, List.set_cons_succ]
    rw [List.set_append_right _ _ (by simp [Con.vals]; omega)]
    have e : (i + 1) * 5 + j - x.vals.length = i * 5 + j := by simp [Con.vals]; omega
    rw [e, flat_set h hj hv]

/-- One field is written. -/
theorem Own.set {w : World} {base g n cap : Nat} {l : List Con} (h : Own w base (.slice (some ⟨g, 0, none⟩) n cap) l) {i j : Nat} {c c' : Con} {u : Value} (hi : l[i]? = some c) (hj : j < 5) (hv : c'.vals = c.vals.set j u) :
    Own (w.setCell ⟨g, i * 5 + j, none⟩ u) base (.slice (some ⟨g, 0, none⟩) n cap) (l.set i c') := by
  have hn : n = l.length := by
    rcases h.2 with ⟨e, _⟩ | ⟨_, _, _, e, _⟩
    · cases e
    · cases e; rfl
  subst hn
  have := (World.ownsRow.stored h (i * 5 + j) u).1
  unfold Own
  rw [List.length_set, ← flat_set hi hj hv]
  exact this
theorem Own.len {w : World} {base n cap : Nat} {a : Option Addr} {l : List Con} (h : Own w base (.slice a n cap) l) : l.length = n := h.lst.len

/-- A block of two cells. -/
structure Box (w : World) (b : Nat) (x y : Value) : Prop where
  c0 : w.cell? ⟨b, 0, none⟩ = some x
  c1 : w.cell? ⟨b, 1, none⟩ = some y
theorem Box.below {w w' : World} {b n : Nat} {x y : Value} (h : Box w b x y) (hb : Below n w w') (hl : b < n) : Box w' b x y :=
  ⟨(hb.cell (p := ⟨b, 0, none⟩) hl).trans h.c0, (hb.cell (p := ⟨b, 1, none⟩) hl).trans h.c1⟩
theorem Box.new (w : World) (x y : Value) (t : TypeId) : Box (w.alloc (.cells #[x, y] t)) w.heap.size x y := ⟨by simp [go_sem], by simp [go_sem]⟩
theorem Box.lt {w : World} {b : Nat} {x y : Value} (h : Box w b x y) : b < w.heap.size := by
  rcases Nat.lt_or_ge b w.heap.size with hl | hl
  · exact hl
  · have := h.c0
    unfold World.cell? at this
    rw [Array.getElem?_eq_none hl] at this
    simp at this
theorem Box.alloc {w : World} {b : Nat} {x y : Value} (h : Box w b x y) (o : Obj) : Box (w.alloc o) b x y := h.below ((Below.refl w.heap.size w).alloc (Nat.le_refl _) o) h.lt
theorem Box.later {w w' : World} {b : Nat} {x y : Value} (h : Box w b x y) (hb : Below w.heap.size w w') : Box w' b x y := h.below hb h.lt
theorem Lst.later {w w' : World} {v : Value} {l : List Con} (h : Lst w v l) (hb : Below w.heap.size w w') : Lst w' v l := h.below hb (Nat.le_refl _)
theorem Lst.made {w : World} {v : Value} {l : List Con} (h : Lst w v l) (o : Obj) : Lst (w.alloc o) v l := h.below ((Below.refl w.heap.size w).alloc (Nat.le_refl _) o) (Nat.le_refl _)
/-- A chain of worlds, each grown out of the first. -/
theorem Below.next {a w w' : World} (h : Below a.heap.size a w) (hb : Below w.heap.size w w') : Below a.heap.size a w' := h.trans (hb.mono h.size)
theorem Below.made {a w : World} (h : Below a.heap.size a w) (o : Obj) : Below a.heap.size a (w.alloc o) := h.alloc h.size o

theorem Own.drew {w : World} {base : Nat} {v : Value} {l : List Con} (h : Own w base v l) : Own w.drew base v l := World.ownsRow.drew h
theorem isNil (a : Addr) (n c : Nat) (w : World) : (binOp .eql 26 (.slice (some a) n c) (.slice none 0 0)).run Tryd.prog w = .ok (.bool false) w := Lib.run_eql_slice_nil w _ _ _ _ _ _ _ Tryd.underlying26
theorem un22 : Tryd.prog.underlying 26 = some (.slice 31) := Tryd.underlying26

theorem clone_step {w w3 : World} {l : List Con} {n : Nat} {v' : Value} (hn : l.length = n) (hown' : w3.ownsRow w.heap.size 31 5 v' (0 + n) ([] ++ flat l))
    (hgrow : (w.alloc (.cells #[] 31)).grownBy w3 (Value.ownBlock (.slice (some ⟨w.heap.size, 0, none⟩) 0 0))) : Own w3 w.heap.size v' l ∧ Below w.heap.size w w3 := by
  subst hn
  refine ⟨by simpa [Own] using hown', Below.grown ((Below.refl _ _).alloc (Nat.le_refl _) _) hgrow (by simp) (fun k hk => ?_)⟩
  simp [Value.ownBlock] at hk
  omega
theorem clone_cells {w : World} {b o : Nat} {l : List Con} (hb : b < w.heap.size) (hc : ∀ i c, l[i]? = some c → ConAt w b (o + i * 5) c) (x : Obj) : ∀ j u, (flat l)[j]? = some u → (w.alloc x).cell? ((⟨b, o, none⟩ : Addr).add j) = some u := by
  intro j u hu
  rw [addr_add]
  exact (((Below.refl w.heap.size w).alloc (Nat.le_refl _) _).cell (p := ⟨b, o + j, none⟩) hb).trans (flat_cells hc j u hu)

set_option maxRecDepth 100000 in
set_option maxHeartbeats 1000000 in
theorem clone_cons (l : List Con) (n b o cap : Nat) (w : World) (hn : Hid (l.length = n)) (hn0 : 0 < n) (hn1 : n ≤ 1000) (hb : b < w.heap.size) (hc : Hid (∀ i c, l[i]? = some c → ConAt w b (o + i * 5) c)) :
    Calls Tryd.prog 15 #[.slice (some ⟨b, o, none⟩) n cap] w fun e w' => ∃ g c', e = .returned (.slice (some ⟨g, 0, none⟩) n c') ∧ w.heap.size ≤ g ∧ g < w'.heap.size ∧ Hid (Own w' w.heap.size (.slice (some ⟨g, 0, none⟩) n c') l) ∧ Below w.heap.size w w' := by
  obtain ⟨i0, hi, hz0, hz1, hz2⟩ := info_parts74
  have hi' := Lib.hid hi
  have hz0' := Lib.hid hz0
  have hz1' := Lib.hid hz1
  have hz2' := Lib.hid hz2
  clear hi hz0 hz1 hz2
  have hnil := isNil
  go_enter Tryd.func15, Tryd.ntmps15
  go_wp2_with (first
    | (at_builtin; refine wpList_append_own _ rfl _ _ 26 rfl w.heap.size 31 i0 _ 5 40 Tryd.underlying26 hi'.out hz0'.out hz1'.out hz2'.out rfl (by decide) _ 0 [] rfl (World.ownsRow_made w #[] 0 (Nat.le_refl _) (by simp) rfl) ⟨b, o, none⟩ n cap (flat l) rfl ?_ ?_ (flat_one l) (by unfold maxLen; omega) (by omega) (by simp) ?_
       · rw [flat_length, hn.out]
       · exact clone_cells hb hc.out _
       intro v' w3 hown' hgrow3 hnil3
       have X := Lib.hid (clone_step hn.out hown' hgrow3)
       clear hown' hgrow3 hnil3))
  go_ret
  obtain ⟨g, c', rfl, h1, h2⟩ := X.out.1.form (by rw [hn.out]; exact hn0)
  refine ⟨g, c', by rw [hn.out]; rfl, h1, h2, ?_, X.out.2⟩
  have := X.out.1
  rw [hn.out] at this
  exact this
end Go.Proofs.YtejmmglffmckeaaDoor.Q
