/- The abstract heap: what it stands for, and what reading, writing and making blocks do to it. -/
import Derived.Test.YtejmmglffmckeaaGreatDoorZA
set_option linter.unusedSimpArgs false
set_option linter.unusedVariables false
namespace Go.QfSy

/- a constituent -/
structure Con where
  exp : Int
  dim : Int
  sign : Int
  odd : Bool
  oddity : Int
deriving DecidableEq, Inhabited

def Con.avs (c : Con) : List AV := [.vint .i64 c.exp, .vint .i64 c.dim, .vint .i64 c.sign, .vbool c.odd, .vint .i64 c.oddity]
def Con.rvs (c : Con) : List RV := [.int .i64 c.exp, .int .i64 c.dim, .int .i64 c.sign, .bool c.odd, .int .i64 c.oddity]
def Con.zero : Con := ⟨0, 0, 0, false, 0⟩

/- what a block holds: cells, or a list that may be open -/
inductive View where
  | plain (cells : List AV)
  | con (L : List Con)
  | ints (k : IntKind) (L : List Int)

def View.cells : View → List AV
  | plain cs => cs
  | con L => L.flatMap Con.avs
  | ints k L => L.map (.vint k)

structure Blk where
  view : View
  elem : Nat
  sz : Nat
  opn : Bool
  own : Bool

def Blk.cells (k : Blk) : List AV := k.view.cells

abbrev Hf := Nat → Option Blk

def upd {α : Type} (f : Nat → Option α) (i : Nat) (v : Option α) : Nat → Option α := fun b => if b = i then v else f b
theorem upd_same {α : Type} (f : Nat → Option α) (i : Nat) (v : Option α) : upd f i v i = v := by simp [upd]
theorem upd_other {α : Type} (f : Nat → Option α) {i b : Nat} (v : Option α) (h : b ≠ i) : upd f i v b = f b := by simp [upd, h]

def BRel (γ : Gm) (w : World) (b : Nat) (k : Blk) : Prop :=
  ∃ B x cs ex, γ b = some (B, x) ∧ w.heap[B]? = some (.cells (cs ++ ex).toArray k.elem (0, 0)) ∧ VsRel γ k.cells cs ∧ ex.length = x * k.sz ∧ (k.opn = false → x = 0)

structure HRel (γ : Gm) (f : Hf) (nx : Nat) (w : World) : Prop where
  blk : ∀ b k, f b = some k → BRel γ w b k
  inj : ∀ b b' k k' B x x', f b = some k → f b' = some k' → γ b = some (B, x) → γ b' = some (B, x') → b = b'
  fresh : ∀ b, nx ≤ b → γ b = none
  fzr : ∀ B x, γ.fz B = some x → w.heap[B]? = some x
  fzo : ∀ b k B x, f b = some k → k.own = true → γ b = some (B, x) → γ.fz B = none

def OwnImg (γ : Gm) (f : Hf) (B : Nat) : Prop := ∃ b k x, f b = some k ∧ k.own = true ∧ γ b = some (B, x)

structure Stp (γ : Gm) (f : Hf) (w : World) (γ' : Gm) (f' : Hf) (nx' : Nat) (w' : World) : Prop where
  le : γ.le γ'
  rel : HRel γ' f' nx' w'
  size : w.heap.size ≤ w'.heap.size
  os : w'.os = w.os
  tape : w'.tape = w.tape
  output : w'.output = w.output
  frame : ∀ k, k < w.heap.size → ¬ OwnImg γ f k → w'.heap[k]? = w.heap[k]?
  own : ∀ k, k < w.heap.size → OwnImg γ' f' k → OwnImg γ f k
  ro : ∀ b k, f' b = some k → k.own = false → f b = some k
  dom : ∀ b k, f' b = some k → (∃ k', f b = some k') ∨ γ b = none
  fzn : ∀ B x, γ'.fz B = some x → γ.fz B = some x ∨ w.heap.size ≤ B ∨ OwnImg γ f B

theorem Stp.refl {γ : Gm} {f : Hf} {nx : Nat} {w : World} (h : HRel γ f nx w) : Stp γ f w γ f nx w :=
  ⟨Gm.le_refl γ, h, Nat.le_refl _, rfl, rfl, rfl, fun _ _ _ => rfl, fun _ _ h => h, fun _ _ h _ => h, fun _ k h => .inl ⟨k, h⟩, fun _ _ h => .inl h⟩

theorem Stp.trans {γ γ1 γ2 : Gm} {f f1 f2 : Hf} {n1 n2 : Nat} {w w1 w2 : World} (h : Stp γ f w γ1 f1 n1 w1) (k : Stp γ1 f1 w1 γ2 f2 n2 w2) : Stp γ f w γ2 f2 n2 w2 :=
  ⟨Gm.le_trans h.le k.le, k.rel, Nat.le_trans h.size k.size, k.os.trans h.os, k.tape.trans h.tape, k.output.trans h.output,
   fun b hb hn => (k.frame b (Nat.lt_of_lt_of_le hb h.size) (fun ho => hn (h.own b hb ho))).trans (h.frame b hb hn),
   fun b hb ho => h.own b hb (k.own b (Nat.lt_of_lt_of_le hb h.size) ho),
   fun b q hb ho => h.ro b q (k.ro b q hb ho) ho,
   fun b q hb => by
     rcases k.dom b q hb with ⟨q', hq'⟩ | hn
     · exact h.dom b q' hq'
     · right
       cases hg : γ b with
       | none => rfl
       | some p => rw [h.le.nm b p hg] at hn; exact (nomatch hn),
   fun B x hB => by
     rcases k.fzn B x hB with h1 | h1 | h1
     · exact h.fzn B x h1
     · exact .inr (.inl (Nat.le_trans h.size h1))
     · rcases Nat.lt_or_ge B w.heap.size with h2 | h2
       · exact .inr (.inr (h.own B h2 h1))
       · exact .inr (.inl h2)⟩

theorem BRel.heap {γ : Gm} {w w' : World} {b : Nat} {k : Blk} (h : BRel γ w b k) (hw : w'.heap = w.heap) : BRel γ w' b k := by
  obtain ⟨B, x, cs, ex, h1, h2, h3⟩ := h
  exact ⟨B, x, cs, ex, h1, by rw [hw]; exact h2, h3⟩

theorem HRel.heap {γ : Gm} {f : Hf} {nx : Nat} {w w' : World} (h : HRel γ f nx w) (hw : w'.heap = w.heap) : HRel γ f nx w' :=
  ⟨fun b k hb => (h.blk b k hb).heap hw, h.inj, h.fresh, fun B x hB => by rw [hw]; exact h.fzr B x hB, h.fzo⟩

/- less is known -/
theorem HRel.sub {γ : Gm} {f f' : Hf} {nx : Nat} {w : World} (h : HRel γ f nx w) (hs : ∀ b k, f' b = some k → f b = some k) : HRel γ f' nx w :=
  ⟨fun b k hb => h.blk b k (hs b k hb), fun b b' k k' B x x' h1 h2 => h.inj b b' k k' B x x' (hs _ _ h1) (hs _ _ h2), h.fresh, h.fzr, fun b k B x hb => h.fzo b k B x (hs _ _ hb)⟩

theorem HRel.nx_mono {γ : Gm} {f : Hf} {nx nx' : Nat} {w : World} (h : HRel γ f nx w) (hn : nx ≤ nx') : HRel γ f nx' w :=
  ⟨h.blk, h.inj, fun b hb => h.fresh b (Nat.le_trans hn hb), h.fzr, h.fzo⟩

theorem HRel.lt {γ : Gm} {f : Hf} {nx : Nat} {w : World} (h : HRel γ f nx w) {b : Nat} {k : Blk} (hb : f b = some k) {B x : Nat} (hg : γ b = some (B, x)) : B < w.heap.size := by
  obtain ⟨B', x', cs, ex, h1, h2, _⟩ := h.blk b k hb
  rw [hg] at h1
  cases h1
  exact (Array.getElem?_eq_some_iff.1 h2).1

theorem addr_add (B o j : Nat) : (⟨B, o, none⟩ : Addr).add j = ⟨B, o + j, none⟩ := by
  unfold Addr.add
  split
  · rename_i h; simp [h]
  · rfl

/- reading -/
theorem HRel.load {γ : Gm} {f : Hf} {nx : Nat} {w : World} (h : HRel γ f nx w) {b : Nat} {k : Blk} (hb : f b = some k) {B x : Nat} (hg : γ b = some (B, x)) (o n : Nat) (hn : o + n ≤ k.cells.length) :
    ∃ Vs, VsRel γ ((k.cells.drop o).take n) Vs ∧ Vs.length = n ∧ ∀ j v, Vs[j]? = some v → w.cell? ((⟨B, o, none⟩ : Addr).add j) = some v := by
  obtain ⟨B', x', cs, ex, h1, h2, h3, _⟩ := h.blk b k hb
  rw [hg] at h1
  cases h1
  have hl := h3.length
  refine ⟨(cs.drop o).take n, (h3.drop o).take n, by simp; omega, fun j v hv => ?_⟩
  rw [addr_add, cell_of_row w B (o + j) _ _ _ h2]
  rw [List.getElem?_take] at hv
  split at hv
  · rename_i hj
    rw [List.getElem?_drop] at hv
    rw [List.getElem?_toArray, List.getElem?_append_left (by omega)]
    exact hv
  · cases hv

/- writing -/
theorem HRel.store {γ : Gm} {f : Hf} {nx : Nat} {w : World} (h : HRel γ f nx w) {b : Nat} {k : Blk} (hb : f b = some k) (hown : k.own = true) {B x : Nat} (hg : γ b = some (B, x)) (o : Nat)
    {vs : List AV} {Vs : List Value} (hv : VsRel γ vs Vs) (h1 : vs.all AV.one = true) (hn : o + vs.length ≤ k.cells.length) (P : Program) :
    ∃ w', (storeCells ⟨B, o, none⟩ Vs).run P w = .ok () w' ∧ Stp γ f w γ (upd f b (some { k with view := .plain (k.cells.take o ++ vs ++ k.cells.drop (o + vs.length)) })) nx w' := by
  obtain ⟨B', x', cs, ex, g1, g2, g3, g4, g5⟩ := h.blk b k hb
  rw [hg] at g1
  cases g1
  have hl := g3.length
  have hvl := hv.length
  have hst := run_storeCells_at P B o k.elem Vs 0 _ w g2 (by simp; omega) (hv.ones h1)
  refine ⟨_, hst, ?_⟩
  have hnew : ((cs ++ ex).toArray.toList.take (o + 0) ++ Vs ++ (cs ++ ex).toArray.toList.drop (o + 0 + Vs.length)) = (cs.take o ++ Vs ++ cs.drop (o + Vs.length)) ++ ex := by
    simp only [Nat.add_zero]
    rw [List.take_append_of_le_length (by omega), List.drop_append_of_le_length (by omega)]
    simp
  rw [hnew]
  have hrow := setRow_heap w B _ ((cs.take o ++ Vs ++ cs.drop (o + Vs.length)) ++ ex).toArray _ _ g2
  have hoth : ∀ i, i ≠ B → (w.setRow B ((cs.take o ++ Vs ++ cs.drop (o + Vs.length)) ++ ex).toArray).heap[i]? = w.heap[i]? := fun i hi => setRow_other w B i _ hi
  have hfzB : γ.fz B = none := h.fzo b k B x hb hown hg
  refine ⟨Gm.le_refl γ, ⟨?_, ?_, h.fresh, ?_, ?_⟩, by simp, rfl, rfl, rfl, ?_, ?_, ?_, ?_, fun _ _ h => .inl h⟩
  · intro b' k' hb'
    by_cases e : b' = b
    · subst e
      rw [upd_same] at hb'
      cases hb'
      refine ⟨B, x, _, ex, hg, hrow, ?_, g4, g5⟩
      rw [hvl]
      exact ((g3.take o).append hv).append (g3.drop _)
    · rw [upd_other f _ e] at hb'
      obtain ⟨B2, x2, cs2, ex2, q1, q2, q3⟩ := h.blk b' k' hb'
      refine ⟨B2, x2, cs2, ex2, q1, ?_, q3⟩
      rw [hoth B2 (fun e2 => e (h.inj b' b k' k B x2 x hb' hb (by rw [← e2]; exact q1) hg))]
      exact q2
  · intro b1 b2 k1 k2 B1 x1 x2 q1 q2 q3 q4
    have hs : ∀ c kc, upd f b (some { k with view := .plain (k.cells.take o ++ vs ++ k.cells.drop (o + vs.length)) }) c = some kc → ∃ kc', f c = some kc' := by
      intro c kc hc
      by_cases e : c = b
      · subst e; exact ⟨k, hb⟩
      · rw [upd_other f _ e] at hc; exact ⟨kc, hc⟩
    obtain ⟨_, s1⟩ := hs _ _ q1
    obtain ⟨_, s2⟩ := hs _ _ q2
    exact h.inj _ _ _ _ _ _ _ s1 s2 q3 q4
  · intro B' x' hB'
    rw [hoth B' (fun e => by rw [e, hfzB] at hB'; cases hB')]
    exact h.fzr B' x' hB'
  · intro b' k' B' x' hb' ho hg'
    by_cases e : b' = b
    · subst e; exact h.fzo b' k B' x' hb hown hg'
    · rw [upd_other f _ e] at hb'; exact h.fzo b' k' B' x' hb' ho hg'
  · intro i hi hni
    exact hoth i (fun e => hni (e ▸ ⟨b, k, x, hb, hown, hg⟩))
  · intro i hi ⟨b', k', x', q1, q2, q3⟩
    by_cases e : b' = b
    · subst e
      exact ⟨b', k, x', hb, hown, q3⟩
    · rw [upd_other f _ e] at q1
      exact ⟨b', k', x', q1, q2, q3⟩
  · intro b' k' hb' ho
    by_cases e : b' = b
    · subst e
      rw [upd_same] at hb'
      cases hb'
      rw [hown] at ho
      cases ho
    · rw [upd_other f _ e] at hb'
      exact hb'
  · intro b' k' hb'
    by_cases e : b' = b
    · subst e; exact .inl ⟨k, hb⟩
    · rw [upd_other f _ e] at hb'
      exact .inl ⟨k', hb'⟩

/- a new block under the name i -/
theorem HRel.new {γ : Gm} {f : Hf} {nx : Nat} {w w1 : World} (h : HRel γ f nx w) (i nx' : Nat) (hi : γ i = none) (hi' : i < nx') (hn : nx ≤ nx') {vs : List AV} {Vs ex : List Value} (hv : VsRel γ vs Vs) (elem sz : Nat) (opn : Bool) (x : Nat)
    (hx : ex.length = x * sz) (ho : opn = false → x = 0) (hw : w1.heap = w.heap) (h1 : w1.os = w.os) (h2 : w1.tape = w.tape) (h3 : w1.output = w.output) :
    Stp γ f w (γ.put i (some (w.heap.size, x))) (upd f i (some ⟨.plain vs, elem, sz, opn, true⟩)) nx' (w1.alloc (.cells (Vs ++ ex).toArray elem)) := by
  have hfi : f i = none := by
    cases hf : f i with
    | none => rfl
    | some k =>
      obtain ⟨B, x, cs, ex, g1, _⟩ := h.blk i k hf
      rw [hi] at g1; cases g1
  have hle : γ.le (γ.put i (some (w.heap.size, x))) := by
    refine ⟨fun b p hb => ?_, fun _ _ h => h⟩
    rw [Gm.put_other γ _ (fun e => by rw [e, hi] at hb; cases hb)]; exact hb
  have hsz : (w1.alloc (.cells (Vs ++ ex).toArray elem)).heap.size = w.heap.size + 1 := by rw [World.size_alloc, hw]
  have hnew : (w1.alloc (.cells (Vs ++ ex).toArray elem)).heap[w.heap.size]? = some (.cells (Vs ++ ex).toArray elem) := by
    have := heap_alloc_new w1 (.cells (Vs ++ ex).toArray elem)
    rw [hw] at this; exact this
  have hold : ∀ j, j < w.heap.size → (w1.alloc (.cells (Vs ++ ex).toArray elem)).heap[j]? = w.heap[j]? := by
    intro j hj
    rw [heap_alloc_old w1 _ j (by rw [hw]; exact hj), hw]
  have hfzlt : ∀ B y, γ.fz B = some y → B < w.heap.size := fun B y hB => (Array.getElem?_eq_some_iff.1 (h.fzr B y hB)).1
  refine ⟨hle, ⟨?_, ?_, ?_, ?_, ?_⟩, by rw [hsz]; omega, h1, h2, h3, fun j hj _ => hold j hj, ?_, ?_, ?_, fun _ _ h => .inl h⟩
  · intro b k hb
    by_cases e : b = i
    · subst e
      rw [upd_same] at hb
      cases hb
      exact ⟨w.heap.size, x, Vs, ex, Gm.put_same _ _ _, hnew, hv.mono hle, hx, ho⟩
    · rw [upd_other f _ e] at hb
      obtain ⟨B2, x2, cs2, ex2, q1, q2, q3, q4⟩ := h.blk b k hb
      refine ⟨B2, x2, cs2, ex2, hle.nm _ _ q1, ?_, q3.mono hle, q4⟩
      rw [hold B2 (h.lt hb q1)]; exact q2
  · intro b b' k k' B y y' q1 q2 q3 q4
    by_cases e : b = i
    · by_cases e' : b' = i
      · rw [e, e']
      · exfalso
        subst e
        rw [Gm.put_same] at q3
        cases q3
        rw [upd_other f _ e'] at q2
        rw [Gm.put_other γ _ e'] at q4
        exact Nat.lt_irrefl _ (h.lt q2 q4)
    · by_cases e' : b' = i
      · exfalso
        subst e'
        rw [Gm.put_same] at q4
        cases q4
        rw [upd_other f _ e] at q1
        rw [Gm.put_other γ _ e] at q3
        exact Nat.lt_irrefl _ (h.lt q1 q3)
      · rw [upd_other f _ e] at q1
        rw [upd_other f _ e'] at q2
        rw [Gm.put_other γ _ e] at q3
        rw [Gm.put_other γ _ e'] at q4
        exact h.inj _ _ _ _ _ _ _ q1 q2 q3 q4
  · intro b hb
    rw [Gm.put_other γ _ (by omega)]
    exact h.fresh b (by omega)
  · intro B y hB
    rw [hold B (hfzlt B y hB)]
    exact h.fzr B y hB
  · intro b k B y hb ho hg
    by_cases e : b = i
    · subst e
      rw [Gm.put_same] at hg
      cases hg
      show γ.fz w.heap.size = none
      cases hz : γ.fz w.heap.size with
      | none => rfl
      | some y => exact absurd (hfzlt _ _ hz) (Nat.lt_irrefl _)
    · rw [upd_other f _ e] at hb
      rw [Gm.put_other γ _ e] at hg
      exact h.fzo b k B y hb ho hg
  · intro j hj ⟨b, k, y, q1, q2, q3⟩
    by_cases e : b = i
    · subst e
      rw [Gm.put_same] at q3
      cases q3
      exact absurd hj (Nat.lt_irrefl _)
    · rw [upd_other f _ e] at q1
      rw [Gm.put_other γ _ e] at q3
      exact ⟨b, k, y, q1, q2, q3⟩
  · intro b k hb ho
    by_cases e : b = i
    · subst e
      rw [upd_same] at hb
      cases hb
      cases ho
    · rw [upd_other f _ e] at hb
      exact hb
  · intro b k hb
    by_cases e : b = i
    · subst e; exact .inr hi
    · rw [upd_other f _ e] at hb
      exact .inl ⟨k, hb⟩

/- a block that is written anew at its place, and goes on under the name i -/
theorem HRel.rename {γ : Gm} {f : Hf} {nx : Nat} {w : World} (h : HRel γ f nx w) {b : Nat} {k : Blk} (hb : f b = some k) (hown : k.own = true) {B x : Nat} (hg : γ b = some (B, x)) (i nx' : Nat) (hi : γ i = none) (hi' : i < nx') (hn : nx ≤ nx')
    {vs : List AV} {Vs ex : List Value} (hv : VsRel γ vs Vs) (x' : Nat) (hx : ex.length = x' * k.sz) :
    Stp γ f w (γ.put i (some (B, x'))) (upd (upd f b none) i (some ⟨.plain vs, k.elem, k.sz, true, true⟩)) nx' (w.setRow B (Vs ++ ex).toArray) := by
  have hne : b ≠ i := by intro e; rw [e, hi] at hg; cases hg
  have hle : γ.le (γ.put i (some (B, x'))) := by
    refine ⟨fun c p hc => ?_, fun _ _ h => h⟩
    rw [Gm.put_other γ _ (fun e => by rw [e, hi] at hc; cases hc)]; exact hc
  have hfzB : γ.fz B = none := h.fzo b k B x hb hown hg
  obtain ⟨B', y, cs, ex0, g1, g2, g3, g4, g5⟩ := h.blk b k hb
  rw [hg] at g1
  cases g1
  have hrow := setRow_heap w B _ (Vs ++ ex).toArray _ _ g2
  have hoth : ∀ j, j ≠ B → (w.setRow B (Vs ++ ex).toArray).heap[j]? = w.heap[j]? := fun j hj => setRow_other w B j _ hj
  have hold : ∀ c kc, c ≠ i → upd (upd f b none) i (some ⟨.plain vs, k.elem, k.sz, true, true⟩) c = some kc → f c = some kc ∧ c ≠ b := by
    intro c kc hci hc
    rw [upd_other _ _ hci] at hc
    by_cases e : c = b
    · subst e; rw [upd_same] at hc; cases hc
    · rw [upd_other f _ e] at hc; exact ⟨hc, e⟩
  refine ⟨hle, ⟨?_, ?_, ?_, ?_, ?_⟩, by simp, rfl, rfl, rfl, ?_, ?_, ?_, ?_, fun _ _ h => .inl h⟩
  · intro c kc hc
    by_cases e : c = i
    · subst e
      rw [upd_same] at hc
      cases hc
      exact ⟨B, x', Vs, ex, Gm.put_same _ _ _, hrow, hv.mono hle, hx, by simp⟩
    · obtain ⟨hc', hcb⟩ := hold c kc e hc
      obtain ⟨B2, x2, cs2, ex2, q1, q2, q3, q4⟩ := h.blk c kc hc'
      refine ⟨B2, x2, cs2, ex2, hle.nm _ _ q1, ?_, q3.mono hle, q4⟩
      rw [hoth B2 (fun e2 => hcb (h.inj c b kc k B x2 x hc' hb (by rw [← e2]; exact q1) hg))]
      exact q2
  · intro c c' kc kc' B1 y y' q1 q2 q3 q4
    by_cases e : c = i
    · by_cases e' : c' = i
      · rw [e, e']
      · exfalso
        subst e
        rw [Gm.put_same] at q3
        cases q3
        obtain ⟨s1, s2⟩ := hold _ _ e' q2
        rw [Gm.put_other γ _ e'] at q4
        exact s2 (h.inj _ _ _ _ _ _ _ s1 hb q4 hg)
    · by_cases e' : c' = i
      · exfalso
        subst e'
        rw [Gm.put_same] at q4
        cases q4
        obtain ⟨s1, s2⟩ := hold _ _ e q1
        rw [Gm.put_other γ _ e] at q3
        exact s2 (h.inj _ _ _ _ _ _ _ s1 hb q3 hg)
      · obtain ⟨s1, _⟩ := hold _ _ e q1
        obtain ⟨s2, _⟩ := hold _ _ e' q2
        rw [Gm.put_other γ _ e] at q3
        rw [Gm.put_other γ _ e'] at q4
        exact h.inj _ _ _ _ _ _ _ s1 s2 q3 q4
  · intro c hc
    rw [Gm.put_other γ _ (by omega)]
    exact h.fresh c (by omega)
  · intro B' y hB'
    rw [hoth B' (fun e => by rw [e] at hB'; exact absurd (hB'.symm.trans hfzB) (by simp))]
    exact h.fzr B' y hB'
  · intro c kc B' y hc ho hg'
    by_cases e : c = i
    · subst e
      rw [Gm.put_same] at hg'
      cases hg'
      exact hfzB
    · rw [Gm.put_other γ _ e] at hg'
      exact h.fzo c kc B' y (hold _ _ e hc).1 ho hg'
  · intro j hj hnj
    exact hoth j (fun e => hnj (e ▸ ⟨b, k, x, hb, hown, hg⟩))
  · intro j hj ⟨c, kc, y, q1, q2, q3⟩
    by_cases e : c = i
    · subst e
      rw [Gm.put_same] at q3
      cases q3
      exact ⟨b, k, x, hb, hown, hg⟩
    · obtain ⟨s1, _⟩ := hold _ _ e q1
      rw [Gm.put_other γ _ e] at q3
      exact ⟨c, kc, y, s1, q2, q3⟩
  · intro c kc hc ho
    by_cases e : c = i
    · subst e
      rw [upd_same] at hc
      cases hc
      cases ho
    · exact (hold _ _ e hc).1
  · intro c kc hc
    by_cases e : c = i
    · subst e; exact .inr hi
    · exact .inl ⟨kc, (hold _ _ e hc).1⟩

/- two heaps side by side -/
def orH (p f : Hf) : Hf := fun b => match p b with | some k => some k | none => f b
theorem orH_some {p f : Hf} {b : Nat} {k : Blk} (h : p b = some k) : orH p f b = some k := by simp [orH, h]
theorem orH_none {p f : Hf} {b : Nat} (h : p b = none) : orH p f b = f b := by simp [orH, h]

/- what was not known before stays as it was -/
theorem HRel.frame {γ γ' : Gm} {f f' p : Hf} {nx nx' : Nat} {w w' : World} (hu : HRel γ (orH p f) nx w) (hp : ∀ b k, p b = some k → k.own = true ∧ f b = none) (h : Stp γ f w γ' f' nx' w') :
    Stp γ (orH p f) w γ' (orH p f') nx' w' := by
  have hf : ∀ b k, f b = some k → orH p f b = some k := by
    intro b k hb
    cases hpb : p b with
    | none => rw [orH_none hpb]; exact hb
    | some k' => have := (hp b k' hpb).2; rw [hb] at this; cases this
  have hfb : ∀ b k, p b = some k → f' b = none := by
    intro b k hb
    cases hfb : f' b with
    | none => rfl
    | some k' =>
      exfalso
      rcases h.dom b k' hfb with ⟨k'', hk⟩ | hn
      · rw [(hp b k hb).2] at hk; cases hk
      · obtain ⟨B, x, cs, ex, g1, _⟩ := hu.blk b k (orH_some hb)
        rw [hn] at g1; cases g1
  have hpk : ∀ b k B x, p b = some k → γ b = some (B, x) → B < w.heap.size ∧ ¬ OwnImg γ f B := by
    intro b k B x hb hg
    refine ⟨hu.lt (b := b) (k := k) (orH_some hb) hg, ?_⟩
    rintro ⟨b2, k2, x2, q1, q2, q3⟩
    have := hu.inj b b2 k k2 B x x2 (orH_some hb) (hf _ _ q1) hg q3
    subst this
    rw [(hp b k hb).2] at q1
    cases q1
  have hOwn : ∀ k, OwnImg γ f k → OwnImg γ (orH p f) k := by
    rintro k ⟨b, kk, x, q1, q2, q3⟩
    exact ⟨b, kk, x, hf _ _ q1, q2, q3⟩
  refine ⟨h.le, ⟨?_, ?_, h.rel.fresh, h.rel.fzr, ?_⟩, h.size, h.os, h.tape, h.output, fun k hk hn => h.frame k hk (fun ho => hn (hOwn k ho)), ?_, ?_, ?_, fun B x hB => (h.fzn B x hB).imp id (Or.imp id (hOwn B))⟩
  · intro b k hb
    cases hpb : p b with
    | none =>
      rw [orH_none hpb] at hb
      exact h.rel.blk b k hb
    | some k' =>
      rw [orH_some hpb] at hb
      cases hb
      obtain ⟨B, x, cs, ex, g1, g2, g3, g4⟩ := hu.blk b k (orH_some hpb)
      obtain ⟨r1, r2⟩ := hpk b k B x hpb g1
      exact ⟨B, x, cs, ex, h.le.nm _ _ g1, by rw [h.frame B r1 r2]; exact g2, g3.mono h.le, g4⟩
  · intro b b' k k' B x x' q1 q2 q3 q4
    have cross : ∀ b b' k k' x x', p b = some k → p b' = none → f' b' = some k' → γ' b = some (B, x) → γ' b' = some (B, x') → False := by
      intro b b' k k' x x' hb hb' hf' g g'
      obtain ⟨B0, x0, cs, ex, g1, _⟩ := hu.blk b k (orH_some hb)
      have := h.le.nm _ _ g1
      rw [g] at this
      cases this
      obtain ⟨r1, r2⟩ := hpk b k B x hb g1
      cases ho : k'.own with
      | true => exact r2 (h.own B r1 ⟨b', k', x', hf', ho, g'⟩)
      | false =>
        have hfb' := h.ro b' k' hf' ho
        obtain ⟨B1, x1, cs1, ex1, g2, _⟩ := hu.blk b' k' (hf _ _ hfb')
        have := h.le.nm _ _ g2
        rw [g'] at this
        cases this
        have := hu.inj b b' k k' B x x' (orH_some hb) (hf _ _ hfb') g1 g2
        subst this
        rw [hb] at hb'
        cases hb'
    cases hpb : p b with
    | none =>
      rw [orH_none hpb] at q1
      cases hpb' : p b' with
      | none =>
        rw [orH_none hpb'] at q2
        exact h.rel.inj b b' k k' B x x' q1 q2 q3 q4
      | some k2 => exact (cross b' b k2 k x' x hpb' hpb q1 q4 q3).elim
    | some k1 =>
      cases hpb' : p b' with
      | none =>
        rw [orH_none hpb'] at q2
        exact (cross b b' k1 k' x x' hpb hpb' q2 q3 q4).elim
      | some k2 =>
        obtain ⟨B0, x0, cs, ex, g1, _⟩ := hu.blk b k1 (orH_some hpb)
        obtain ⟨B1, x1, cs1, ex1, g2, _⟩ := hu.blk b' k2 (orH_some hpb')
        have e1 := h.le.nm _ _ g1
        rw [q3] at e1
        cases e1
        have e2 := h.le.nm _ _ g2
        rw [q4] at e2
        cases e2
        exact hu.inj b b' k1 k2 B x x' (orH_some hpb) (orH_some hpb') g1 g2
  · intro b k B x hb ho hg
    cases hpb : p b with
    | none =>
      rw [orH_none hpb] at hb
      exact h.rel.fzo b k B x hb ho hg
    | some k1 =>
      rw [orH_some hpb] at hb
      cases hb
      obtain ⟨B0, x0, cs, ex, g1, _⟩ := hu.blk b k (orH_some hpb)
      have e1 := h.le.nm _ _ g1
      rw [hg] at e1
      cases e1
      obtain ⟨r1, r2⟩ := hpk b k B x hpb g1
      cases hz : γ'.fz B with
      | none => rfl
      | some y =>
        rcases h.fzn B y hz with h1 | h1 | h1
        · rw [hu.fzo b k B x (orH_some hpb) ho g1] at h1; cases h1
        · omega
        · exact (r2 h1).elim
  · intro k hk ⟨b, kk, x, q1, q2, q3⟩
    cases hpb : p b with
    | none =>
      rw [orH_none hpb] at q1
      exact hOwn k (h.own k hk ⟨b, kk, x, q1, q2, q3⟩)
    | some k1 =>
      rw [orH_some hpb] at q1
      cases q1
      obtain ⟨B0, x0, cs, ex, g1, _⟩ := hu.blk b kk (orH_some hpb)
      have e1 := h.le.nm _ _ g1
      rw [q3] at e1
      cases e1
      exact ⟨b, kk, x, orH_some hpb, q2, g1⟩
  · intro b k hb ho
    cases hpb : p b with
    | none =>
      rw [orH_none hpb] at hb ⊢
      exact h.ro b k hb ho
    | some k1 =>
      rw [orH_some hpb] at hb ⊢
      exact hb
  · intro b k hb
    cases hpb : p b with
    | none =>
      rw [orH_none hpb] at hb ⊢
      exact h.dom b k hb
    | some k1 =>
      exact .inl ⟨k1, orH_some hpb⟩

end Go.QfSy
