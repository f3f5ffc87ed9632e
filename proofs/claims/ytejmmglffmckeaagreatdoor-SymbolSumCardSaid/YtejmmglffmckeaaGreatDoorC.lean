/- Lists of constituents: plain functions, and what it is that a slice in memory holds such a list. -/
import Derived.Test.YtejmmglffmckeaaGreatDoorW2
import Derived.Below
namespace Go.Proofs.YtejmmglffmckeaaGreatDoor.Q
open Go.RowKit

structure Con where
  exp : Int
  dim : Int
  sign : Int
  odd : Bool
  oddity : Int
deriving DecidableEq

/-- Each number fits an int. -/
def I64 (n : Int) : Prop := -9223372036854775808 ≤ n ∧ n ≤ 9223372036854775807
def Con.fits (c : Con) : Prop := I64 c.exp ∧ I64 c.dim ∧ I64 c.sign ∧ I64 c.oddity
def Con.agg (c : Con) : Value := .agg #[.int .i64 c.exp, .int .i64 c.dim, .int .i64 c.sign, .bool c.odd, .int .i64 c.oddity]

/-- Five cells from o of block b hold c. -/
structure ConAt (w : World) (b o : Nat) (c : Con) : Prop where
  c0 : w.cell? ⟨b, o, none⟩ = some (.int .i64 c.exp)
  c1 : w.cell? ⟨b, o + 1, none⟩ = some (.int .i64 c.dim)
  c2 : w.cell? ⟨b, o + 2, none⟩ = some (.int .i64 c.sign)
  c3 : w.cell? ⟨b, o + 3, none⟩ = some (.bool c.odd)
  c4 : w.cell? ⟨b, o + 4, none⟩ = some (.int .i64 c.oddity)

theorem ConAt.below {w w' : World} {b o n : Nat} {c : Con} (h : ConAt w b o c) (hb : Below n w w') (hl : b < n) : ConAt w' b o c :=
  ⟨(hb.cell (p := ⟨b, _, none⟩) hl).trans h.c0, (hb.cell (p := ⟨b, _, none⟩) hl).trans h.c1, (hb.cell (p := ⟨b, _, none⟩) hl).trans h.c2, (hb.cell (p := ⟨b, _, none⟩) hl).trans h.c3, (hb.cell (p := ⟨b, _, none⟩) hl).trans h.c4⟩

/-- The slice value v holds the list l. -/
def Lst (w : World) (v : Value) (l : List Con) : Prop :=
  (l = [] ∧ ∃ a c, v = .slice a 0 c) ∨
  (l ≠ [] ∧ ∃ b o cap, v = .slice (some ⟨b, o, none⟩) l.length cap ∧ b < w.heap.size ∧ l.length ≤ cap ∧ (∀ i c, l[i]? = some c → ConAt w b (o + i * 5) c))

/-- A list as the rows allow it. -/
def Ok (l : List Con) : Prop := l.length ≤ 1000 ∧ ∀ c ∈ l, c.fits

theorem Lst.below {w w' : World} {v : Value} {l : List Con} {n : Nat} (h : Lst w v l) (hb : Below n w w') (hn : w.heap.size ≤ n) : Lst w' v l := by
  rcases h with ⟨h1, h2⟩ | ⟨h1, b, o, cap, h2, h3, hcp, h4⟩
  · exact .inl ⟨h1, h2⟩
  · refine .inr ⟨h1, b, o, cap, h2, ?_, hcp, fun i c hi => (h4 i c hi).below hb (by omega)⟩
    have := hb.size; omega

/-- symbol.Valid's loop. -/
def vc (c : Con) (s last : Int) : Bool := decide (last < c.exp ∧ c.exp ≤ 60 ∧ 1 ≤ c.dim ∧ c.dim ≤ 8 - s ∧ (c.sign = 1 ∨ c.sign = -1) ∧ c.odd = false ∧ c.oddity = 0)
def vL : List Con → Int → Int → Bool
  | [], _, _ => true
  | c :: l, s, last => vc c s last && vL l (s + c.dim) c.exp
/-- Which p and l are a symbol. -/
noncomputable def vS (p : Int) (l : List Con) : Bool := decide (2 < p ∧ p ≤ 9973) && isP p && !l.isEmpty && vL l 0 (-1)

theorem vL_drop {l : List Con} {k : Nat} {c : Con} (h : l[k]? = some c) (s last : Int) : vL (l.drop k) s last = (vc c s last && vL (l.drop (k + 1)) (s + c.dim) c.exp) := by
  rw [List.getElem?_eq_some_iff] at h
  obtain ⟨hk, rfl⟩ := h
  rw [List.drop_eq_getElem_cons hk]
  rfl
theorem vL_end {l : List Con} {k : Nat} (h : l.length ≤ k) (s last : Int) : vL (l.drop k) s last = true := by
  rw [List.drop_eq_nil_of_le h]; rfl
theorem Offs.below {w w' : World} {n : Nat} (h : Offs w) (hb : Below n w w') (hn : 0 < n) : Offs w' := (hb.block 0 hn).trans h
theorem Offs.pos {w : World} (h : Offs w) : 0 < w.heap.size := by
  rcases Nat.eq_zero_or_pos w.heap.size with h0 | h0
  · unfold Offs at h
    rw [Array.getElem?_eq_none (by omega)] at h
    cases h
  · exact h0
theorem Offs.alloc {w : World} (h : Offs w) (o : Obj) : Offs (w.alloc o) := h.below ((Below.refl _ _).alloc (Nat.le_refl _) o) h.pos
theorem addr_add (b o k : Nat) : (⟨b, o, none⟩ : Addr).add k = ⟨b, o + k, none⟩ := by
  unfold Addr.add
  split
  · rename_i h; subst h; rfl
  · rfl
theorem el22 : Tryz.prog.underlying 22 = some (.slice (Tryz.prog.elem 22)) := by kernel_rfl
theorem sz74 (w : World) : (sizeOf (Tryz.prog.elem 22)).run Tryz.prog w = .ok 5 w := by kernel_rfl
theorem run_ix {i n : Nat} {I : Int} (hi : I = (i : Int)) (h : i < n) (b o cap : Nat) (w : World) : (Instr.indexAt 22 (.slice (some ⟨b, o, none⟩) n cap) (.int .i64 I)).run Tryz.prog w = .ok (.pointer (some ⟨b, o + i * 5, none⟩)) w := by
  subst hi
  rw [run_indexAt_slice (h := el22), if_pos (by omega), sz74]
  simp [addr_add]
end Go.Proofs.YtejmmglffmckeaaGreatDoor.Q
