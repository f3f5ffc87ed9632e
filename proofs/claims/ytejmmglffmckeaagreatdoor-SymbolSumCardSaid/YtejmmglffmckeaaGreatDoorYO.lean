/- Arguments of the laws opened to values that are read, over any program; reading them again behind a call. -/
import Derived.Test.YtejmmglffmckeaaGreatDoorY0
import Derived.Lib.SmallJoins
import Derived.WideKeyArgs
import Derived.Deep.Slices
import Derived.OpenShut
import Derived.ChangeSame
import Derived.Lib.LaidTab
import Derived.ProofKit
import Derived.Deep.DeepHandedRow
namespace Go.Proofs.YtejmmglffmckeaaGreatDoor.S
open Go.ChangeShapes Go.WideShapes Go.ChangeAt Go.RowKit Go.Joins Go.Deep
open Go.QfSy (Con RV RRel RsRel FzAt roC Fz Tb TabW PureC)

/-- Each number fits an int. -/
def I64 (n : Int) : Prop := -9223372036854775808 ≤ n ∧ n ≤ 9223372036854775807
def U8 (n : Int) : Prop := 0 ≤ n ∧ n ≤ 255
def fits (c : Con) : Prop := I64 c.exp ∧ I64 c.dim ∧ I64 c.sign ∧ I64 c.oddity
def vals (c : Con) : List Value := [.int .i64 c.exp, .int .i64 c.dim, .int .i64 c.sign, .bool c.odd, .int .i64 c.oddity]
/-- A part of a symbol that is made. -/
structure Prt where
  x0 : Int
  x1 : Int
  x2 : Int
  x3 : Int
  x4 : Int
deriving Inhabited
def Prt.rvs (p : Prt) : List RV := [.int .u8 p.x0, .int .u8 p.x1, .int .u8 p.x2, .int .u8 p.x3, .int .u8 p.x4]
def Prt.ok (p : Prt) : Prop := U8 p.x0 ∧ U8 p.x1 ∧ U8 p.x2 ∧ U8 p.x3 ∧ U8 p.x4
def Prt.zero : Prt := ⟨0, 0, 0, 0, 0⟩
def Prt.vals (p : Prt) : List Value := [.int .u8 p.x0, .int .u8 p.x1, .int .u8 p.x2, .int .u8 p.x3, .int .u8 p.x4]
def roP (L : List Prt) : RV := .sl L.length 5 (fun i => (L.getD i Prt.zero).rvs)
def roU (L : List Int) : RV := .sl L.length 1 (fun i => [.int .u8 (L.getD i 0)])
/-- All that a world holds. -/
def Wz (w : World) : Fz := fun B => w.heap[B]?

theorem wf_i64 {n : Int} (h : (Lit.int .i64 n).wf = true) : I64 n := by
  simp only [Lit.wf, Bool.and_eq_true, decide_eq_true_eq] at h
  exact h
theorem wf_u8 {n : Int} (h : (Lit.int .u8 n).wf = true) : 0 ≤ n ∧ n ≤ 255 := by
  simp only [Lit.wf, Bool.and_eq_true, decide_eq_true_eq] at h
  exact h
theorem wf_i8 {n : Int} (h : (Lit.int .i8 n).wf = true) : -128 ≤ n ∧ n ≤ 127 := by
  simp only [Lit.wf, Bool.and_eq_true, decide_eq_true_eq] at h
  exact h

/-- What holds at each index below n holds along a list. -/
theorem list_of {α : Type} {R : Nat → α → Prop} : ∀ {n : Nat}, (∀ i, i < n → ∃ c, R i c) → ∃ l : List α, l.length = n ∧ ∀ i c, l[i]? = some c → R i c
  | 0, _ => ⟨[], rfl, fun i c h => by simp at h⟩
  | n + 1, h => by
    obtain ⟨l, hl, hr⟩ := list_of (n := n) (R := R) (fun i hi => h i (by omega))
    obtain ⟨c, hc⟩ := h n (by omega)
    refine ⟨l ++ [c], by simp [hl], fun i x hx => ?_⟩
    by_cases hi : i < n
    · rw [List.getElem?_append_left (by omega)] at hx
      exact hr i x hx
    · rw [List.getElem?_append_right (by omega)] at hx
      have : i = n := by
        have := (List.getElem?_eq_some_iff.1 hx).1
        simp at this
        omega
      subst this
      simp [hl] at hx
      subst hx
      exact hc

theorem five_of {α : Type} {l : List α} (h : l.length = 5) : ∃ a b c d e, l = [a, b, c, d, e] := by
  match l, h with
  | [a, b, c, d, e], _ => exact ⟨a, b, c, d, e, rfl⟩

section
variable {H : Type} {enc : TypeId × Value → H} {P : Program} {w : World} {base : Nat} {spare : Nat → Bool} {held : Bool}

theorem one_int {n : Nat} {t : TypeId} {k : IntKind} {v : Value} {o : Option (DataW H × List MemPlace)} (ht : P.underlying t = some (.int k)) (h : DataW.trod enc P w base spare held n t [v] = o) (ho : o ≠ none) : ∃ z, v = .int k z ∧ (Lit.int k z).wf = true := by
  cases o with
  | none => exact absurd rfl ho
  | some x =>
    obtain ⟨z, hc, _, hw⟩ := DataW.trod_int ht h
    simp at hc
    exact ⟨z, hc, hw⟩
theorem one_bool {n : Nat} {t : TypeId} {v : Value} {o : Option (DataW H × List MemPlace)} (ht : P.underlying t = some .bool) (h : DataW.trod enc P w base spare held n t [v] = o) (ho : o ≠ none) : ∃ z, v = .bool z := by
  cases o with
  | none => exact absurd rfl ho
  | some x =>
    obtain ⟨z, hc, _⟩ := DataW.trod_bool ht h
    simp at hc
    exact ⟨z, hc⟩
theorem at_some {α : Type} {l : List α} {n i : Nat} (h : l.length = n) (hi : i < n) : l[i]? ≠ none := by
  rw [List.getElem?_eq_getElem (by omega)]
  exact Option.some_ne_none _

/-- Which fields a constituent has. -/
structure ConTy (P : Program) (t ti tb : TypeId) (fs : Array Field) : Prop where
  und : P.underlying t = some (.struct fs)
  cells : P.cellsOf t = 5
  one : oneCellFields P fs = true
  size : fs.size = 5
  f0 : fs[0]?.map (·.type) = some ti
  f1 : fs[1]?.map (·.type) = some ti
  f2 : fs[2]?.map (·.type) = some ti
  f3 : fs[3]?.map (·.type) = some tb
  f4 : fs[4]?.map (·.type) = some ti
  int : P.underlying ti = some (.int .i64)
  bool : P.underlying tb = some .bool

theorem fld {fs : Array Field} {i : Nat} {t : TypeId} (h : fs[i]?.map (·.type) = some t) : ∃ f, fs[i]? = some f ∧ f.type = t := by
  cases hf : fs[i]? with
  | none => rw [hf] at h; cases h
  | some f => rw [hf] at h; exact ⟨f, rfl, by simpa using h⟩

theorem open_con {t ti tb : TypeId} {fs : Array Field} (hT : ConTy P t ti tb fs) {n : Nat} {cs : List Value} {x : DataW H × List MemPlace} (h : DataW.trod enc P w base spare held n t cs = some x) : ∃ c : Con, cs = vals c ∧ fits c := by
  obtain ⟨ys, m, _, hy, hlen, hyl, hf⟩ := DataW.trod_struct hT.und h
  rw [hT.cells] at hlen
  obtain ⟨c0, c1, c2, c3, c4, rfl⟩ := five_of hlen
  have key : ∀ {i : Nat} {u : TypeId}, fs[i]?.map (·.type) = some u → DataW.trod enc P w base spare held m u (([c0, c1, c2, c3, c4].drop i).take 1) = ys[i]? := by
    intro i u hu
    obtain ⟨f, h1, rfl⟩ := fld hu
    obtain ⟨o, k⟩ := hone_of hT.one i f h1
    have := hf i f h1
    rw [o, k] at this
    exact this
  have hys : ys.length = 5 := hyl.trans hT.size
  obtain ⟨z0, rfl, w0⟩ := one_int hT.int (key hT.f0) (at_some hys (by omega))
  obtain ⟨z1, rfl, w1⟩ := one_int hT.int (key hT.f1) (at_some hys (by omega))
  obtain ⟨z2, rfl, w2⟩ := one_int hT.int (key hT.f2) (at_some hys (by omega))
  obtain ⟨z3, rfl⟩ := one_bool hT.bool (key hT.f3) (at_some hys (by omega))
  obtain ⟨z4, rfl, w4⟩ := one_int hT.int (key hT.f4) (at_some hys (by omega))
  exact ⟨⟨z0, z1, z2, z3, z4⟩, rfl, wf_i64 w0, wf_i64 w1, wf_i64 w2, wf_i64 w4⟩

theorem spot_none {b : Addr} {v : Value} (h : w.cell? b = some v) : b = ⟨b.block, b.off, none⟩ := by
  cases b with
  | mk b o s =>
    cases s with
    | none => rfl
    | some s =>
      unfold World.cell? at h
      split at h <;> simp at h

theorem add_form (a : Addr) (k : Nat) : (a.add k).block = a.block ∧ (a.add k).off = a.off + k := by
  unfold Addr.add
  split
  · rename_i h; subst h; exact ⟨rfl, rfl⟩
  · exact ⟨rfl, rfl⟩

theorem cell_fz {b o : Nat} {v : Value} (h : w.cell? ⟨b, o, none⟩ = some v) : FzAt (Wz w) b o v := by
  unfold World.cell? at h
  split at h
  · rename_i c el fr hc
    simp at h
    exact ⟨c, el, fr, hc, h⟩
  · cases h

/-- A row of five cells, read at a slice's place i. -/
theorem five_at {a : Addr} {i : Nat} {cs : List Value} (h : w.cells? base (a.add (i * 5)) 5 = some cs) : cs.length = 5 ∧ a.block < w.heap.size ∧ ∀ j u, cs[j]? = some u → w.cell? ⟨a.block, a.off + i * 5 + j, none⟩ = some u := by
  obtain ⟨_, hl, hc⟩ := World.cells?_some h
  have hlt := World.cells?_block h (by omega)
  refine ⟨hl, by rw [(add_form a (i * 5)).1] at hlt; exact hlt, fun j u hu => ?_⟩
  have hj : j < 5 := by have := (List.getElem?_eq_some_iff.1 hu).1; omega
  have h1 := (hc j hj).trans hu
  have h2 := spot_none h1
  obtain ⟨e1, e2⟩ := add_form (a.add (i * 5)) j
  obtain ⟨e3, e4⟩ := add_form a (i * 5)
  rw [h2, e1, e2, e3, e4] at h1
  exact h1

theorem con_rel {F : Fz} (c : Con) : RsRel F c.rvs (vals c) := .cons (.int _ _) (.cons (.int _ _) (.cons (.int _ _) (.cons (.bool _) (.cons (.int _ _) .nil))))
theorem prt_rel {F : Fz} (p : Prt) : RsRel F p.rvs p.vals := .cons (.int _ _) (.cons (.int _ _) (.cons (.int _ _) (.cons (.int _ _) (.cons (.int _ _) .nil))))
/-- A slice of rows of five cells. -/
theorem open_rows {α : Type} [Inhabited α] {t u : TypeId} (hcell : P.cellsOf u = 5) (ht : P.underlying t = some (.slice u)) (rv : α → List RV) (vl : α → List Value) (ok : α → Prop) (z : α) (hrel : ∀ (F : Fz) x, RsRel F (rv x) (vl x)) (hlen : ∀ x, (vl x).length = 5)
    (hone : ∀ {n : Nat} {cs : List Value} {x : DataW H × List MemPlace}, DataW.trod enc P w base spare held n u cs = some x → ∃ c : α, cs = vl c ∧ ok c)
    {n : Nat} {v : Value} {x : DataW H × List MemPlace} (h : DataW.trod enc P w base spare held n t [v] = some x) : ∃ L : List α, L.length ≤ maxLen ∧ RRel (Wz w) (.sl L.length 5 (fun i => rv (L.getD i z))) v ∧ ∀ c ∈ L, ok c := by
  rcases open_slice ht h with ⟨h0, _⟩ | ⟨a, len, cap, m, n', D, Pl, hcs, hb, hl, hm, hmm, hx, hi⟩
  · simp at h0
    subst h0
    exact ⟨[], Nat.zero_le _, .sl0 _ _ _ _ rfl, by simp⟩
  · simp at hcs
    rw [hcell] at hi
    have hlm : len ≤ m := by rw [hmm]; split <;> omega
    have hall : ∀ i, i < len → ∃ c : α, ok c ∧ ∀ j u, (vl c)[j]? = some u → w.cell? ⟨a.block, a.off + i * 5 + j, none⟩ = some u := by
      intro i him
      obtain ⟨cs', hc, ht⟩ := hi i (by omega)
      obtain ⟨c, rfl, hfit⟩ := hone ht
      obtain ⟨_, hlt, hat⟩ := five_at hc
      exact ⟨c, hfit, hat⟩
    obtain ⟨L, hll, hr⟩ := list_of hall
    refine ⟨L, by rw [hll]; exact Nat.le_trans hl hm, ?_, fun c hc => ?_⟩
    · subst hcs
      by_cases h0 : len = 0
      · subst h0
        exact .sl0 _ _ _ _ hll
      · have hsp : a = ⟨a.block, a.off, none⟩ := by
          obtain ⟨cs', hc, _⟩ := hi 0 (by omega)
          obtain ⟨_, hl5, hc5⟩ := World.cells?_some hc
          have h1 := hc5 0 (by omega)
          rw [List.getElem?_eq_getElem (by omega)] at h1
          have := spot_none h1
          simpa [Addr.add] using this
        rw [hsp, ← hll]
        refine .sl (fun i => vl (L.getD i z)) (by rw [hll]; exact hl) (fun i _ => hlen _) (fun i j u hi' hu => ?_) (fun i _ => hrel _ _)
        have he : L[i]? = some (L.getD i z) := by simp [hi']
        exact cell_fz ((hr i _ he).2 j u hu)
    · obtain ⟨i, hi', he⟩ := List.getElem_of_mem hc
      exact (hr i c (by rw [List.getElem?_eq_getElem hi', he])).1
theorem open_lst {t u ti tb : TypeId} {fs : Array Field} (hT : ConTy P u ti tb fs) (ht : P.underlying t = some (.slice u)) {n : Nat} {v : Value} {x : DataW H × List MemPlace} (h : DataW.trod enc P w base spare held n t [v] = some x) : ∃ L : List Con, L.length ≤ maxLen ∧ RRel (Wz w) (roC L) v ∧ ∀ c ∈ L, fits c :=
  open_rows hT.cells ht Con.rvs vals fits Con.zero (fun _ c => con_rel c) (fun _ => rfl) (fun h => open_con hT h) h

/-- An array of five bytes. -/
structure PartTy (P : Program) (t tu : TypeId) : Prop where
  und : P.underlying t = some (.array 5 tu)
  cells : P.cellsOf t = 5
  u8 : P.underlying tu = some (.int .u8)
  one : P.cellsOf tu = 1

theorem open_part {t tu : TypeId} (hT : PartTy P t tu) {n : Nat} {cs : List Value} {x : DataW H × List MemPlace} (h : DataW.trod enc P w base spare held n t cs = some x) :
    ∃ p : Prt, cs = p.vals ∧ p.ok := by
  obtain ⟨ys, m, _, hy, hlen, hyl, hf⟩ := DataW.trod_array hT.und h
  rw [hT.cells] at hlen
  obtain ⟨c0, c1, c2, c3, c4, rfl⟩ := five_of hlen
  rw [hT.one] at hf
  have f0 := hf 0 (by omega)
  have f1 := hf 1 (by omega)
  have f2 := hf 2 (by omega)
  have f3 := hf 3 (by omega)
  have f4 := hf 4 (by omega)
  obtain ⟨z0, rfl, w0⟩ := one_int hT.u8 f0 (at_some hyl (by omega))
  obtain ⟨z1, rfl, w1⟩ := one_int hT.u8 f1 (at_some hyl (by omega))
  obtain ⟨z2, rfl, w2⟩ := one_int hT.u8 f2 (at_some hyl (by omega))
  obtain ⟨z3, rfl, w3⟩ := one_int hT.u8 f3 (at_some hyl (by omega))
  obtain ⟨z4, rfl, w4⟩ := one_int hT.u8 f4 (at_some hyl (by omega))
  exact ⟨⟨z0, z1, z2, z3, z4⟩, rfl, wf_u8 w0, wf_u8 w1, wf_u8 w2, wf_u8 w3, wf_u8 w4⟩

theorem open_prts {t u tu : TypeId} (hT : PartTy P u tu) (ht : P.underlying t = some (.slice u)) {n : Nat} {v : Value} {x : DataW H × List MemPlace} (h : DataW.trod enc P w base spare held n t [v] = some x) : ∃ L : List Prt, L.length ≤ maxLen ∧ RRel (Wz w) (roP L) v ∧ ∀ c ∈ L, c.ok :=
  open_rows hT.cells ht Prt.rvs Prt.vals Prt.ok Prt.zero (fun _ c => prt_rel c) (fun _ => rfl) (fun h => open_part hT h) h

/-- An array of four bytes. -/
structure FourTy (P : Program) (t tu : TypeId) : Prop where
  und : P.underlying t = some (.array 4 tu)
  cells : P.cellsOf t = 4
  u8 : P.underlying tu = some (.int .u8)
  one : P.cellsOf tu = 1
theorem four_of {α : Type} {l : List α} (h : l.length = 4) : ∃ a b c d, l = [a, b, c, d] := by
  match l, h with
  | [a, b, c, d], _ => exact ⟨a, b, c, d, rfl⟩
theorem open_four {t tu : TypeId} (hT : FourTy P t tu) {n : Nat} {cs : List Value} {x : DataW H × List MemPlace} (h : DataW.trod enc P w base spare held n t cs = some x) :
    ∃ x0 x1 x2 x3 : Int, cs = [.int .u8 x0, .int .u8 x1, .int .u8 x2, .int .u8 x3] ∧ U8 x0 ∧ U8 x1 ∧ U8 x2 ∧ U8 x3 := by
  obtain ⟨ys, m, _, hy, hlen, hyl, hf⟩ := DataW.trod_array hT.und h
  rw [hT.cells] at hlen
  obtain ⟨c0, c1, c2, c3, rfl⟩ := four_of hlen
  rw [hT.one] at hf
  obtain ⟨z0, rfl, w0⟩ := one_int hT.u8 (hf 0 (by omega)) (at_some hyl (by omega))
  obtain ⟨z1, rfl, w1⟩ := one_int hT.u8 (hf 1 (by omega)) (at_some hyl (by omega))
  obtain ⟨z2, rfl, w2⟩ := one_int hT.u8 (hf 2 (by omega)) (at_some hyl (by omega))
  obtain ⟨z3, rfl, w3⟩ := one_int hT.u8 (hf 3 (by omega)) (at_some hyl (by omega))
  exact ⟨z0, z1, z2, z3, rfl, wf_u8 w0, wf_u8 w1, wf_u8 w2, wf_u8 w3⟩

/-- The arguments read behind the call as they read before. -/
theorem trodAll_stays (hl : laidOutB P = true) {W W' : World} (hb : Below W.heap.size W W') : ∀ {ts : List TypeId} {vs : List Value} {ds : List (DataW H)} {ps : List MemPlace}, (∀ t ∈ ts, P.readableRec t = true ∧ t < P.types.size) →
    DataW.TrodAll enc P W 0 (fun _ => true) true ts vs ds ps → (∀ p ∈ ps, p.block < W.heap.size) → ∀ sp : Nat → Bool, (∀ p ∈ ps, sp p.block = true) → DataW.TrodAll enc P W' 0 sp true ts vs ds ps
  | [], vs, ds, ps, _, h, _, sp, _ => by
    cases vs <;> cases ds <;> simp [DataW.TrodAll] at h ⊢
    exact h
  | t :: ts, vs, ds, ps, ht, h, hlt, sp, hs => by
    obtain ⟨v, vs', d, ds', p, q, rfl, rfl, rfl, h1, h2⟩ := trodAll_cons h
    obtain ⟨r1, r2⟩ := ht t (by simp)
    exact trodAll_cons_mk (WideElems.Trod_stays hl r1 r2 h1 (fun x hx => hb.same (hlt x (by simp [hx]))) (fun x hx => hs x (by simp [hx])))
      (trodAll_stays hl hb (fun u hu => ht u (by simp [hu])) h2 (fun x hx => hlt x (by simp [hx])) sp (fun x hx => hs x (by simp [hx])))

/-- A law that returns true and leaves alone what was there. -/
theorem law_post {f : Func} {s : ChangeSpec} {apart fresh handsOn again : Bool} {W W' : World} {args : Array Value} {ds : List (DataW H)} {gs : List (DataW H)} {before : List MemPlace} {tb : TypeId}
    (hl : laidOutB P = true) (htys : ∀ t ∈ f.params.toList, P.readableRec t = true ∧ t < P.types.size) (hvars : s.vars = []) (htb : P.underlying tb = some .bool) (hres : f.resultTypes = #[tb])
    (hW : DataW.Whole enc P f.params.toList s.vars apart W args.toList ds gs before) (hfn : s.fn H ds = { results := [.lit (.bool true)], args := ds })
    (hb : Below W.heap.size W W') : s.post enc P f apart fresh handsOn again W args (.bool true) W' := by
  have hlt : ∀ p ∈ before, p.block < W.heap.size := fun p hp => hW.lt p hp
  have hW' := hW
  obtain ⟨p, q, hA, hV, rfl, hfz, hnd⟩ := hW
  rw [hvars] at hV
  obtain ⟨rfl, rfl⟩ := trodVars_none hV
  simp only [List.append_nil] at hW' hlt hfz hnd
  have hfn' : s.fn H (ds ++ []) = { results := [.lit (.bool true)], args := ds } := by rw [List.append_nil]; exact hfn
  have hbool : ∀ (b : Nat) (sp : Nat → Bool) (hd : Bool), DataW.TrodAll enc P W' b sp hd f.resultTypes.toList ((Value.bool true).resultList f.resultTypes.size) (s.fn H (ds ++ [])).results [] := by
    intro b sp hd
    rw [hres, hfn']
    exact trodAll_mk1 ⟨1, by simp [DataW.trod, htb, Value.cells]⟩
  have hargs : ∀ sp : Nat → Bool, (∀ x ∈ p, sp x.block = true) → DataW.TrodAll enc P W' 0 sp true f.params.toList args.toList (s.fn H (ds ++ [])).args p := by
    intro sp hs
    rw [hfn']
    exact trodAll_stays hl hb htys hA hlt sp hs
  have hvs : ∀ sp : Nat → Bool, DataW.TrodVars enc P W' sp s.vars (s.fn H (ds ++ [])).vars [] := by
    intro sp
    rw [hfn', hvars]
    rfl
  have hold : ∀ x ∈ p, (fun b => decide (b < W.heap.size)) x.block = true := fun x hx => by simpa using hlt x hx
  refine ⟨ds, [], p, [], p, [], hW', hbool _ _ _, hargs _ hold, hvs _, World.keptBut_mono (fun x hx => ⟨hx, ?_⟩) (hb.frame (· ∈ p)), fun _ => ?_⟩
  · exact Or.inr (by simpa using hx)
  · refine ⟨?_, _, _, ([] ++ p) ++ [], ⟨[] ++ p, [], trodAll_append (hargs _ (fun _ _ => rfl)) (hbool _ _ _), hvs _, rfl, ?_, ?_⟩, ?_⟩
    · intro j t r ht hr
      rw [hres] at ht hr
      match j, ht with
      | 0, ht =>
        simp at ht hr
        subst ht
        simp [Value.resultList] at hr
        subst hr
        exact okWide_bool_mk htb _
      | j + 1, ht => simp at ht
    · intro b off hp
      have hin : MemPlace.cell b off ∈ p := by simpa using hp
      rw [hb.frozen (hlt _ hin)]
      exact hfz b off hin
    · intro ha
      simpa using hnd ha
    · intro x hx _
      simpa using hx
end

/-- A contract that says true, as a call. -/
theorem pure_calls {P : Program} {ts : List Tb} {f : Nat} {A : List RV} (h : PureC P ts f A (.bool true)) {w : World} (hT : TabW ts w) {Args : List Value} (hR : RsRel (Wz w) A Args) :
    Calls P f Args.toArray w fun e w' => e = .returned (.bool true) ∧ Below w.heap.size w w' := by
  refine (h.2 w (Wz w) Args hT (fun B x hx => hx) hR).mono ?_
  rintro e w' ⟨V, F', rfl, _, _, _, hV, hb⟩
  cases hV
  exact ⟨rfl, hb⟩

theorem tab_block {P : Program} {W : World} {name : String} {k : IntKind} {zs : List Int} {g : Nat} {t : TypeId} {cs : Array Value} (hg : P.globalNamed name = some g) (ht : Lib.TabIs P W name k zs) (h1 : W.heap[g]? = some (.cells cs t)) :
    W.heap[g]? = some (.cells (zs.map fun z => Value.int k z).toArray t (0, 0)) := by
  unfold Lib.TabIs World.var? at ht
  rw [hg] at ht
  simp only [Option.bind_some, h1] at ht
  injection ht with ht
  rw [h1, ht]
theorem row_of {P : Program} {W : World} {g : Nat} {t : TypeId} (hsz : g < P.globals.size) (hr : (((begin P (fun _ _ => 0) default).world.heap[g]?).bind Obj.row?).map (·.2) = some t) (hS : W.ShapedOpen P) :
    ∃ cs u, W.heap[g]? = some (.cells cs u) ∧ u = t := by
  cases hz : ((begin P (fun _ _ => 0) default).world.heap[g]?).bind Obj.row? with
  | none => rw [hz] at hr; cases hr
  | some zt =>
    obtain ⟨zero, u⟩ := zt
    rw [hz] at hr
    obtain ⟨cs, h1, _⟩ := hS.1 g zero _ hsz hz
    exact ⟨cs, u, h1, by simpa using hr⟩
/-- A variable's cells out of its datum. -/
def dataCells : DataW Unit → Array Value
  | .agg l => (l.map fun | .lit (.int k n) => Value.int k n | _ => .bool false).toArray
  | _ => #[]
def layAt (g : Nat) (d : DataW Unit) (w : World) : World :=
  { w with heap := w.heap.modify g fun
      | .cells _ t frozen => .cells (dataCells d) t frozen
      | o => o }

/-- A struct of two fields of one cell each. -/
structure TwoTy (P : Program) (t t0 t1 : TypeId) (f0 f1 : Field) : Prop where
  und : P.underlying t = some (.struct #[f0, f1])
  one : oneCellFields P #[f0, f1] = true
  cells : P.cellsOf t = 2
  e0 : f0.type = t0
  e1 : f1.type = t1
section
variable {H : Type} {enc : TypeId × Value → H} {P : Program} {w : World} {base : Nat} {spare : Nat → Bool} {held : Bool} {r : Reach} {b0 : Nat} {v : Value} {d : DataW H} {p : List MemPlace}
theorem two_of {t t0 t1 : TypeId} {f0 f1 : Field} (hT : TwoTy P t t0 t1 f0 f1) (hv : Value.okWide P w r b0 t v) (h : DataW.Trod enc P w base spare held t v d p) :
    ∃ v0 v1 y0 y1 n, v = .agg #[v0, v1] ∧ DataW.trod enc P w base spare held n t0 [v0] = some y0 ∧ DataW.trod enc P w base spare held n t1 [v1] = some y1 := by
  obtain ⟨v0, v1, y0, y1, n, e, _, _, h0, h1⟩ := open_agg2 hT.und hT.one hT.cells hv h
  rw [hT.e0] at h0
  rw [hT.e1] at h1
  exact ⟨v0, v1, y0, y1, n, e, h0, h1⟩
structure LocalTys (P : Program) (t : TypeId) : Prop where
  has : ∃ (t0 t1 u ti tb : TypeId) (f0 f1 : Field) (fs : Array Field), TwoTy P t t0 t1 f0 f1 ∧ ConTy P u ti tb fs ∧ P.underlying t0 = some (.int .i64) ∧ P.underlying t1 = some (.slice u)
structure SymbolTys (P : Program) (t : TypeId) : Prop where
  has : ∃ (t0 t1 u tu : TypeId) (f0 f1 : Field), TwoTy P t t0 t1 f0 f1 ∧ PartTy P u tu ∧ P.underlying t0 = some (.int .u8) ∧ P.underlying t1 = some (.slice u)
theorem open_local {t : TypeId} (hT : LocalTys P t) (hv : Value.okWide P w r b0 t v) (h : DataW.Trod enc P w base spare held t v d p) :
    ∃ q L, RRel (Wz w) (.agg [.int .i64 q, roC L]) v ∧ I64 q ∧ L.length ≤ maxLen ∧ ∀ x ∈ L, fits x := by
  obtain ⟨_, _, _, _, _, _, _, _, h1, h2, h3, h4⟩ := hT.has
  obtain ⟨v0, v1, y0, y1, n, rfl, g0, g1⟩ := two_of h1 hv h
  obtain ⟨z, rfl, hz⟩ := one_int h3 g0 (Option.some_ne_none _)
  obtain ⟨L, hl, hR, hf⟩ := open_lst h2 h4 g1
  exact ⟨z, L, .agg (.cons (.int _ _) (.cons hR .nil)), wf_i64 hz, hl, hf⟩
theorem open_symbol {t : TypeId} (hT : SymbolTys P t) (hv : Value.okWide P w r b0 t v) (h : DataW.Trod enc P w base spare held t v d p) :
    ∃ q L, RRel (Wz w) (.agg [.int .u8 q, roP L]) v ∧ U8 q ∧ L.length ≤ maxLen ∧ ∀ x ∈ L, x.ok := by
  obtain ⟨_, _, _, _, _, _, h1, h2, h3, h4⟩ := hT.has
  obtain ⟨v0, v1, y0, y1, n, rfl, g0, g1⟩ := two_of h1 hv h
  obtain ⟨z, rfl, hz⟩ := one_int h3 g0 (Option.some_ne_none _)
  obtain ⟨L, hl, hR, hf⟩ := open_prts h2 h4 g1
  exact ⟨z, L, .agg (.cons (.int _ _) (.cons hR .nil)), wf_u8 hz, hl, hf⟩
end
theorem vals_eq {v : Value} {cs : List Value} (hag : ∃ a, v = .agg a) (h : v.cells.toList = cs) : v = .agg cs.toArray := by
  obtain ⟨a, rfl⟩ := hag
  subst h
  rfl
section
variable {H : Type} {enc : TypeId × Value → H} {P : Program} {w : World} {base : Nat} {spare : Nat → Bool} {held : Bool} {r : Reach} {b0 : Nat} {v : Value} {d : DataW H} {p : List MemPlace}
theorem open_conV_gen {t ti tb : TypeId} {fs : Array Field} (hT : ConTy P t ti tb fs) (hv : Value.okWide P w r b0 t v) (h : DataW.Trod enc P w base spare held t v d p) : ∃ c : Con, v = .agg (vals c).toArray ∧ fits c := by
  obtain ⟨n, hn⟩ := h
  obtain ⟨c, hc, hf⟩ := open_con hT hn
  obtain ⟨cs, rfl, _⟩ := okWide_struct hT.und hv
  exact ⟨c, vals_eq ⟨_, rfl⟩ hc, hf⟩
structure ConTys (P : Program) (t : TypeId) : Prop where
  has : ∃ (ti tb : TypeId) (fs : Array Field), ConTy P t ti tb fs
theorem open_conV {t : TypeId} (hT : ConTys P t) (hv : Value.okWide P w r b0 t v) (h : DataW.Trod enc P w base spare held t v d p) : ∃ c : Con, v = .agg (vals c).toArray ∧ fits c := by
  obtain ⟨ti, tb, fs, hT⟩ := hT.has
  exact open_conV_gen hT hv h
theorem open_fourV_gen {t tu : TypeId} (hT : FourTy P t tu) (hv : Value.okWide P w r b0 t v) (h : DataW.Trod enc P w base spare held t v d p) : ∃ x0 x1 x2 x3 : Int, v = .agg #[.int .u8 x0, .int .u8 x1, .int .u8 x2, .int .u8 x3] ∧ U8 x0 ∧ U8 x1 ∧ U8 x2 ∧ U8 x3 := by
  obtain ⟨n, hn⟩ := h
  obtain ⟨x0, x1, x2, x3, hc, h0, h1, h2, h3⟩ := open_four hT hn
  obtain ⟨cs, rfl⟩ : ∃ cs, v = .agg cs := by
    have hu := hT.und
    simp only [Value.okWide, hu] at hv
    obtain ⟨cs, h1, _⟩ := hv
    exact ⟨cs, h1⟩
  exact ⟨x0, x1, x2, x3, vals_eq ⟨_, rfl⟩ hc, h0, h1, h2, h3⟩
end
theorem conTy : ∃ fs, ConTy Tryz.prog 74 3 4 fs :=
  ⟨_, { und := Tryz.underlying74, cells := by kernel_rfl, one := by kernel_rfl, size := by kernel_rfl, f0 := by kernel_rfl, f1 := by kernel_rfl, f2 := by kernel_rfl, f3 := by kernel_rfl, f4 := by kernel_rfl, int := Tryz.underlying3, bool := Tryz.underlying4 }⟩
theorem conTys : ConTys Tryz.prog 74 := by
  obtain ⟨fs, hC⟩ := conTy
  exact ⟨_, _, _, hC⟩
theorem partTy : PartTy Tryz.prog 140 5 := { und := Tryz.underlying140, cells := by kernel_rfl, u8 := Tryz.underlying5, one := by kernel_rfl }
theorem localTys : LocalTys Tryz.prog 24 := by
  obtain ⟨fs, hC⟩ := conTy
  exact ⟨_, _, _, _, _, _, _, _, { und := Tryz.underlying24, one := by kernel_rfl, cells := by kernel_rfl, e0 := rfl, e1 := rfl }, hC, Tryz.underlying2, Tryz.underlying22⟩
theorem symbolTys : SymbolTys Tryz.prog 27 :=
  ⟨_, _, _, _, _, _, { und := Tryz.underlying27, one := by kernel_rfl, cells := by kernel_rfl, e0 := rfl, e1 := rfl }, partTy, Tryz.underlying5, Tryz.underlying25⟩
end Go.Proofs.YtejmmglffmckeaaGreatDoor.S
