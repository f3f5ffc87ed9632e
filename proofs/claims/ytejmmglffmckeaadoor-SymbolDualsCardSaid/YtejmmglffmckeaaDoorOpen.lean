/- Arguments of the laws opened to lists in memory, over any program; reading them again behind a call. -/
import Derived.Test.YtejmmglffmckeaaDoorX3
import Derived.Lib.SmallJoins
import Derived.WideKeyArgs
import Derived.Deep.Slices
import Derived.OpenShut
import Derived.ChangeSame
namespace Go.Proofs.YtejmmglffmckeaaDoor.Q
open Go.ChangeShapes Go.WideShapes Go.ChangeAt Go.RowKit Go.Joins Go.Deep

theorem wf_i64 {n : Int} (h : (Lit.int .i64 n).wf = true) : I64 n := by
  simp only [Lit.wf, Bool.and_eq_true, decide_eq_true_eq] at h
  exact h
theorem wf_u8 {n : Int} (h : (Lit.int .u8 n).wf = true) : 0 ≤ n ∧ n ≤ 255 := by
  simp only [Lit.wf, Bool.and_eq_true, decide_eq_true_eq] at h
  exact h
theorem wf_i8 {n : Int} (h : (Lit.int .i8 n).wf = true) : -128 ≤ n ∧ n ≤ 127 := by
  simp only [Lit.wf, Bool.and_eq_true, decide_eq_true_eq] at h
  exact h

/-- What holds at each index below n holds along a list. -/
theorem list_of {α : Type} {R : Nat → α → Prop} : ∀ {n : Nat}, (∀ i, i < n → ∃ c, R i c) → ∃ l : List α, l.length = n ∧ ∀ i c, l[i]? = some c → R i c
  | 0, _ => ⟨[], rfl, fun i c h => by simp at h⟩
  | n + 1, h => by
    obtain ⟨l, hl, hr⟩ := list_of (n := n) (R := R) (fun i hi => h i (by omega))
    obtain ⟨c, hc⟩ := h n (by omega)
    refine ⟨l ++ [c], by simp [hl], fun i x hx => ?_⟩
    by_cases hi : i < n
    · rw [List.getElem?_append_left (by omega)] at hx
      exact hr i x hx
    · rw [List.getElem?_append_right (by omega)] at hx
      have : i = n := by
        have := (List.getElem?_eq_some_iff.1 hx).1
        simp at this
        omega
      subst this
      simp [hl] at hx
      subst hx
      exact hc

theorem five_of {α : Type} {l : List α} (h : l.length = 5) : ∃ a b c d e, l = [a, b, c, d, e] := by
  match l, h with
  | [a, b, c, d, e], _ => exact ⟨a, b, c, d, e, rfl⟩

section
variable {H : Type} {enc : TypeId × Value → H} {P : Program} {w : World} {base : Nat} {spare : Nat → Bool} {held : Bool}

theorem one_int {n : Nat} {t : TypeId} {k : IntKind} {v : Value} {o : Option (DataW H × List MemPlace)} (ht : P.underlying t = some (.int k)) (h : DataW.trod enc P w base spare held n t [v] = o) (ho : o ≠ none) : ∃ z, v = .int k z ∧ (Lit.int k z).wf = true := by
  cases o with
  | none => exact absurd rfl ho
  | some x =>
    obtain ⟨z, hc, _, hw⟩ := DataW.trod_int ht h
    simp at hc
    exact ⟨z, hc, hw⟩
theorem one_bool {n : Nat} {t : TypeId} {v : Value} {o : Option (DataW H × List MemPlace)} (ht : P.underlying t = some .bool) (h : DataW.trod enc P w base spare held n t [v] = o) (ho : o ≠ none) : ∃ z, v = .bool z := by
  cases o with
  | none => exact absurd rfl ho
  | some x =>
    obtain ⟨z, hc, _⟩ := DataW.trod_bool ht h
    simp at hc
    exact ⟨z, hc⟩
theorem at_some {α : Type} {l : List α} {n i : Nat} (h : l.length = n) (hi : i < n) : l[i]? ≠ none := by
  rw [List.getElem?_eq_getElem (by omega)]
  exact Option.some_ne_none _

/-- Which fields a constituent has. -/
structure ConTy (P : Program) (t ti tb : TypeId) (fs : Array Field) : Prop where
  und : P.underlying t = some (.struct fs)
  cells : P.cellsOf t = 5
  one : oneCellFields P fs = true
  size : fs.size = 5
  f0 : fs[0]?.map (·.type) = some ti
  f1 : fs[1]?.map (·.type) = some ti
  f2 : fs[2]?.map (·.type) = some ti
  f3 : fs[3]?.map (·.type) = some tb
  f4 : fs[4]?.map (·.type) = some ti
  int : P.underlying ti = some (.int .i64)
  bool : P.underlying tb = some .bool

theorem fld {fs : Array Field} {i : Nat} {t : TypeId} (h : fs[i]?.map (·.type) = some t) : ∃ f, fs[i]? = some f ∧ f.type = t := by
  cases hf : fs[i]? with
  | none => rw [hf] at h; cases h
  | some f => rw [hf] at h; exact ⟨f, rfl, by simpa using h⟩

theorem open_con {t ti tb : TypeId} {fs : Array Field} (hT : ConTy P t ti tb fs) {n : Nat} {cs : List Value} {x : DataW H × List MemPlace} (h : DataW.trod enc P w base spare held n t cs = some x) : ∃ c : Con, cs = c.vals ∧ c.fits := by
  obtain ⟨ys, m, _, hy, hlen, hyl, hf⟩ := DataW.trod_struct hT.und h
  rw [hT.cells] at hlen
  obtain ⟨c0, c1, c2, c3, c4, rfl⟩ := five_of hlen
  have key : ∀ {i : Nat} {u : TypeId}, fs[i]?.map (·.type) = some u → DataW.trod enc P w base spare held m u (([c0, c1, c2, c3, c4].drop i).take 1) = ys[i]? := by
    intro i u hu
    obtain ⟨f, h1, rfl⟩ := fld hu
    obtain ⟨o, k⟩ := hone_of hT.one i f h1
    have := hf i f h1
    rw [o, k] at this
    exact this
  have hys : ys.length = 5 := hyl.trans hT.size
  obtain ⟨z0, rfl, w0⟩ := one_int hT.int (key hT.f0) (at_some hys (by omega))
  obtain ⟨z1, rfl, w1⟩ := one_int hT.int (key hT.f1) (at_some hys (by omega))
  obtain ⟨z2, rfl, w2⟩ := one_int hT.int (key hT.f2) (at_some hys (by omega))
  obtain ⟨z3, rfl⟩ := one_bool hT.bool (key hT.f3) (at_some hys (by omega))
  obtain ⟨z4, rfl, w4⟩ := one_int hT.int (key hT.f4) (at_some hys (by omega))
  exact ⟨⟨z0, z1, z2, z3, z4⟩, rfl, wf_i64 w0, wf_i64 w1, wf_i64 w2, wf_i64 w4⟩

theorem spot_none {b : Addr} {v : Value} (h : w.cell? b = some v) : b = ⟨b.block, b.off, none⟩ := by
  cases b with
  | mk b o s =>
    cases s with
    | none => rfl
    | some s =>
      unfold World.cell? at h
      split at h <;> simp at h

theorem add_form (a : Addr) (k : Nat) : (a.add k).block = a.block ∧ (a.add k).off = a.off + k := by
  unfold Addr.add
  split
  · rename_i h; subst h; exact ⟨rfl, rfl⟩
  · exact ⟨rfl, rfl⟩

/-- A row of five cells, read at a slice's place i. -/
theorem five_at {a : Addr} {i : Nat} {cs : List Value} (h : w.cells? base (a.add (i * 5)) 5 = some cs) : cs.length = 5 ∧ a.block < w.heap.size ∧ ∀ j u, cs[j]? = some u → w.cell? ⟨a.block, a.off + i * 5 + j, none⟩ = some u := by
  obtain ⟨_, hl, hc⟩ := World.cells?_some h
  have hlt := World.cells?_block h (by omega)
  refine ⟨hl, by rw [(add_form a (i * 5)).1] at hlt; exact hlt, fun j u hu => ?_⟩
  have hj : j < 5 := by have := (List.getElem?_eq_some_iff.1 hu).1; omega
  have h1 := (hc j hj).trans hu
  have h2 := spot_none h1
  obtain ⟨e1, e2⟩ := add_form (a.add (i * 5)) j
  obtain ⟨e3, e4⟩ := add_form a (i * 5)
  rw [h2, e1, e2, e3, e4] at h1
  exact h1

theorem open_lst {t u ti tb : TypeId} {fs : Array Field} (hT : ConTy P u ti tb fs) (ht : P.underlying t = some (.slice u)) {n : Nat} {v : Value} {x : DataW H × List MemPlace} (h : DataW.trod enc P w base spare held n t [v] = some x) : ∃ a m c l, v = .slice a m c ∧ m ≤ maxLen ∧ Lst w v l ∧ ∀ c ∈ l, c.fits := by
  rcases open_slice ht h with ⟨h0, _⟩ | ⟨a, len, cap, m, n', D, Pl, hcs, hb, hl, hm, hmm, hx, hi⟩
  · simp at h0
    exact ⟨none, 0, 0, [], h0, Nat.zero_le _, .inl ⟨rfl, none, 0, h0⟩, by simp⟩
  · simp at hcs
    rw [hT.cells] at hi
    have hlm : len ≤ m := by rw [hmm]; split <;> omega
    have hall : ∀ i, i < len → ∃ c : Con, c.fits ∧ a.block < w.heap.size ∧ ConAt w a.block (a.off + i * 5) c := by
      intro i him
      obtain ⟨cs', hc, ht⟩ := hi i (by omega)
      obtain ⟨c, rfl, hfit⟩ := open_con hT ht
      obtain ⟨_, hlt, hat⟩ := five_at hc
      exact ⟨c, hfit, hlt, hat 0 _ rfl, hat 1 _ rfl, hat 2 _ rfl, hat 3 _ rfl, hat 4 _ rfl⟩
    obtain ⟨l, hll, hr⟩ := list_of hall
    refine ⟨some a, len, cap, l, hcs, Nat.le_trans hl hm, ?_, fun c hc => ?_⟩
    · by_cases hne : l = []
      · subst hne
        simp at hll
        subst hll
        exact .inl ⟨rfl, some a, cap, hcs⟩
      · have h0 : 0 < l.length := by cases l; exact absurd rfl hne; simp
        obtain ⟨hf, hlt, hat⟩ := hr 0 _ (List.getElem?_eq_getElem h0)
        have hsp : a = ⟨a.block, a.off, none⟩ := by
          obtain ⟨cs', hc, _⟩ := hi 0 (by omega)
          obtain ⟨_, hl5, hc5⟩ := World.cells?_some hc
          have h1 := hc5 0 (by omega)
          rw [List.getElem?_eq_getElem (by omega)] at h1
          have := spot_none h1
          simpa [Addr.add] using this
        refine .inr ⟨hne, a.block, a.off, cap, by rw [hcs, hll]; congr 1; rw [← hsp], hlt, by rw [hll]; exact hl, fun i c hi => (hr i c hi).2.2⟩
    · obtain ⟨i, hi', he⟩ := List.getElem_of_mem hc
      exact (hr i c (by rw [List.getElem?_eq_getElem hi', he])).1

/-- An array of five bytes. -/
structure PartTy (P : Program) (t tu : TypeId) : Prop where
  und : P.underlying t = some (.array 5 tu)
  cells : P.cellsOf t = 5
  u8 : P.underlying tu = some (.int .u8)
  one : P.cellsOf tu = 1

theorem open_part {t tu : TypeId} (hT : PartTy P t tu) {n : Nat} {cs : List Value} {x : DataW H × List MemPlace} (h : DataW.trod enc P w base spare held n t cs = some x) :
    ∃ x0 x1 x2 x3 x4 : Int, cs = [.int .u8 x0, .int .u8 x1, .int .u8 x2, .int .u8 x3, .int .u8 x4] ∧ (0 ≤ x0 ∧ x0 ≤ 255) ∧ (0 ≤ x1 ∧ x1 ≤ 255) ∧ (0 ≤ x2 ∧ x2 ≤ 255) ∧ (0 ≤ x3 ∧ x3 ≤ 255) ∧ (0 ≤ x4 ∧ x4 ≤ 255) := by
  obtain ⟨ys, m, _, hy, hlen, hyl, hf⟩ := DataW.trod_array hT.und h
  rw [hT.cells] at hlen
  obtain ⟨c0, c1, c2, c3, c4, rfl⟩ := five_of hlen
  rw [hT.one] at hf
  have f0 := hf 0 (by omega)
  have f1 := hf 1 (by omega)
  have f2 := hf 2 (by omega)
  have f3 := hf 3 (by omega)
  have f4 := hf 4 (by omega)
  obtain ⟨z0, rfl, w0⟩ := one_int hT.u8 f0 (at_some hyl (by omega))
  obtain ⟨z1, rfl, w1⟩ := one_int hT.u8 f1 (at_some hyl (by omega))
  obtain ⟨z2, rfl, w2⟩ := one_int hT.u8 f2 (at_some hyl (by omega))
  obtain ⟨z3, rfl, w3⟩ := one_int hT.u8 f3 (at_some hyl (by omega))
  obtain ⟨z4, rfl, w4⟩ := one_int hT.u8 f4 (at_some hyl (by omega))
  exact ⟨z0, z1, z2, z3, z4, rfl, wf_u8 w0, wf_u8 w1, wf_u8 w2, wf_u8 w3, wf_u8 w4⟩

theorem open_prts {t u tu : TypeId} (hT : PartTy P u tu) (ht : P.underlying t = some (.slice u)) {n : Nat} {v : Value} {x : DataW H × List MemPlace} (h : DataW.trod enc P w base spare held n t [v] = some x) : ∃ a m c, v = .slice a m c ∧ m ≤ maxLen ∧ Prts w v m := by
  rcases open_slice ht h with ⟨h0, _⟩ | ⟨a, len, cap, m, n', D, Pl, hcs, hb, hl, hm, hmm, hx, hi⟩
  · simp at h0
    exact ⟨none, 0, 0, h0, Nat.zero_le _, none, 0, h0, by omega⟩
  · simp at hcs
    rw [hT.cells] at hi
    have hlm : len ≤ m := by rw [hmm]; split <;> omega
    have hall : ∀ i, i < len → a.block < w.heap.size ∧ ∃ x0 x1 x2 x3 x4, PartAt w a.block (a.off + i * 5) x0 x1 x2 x3 x4 := by
      intro i him
      obtain ⟨cs', hc, ht⟩ := hi i (by omega)
      obtain ⟨x0, x1, x2, x3, x4, rfl, b0, b1, b2, b3, b4⟩ := open_part hT ht
      obtain ⟨_, hlt, hat⟩ := five_at hc
      exact ⟨hlt, x0, x1, x2, x3, x4, hat 0 _ rfl, hat 1 _ rfl, hat 2 _ rfl, hat 3 _ rfl, hat 4 _ rfl, b0, b1, b2, b3, b4⟩
    refine ⟨some a, len, cap, hcs, Nat.le_trans hl hm, some a, cap, hcs, fun h0 => ?_⟩
    have hsp : a = ⟨a.block, a.off, none⟩ := by
      obtain ⟨cs', hc, _⟩ := hi 0 (by omega)
      obtain ⟨_, hl5, hc5⟩ := World.cells?_some hc
      have h1 := hc5 0 (by omega)
      rw [List.getElem?_eq_getElem (by omega)] at h1
      have := spot_none h1
      simpa [Addr.add] using this
    exact ⟨a.block, a.off, by rw [← hsp], (hall 0 h0).1, fun i hi => (hall i hi).2⟩

/-- The arguments read behind the call as they read before. -/
theorem trodAll_stays (hl : laidOutB P = true) {W W' : World} (hb : Below W.heap.size W W') : ∀ {ts : List TypeId} {vs : List Value} {ds : List (DataW H)} {ps : List MemPlace}, (∀ t ∈ ts, P.readableRec t = true ∧ t < P.types.size) →
    DataW.TrodAll enc P W 0 (fun _ => true) true ts vs ds ps → (∀ p ∈ ps, p.block < W.heap.size) → ∀ sp : Nat → Bool, (∀ p ∈ ps, sp p.block = true) → DataW.TrodAll enc P W' 0 sp true ts vs ds ps
  | [], vs, ds, ps, _, h, _, sp, _ => by
    cases vs <;> cases ds <;> simp [DataW.TrodAll] at h ⊢
    exact h
  | t :: ts, vs, ds, ps, ht, h, hlt, sp, hs => by
    obtain ⟨v, vs', d, ds', p, q, rfl, rfl, rfl, h1, h2⟩ := trodAll_cons h
    obtain ⟨r1, r2⟩ := ht t (by simp)
    exact trodAll_cons_mk (WideElems.Trod_stays hl r1 r2 h1 (fun x hx => hb.same (hlt x (by simp [hx]))) (fun x hx => hs x (by simp [hx])))
      (trodAll_stays hl hb (fun u hu => ht u (by simp [hu])) h2 (fun x hx => hlt x (by simp [hx])) sp (fun x hx => hs x (by simp [hx])))

/-- A law that returns true and leaves alone what was there. -/
theorem law_post {f : Func} {s : ChangeSpec} {apart fresh handsOn again : Bool} {W W' : World} {args : Array Value} {ds : List (DataW H)} {gs : List (DataW H)} {before : List MemPlace} {tb : TypeId}
    (hl : laidOutB P = true) (htys : ∀ t ∈ f.params.toList, P.readableRec t = true ∧ t < P.types.size) (hvars : s.vars = []) (htb : P.underlying tb = some .bool) (hres : f.resultTypes = #[tb])
    (hW : DataW.Whole enc P f.params.toList s.vars apart W args.toList ds gs before) (hfn : s.fn H ds = { results := [.lit (.bool true)], args := ds })
    (hb : Below W.heap.size W W') : s.post enc P f apart fresh handsOn again W args (.bool true) W' := by
  have hlt : ∀ p ∈ before, p.block < W.heap.size := fun p hp => hW.lt p hp
  have hW' := hW
  obtain ⟨p, q, hA, hV, rfl, hfz, hnd⟩ := hW
  rw [hvars] at hV
  obtain ⟨rfl, rfl⟩ := trodVars_none hV
  simp only [List.append_nil] at hW' hlt hfz hnd
  have hfn' : s.fn H (ds ++ []) = { results := [.lit (.bool true)], args := ds } := by rw [List.append_nil]; exact hfn
  have hbool : ∀ (b : Nat) (sp : Nat → Bool) (hd : Bool), DataW.TrodAll enc P W' b sp hd f.resultTypes.toList ((Value.bool true).resultList f.resultTypes.size) (s.fn H (ds ++ [])).results [] := by
    intro b sp hd
    rw [hres, hfn']
    exact trodAll_mk1 ⟨1, by simp [DataW.trod, htb, Value.cells]⟩
  have hargs : ∀ sp : Nat → Bool, (∀ x ∈ p, sp x.block = true) → DataW.TrodAll enc P W' 0 sp true f.params.toList args.toList (s.fn H (ds ++ [])).args p := by
    intro sp hs
    rw [hfn']
    exact trodAll_stays hl hb htys hA hlt sp hs
  have hvs : ∀ sp : Nat → Bool, DataW.TrodVars enc P W' sp s.vars (s.fn H (ds ++ [])).vars [] := by
    intro sp
    rw [hfn', hvars]
    rfl
  have hold : ∀ x ∈ p, (fun b => decide (b < W.heap.size)) x.block = true := fun x hx => by simpa using hlt x hx
  refine ⟨ds, [], p, [], p, [], hW', hbool _ _ _, hargs _ hold, hvs _, World.keptBut_mono (fun x hx => ⟨hx, ?_⟩) (hb.frame (· ∈ p)), fun _ => ?_⟩
  · exact Or.inr (by simpa using hx)
  · refine ⟨?_, _, _, ([] ++ p) ++ [], ⟨[] ++ p, [], trodAll_append (hargs _ (fun _ _ => rfl)) (hbool _ _ _), hvs _, rfl, ?_, ?_⟩, ?_⟩
    · intro j t r ht hr
      rw [hres] at ht hr
      match j, ht with
      | 0, ht =>
        simp at ht hr
        subst ht
        simp [Value.resultList] at hr
        subst hr
        exact okWide_bool_mk htb _
      | j + 1, ht => simp at ht
    · intro b off hp
      have hin : MemPlace.cell b off ∈ p := by simpa using hp
      rw [hb.frozen (hlt _ hin)]
      exact hfz b off hin
    · intro ha
      simpa using hnd ha
    · intro x hx _
      simpa using hx
end
end Go.Proofs.YtejmmglffmckeaaDoor.Q
