/- Appending to lists that may be open. -/
import Derived.Test.YtejmmglffmckeaaGreatDoorZV
set_option linter.unusedSimpArgs false
set_option linter.unusedVariables false
namespace Go.QfSy

/- a decision on an open test -/
def Dec (b d : Bool) : Prop := b = d
/- a decision is taken off the tape and noted -/
def Hs.ask (H : Hs) (b : Bool) : Bool × Hs := match H.tp with
  | [] => (true, { H with ms := Dec b true :: H.ms })
  | d :: tp => (d, { H with tp := tp, ms := Dec b d :: H.ms })
def Hs.must (H : Hs) (ms : List Prop) : Hs := { H with ms := ms ++ H.ms }

theorem ask_m (H : Hs) (b : Bool) : (H.ask b).2.m = H.m := by unfold Hs.ask; split <;> rfl
theorem ask_nx (H : Hs) (b : Bool) : (H.ask b).2.nx = H.nx := by unfold Hs.ask; split <;> rfl
theorem ask_ms (H : Hs) (b : Bool) : (H.ask b).2.ms = Dec b (H.ask b).1 :: H.ms := by unfold Hs.ask; split <;> rfl

def Con.ofR : List RV → Con
  | [.int _ x, .int _ n, .int _ s, .bool o, .int _ t] => ⟨x, n, s, o, t⟩
  | _ => Con.zero
def consR (n : Nat) (row : Nat → List RV) : List Con := (List.range n).map fun i => Con.ofR (row i)
def intR : List RV → Int
  | [.int _ x] => x
  | _ => 0
def intsR (n : Nat) (row : Nat → List RV) : List Int := (List.range n).map fun i => intR (row i)

/- constituents out of cells -/
def consOf : Nat → List AV → Option (List Con)
  | _, [] => some []
  | 0, _ => none
  | f + 1, l => match Con.ofAvs (l.take 5) with
    | none => none
    | some c => match consOf f (l.drop 5) with
      | none => none
      | some L => some (c :: L)

/- what is appended: its number, the new part of the list (as a view), what must hold -/
def sSrc (ti : Tr TypeInfo) (conT : Nat) (h : Tr Blk) (e z t : Nat) (x : AV) : Option (Nat × View × List Prop) :=
  match x with
  | .ro n sz row => match und ti t with
    | some (.slice _) => bif Nat.beq sz z then
        (bif Nat.beq e conT && Nat.beq z 5 then some (n, .con (consR n row), [∀ i, i < n → row i = (Con.ofR (row i)).rvs])
        else match intT ti e with
          | none => none
          | some k => bif Nat.beq z 1 then some (n, .ints k (intsR n row), [∀ i, i < n → row i = [.int k (intR (row i))]]) else none)
        else none
    | _ => none
  | _ => match srcV ti h e z t x with
    | none => none
    | some (n, vs) =>
      bif Nat.beq e conT && Nat.beq z 5 then
        (match consOf (n + 1) vs with
        | none => none
        | some L => some (n, .con L, []))
      else match intT ti e with
        | none => none
        | some k => bif Nat.beq z 1 then (match intsOf k vs with
          | none => none
          | some L => some (n, .ints k L, [])) else none

def View.app : View → View → Option View
  | .con L, .con M => some (.con (L ++ M))
  | .ints k L, .ints k' M => bif decide (k = k') then some (.ints k (L ++ M)) else none
  | _, _ => none
/- the number of elements -/
def View.num : View → Nat
  | .con L => L.length
  | .ints _ L => L.length
  | .plain _ => 0

def isRo : AV → Bool
  | .ro _ _ _ => true
  | _ => false

/- append to a list; the new block gets the name H.nx -/
def sApp (ti : Tr TypeInfo) (conT : Nat) (t0 t1 : Nat) (s x : AV) (H : Hs) : Option (AV × Hs) :=
  match und ti t0 with
  | some (.slice e) => match szT ti e, bytesT ti e, zeroA ti e with
    | some z, some by_, some zs => bif !(Nat.beq zs.length z && Nat.ble by_ 1000) then none else
      match sSrc ti conT H.m e z t1 x with
      | none => none
      | some (n, V, ms) =>
        let fresh (H : Hs) : Option (AV × Hs) :=
          match H.m.set H.nx (some ⟨V, e, z, true, true⟩) with
          | none => none
          | some m => some (.lo H.nx n, { H with m := m, nx := H.nx + 1, ms := (0 < n ∧ n ≤ 1000000) :: (ms ++ H.ms) })
        match s with
        | .lo b c => match H.m.get b with
          | none => none
          | some k => match k.view.app V with
            | none => none
            | some V' => bif k.opn && k.own && Nat.beq k.sz z && Nat.beq k.elem e then
              (match H.m.set b none with
              | none => none
              | some m1 => match m1.set H.nx (some ⟨V', e, z, true, true⟩) with
                | none => none
                | some m => some (.lo H.nx (c + n), { H with m := m, nx := H.nx + 1, ms := (k.view.num = c ∧ c + n ≤ 1000000) :: (ms ++ H.ms) })) else none
        | .nils => bif isRo x then
            (match H.ask (Nat.beq n 0) with
            | (true, H1) => some (.nils, { H1 with nx := H1.nx + 1, ms := ms ++ H1.ms })
            | (false, H1) => fresh H1)
          else fresh H
        | .z0 => bif isRo x then
            (match H.ask (Nat.beq n 0) with
            | (true, H1) => some (.z0, { H1 with nx := H1.nx + 1, ms := ms ++ H1.ms })
            | (false, H1) => fresh H1)
          else fresh H
        | _ => none
    | _, _, _ => none
  | _ => none

/- rows laid one behind the other -/
theorem rows_at {z : Nat} {cs : Nat → List Value} : ∀ (n : Nat), (∀ i, i < n → (cs i).length = z) → ∀ (p : Nat) (v : Value), ((List.range n).flatMap cs)[p]? = some v → ∃ i j, i < n ∧ p = i * z + j ∧ (cs i)[j]? = some v
  | 0, _, p, v, h => by simp at h
  | n + 1, hl, p, v, h => by
    rw [List.range_succ, List.flatMap_append] at h
    have hlen : ((List.range n).flatMap cs).length = n * z := by
      clear h
      have hl' : ∀ i, i < n → (cs i).length = z := fun i hi => hl i (by omega)
      clear hl
      induction n with
      | zero => simp
      | succ n ih =>
        rw [List.range_succ, List.flatMap_append, List.length_append, ih (fun i hi => hl' i (by omega))]
        simp only [List.flatMap_cons, List.flatMap_nil, List.append_nil]
        rw [hl' n (by omega), Nat.add_mul]; omega
    by_cases hp : p < n * z
    · rw [List.getElem?_append_left (by omega)] at h
      obtain ⟨i, j, h1, h2, h3⟩ := rows_at n (fun i hi => hl i (by omega)) p v h
      exact ⟨i, j, by omega, h2, h3⟩
    · rw [List.getElem?_append_right (by omega), hlen] at h
      simp only [List.flatMap_cons, List.flatMap_nil, List.append_nil] at h
      exact ⟨n, p - n * z, by omega, by omega, h⟩
theorem rows_len {z : Nat} {cs : Nat → List Value} (n : Nat) (hl : ∀ i, i < n → (cs i).length = z) : ((List.range n).flatMap cs).length = n * z := by
  induction n with
  | zero => simp
  | succ n ih =>
    rw [List.range_succ, List.flatMap_append, List.length_append, ih (fun i hi => hl i (by omega))]
    simp only [List.flatMap_cons, List.flatMap_nil, List.append_nil]
    rw [hl n (by omega), Nat.add_mul]; omega
theorem rows_rel {γ : Gm} {g : Nat → List AV} {cs : Nat → List Value} : ∀ (n : Nat), (∀ i, i < n → VsRel γ (g i) (cs i)) → VsRel γ ((List.range n).flatMap g) ((List.range n).flatMap cs)
  | 0, _ => by simp; exact .nil
  | n + 1, h => by
    rw [List.range_succ, List.flatMap_append, List.flatMap_append]
    refine VsRel.append (rows_rel n (fun i hi => h i (by omega))) ?_
    simpa using h n (by omega)

theorem consOf_ok : ∀ {f : Nat} {l : List AV} {L : List Con}, consOf f l = some L → l.map tnt = L.flatMap Con.avs ∧ l.length = L.length * 5
  | f, [], L, h => by cases f <;> (simp [consOf] at h; subst h; exact ⟨rfl, rfl⟩)
  | 0, _ :: _, L, h => by simp [consOf] at h
  | f + 1, a :: l, L, h => by
    simp only [consOf] at h
    split at h
    · cases h
    · rename_i c hc
      split at h
      · cases h
      · rename_i L' hL
        cases h
        obtain ⟨h1, h2⟩ := consOf_ok hL
        have h3 := Con.ofAvs_ok hc
        have h4 : (List.take 5 (a :: l)).length = 5 := by have := congrArg List.length h3; simpa [Con.avs] using this
        have e : a :: l = (a :: l).take 5 ++ (a :: l).drop 5 := (List.take_append_drop 5 (a :: l)).symm
        refine ⟨?_, ?_⟩
        · rw [e, List.map_append, h3, h1, List.flatMap_cons]
        · rw [e, List.length_append, h4, h2, List.length_cons]; omega

theorem VsRel.tnt {γ : Gm} {vs : List AV} {Vs : List Value} (h : VsRel γ vs Vs) : VsRel γ (vs.map tnt) Vs := by
  induction vs generalizing Vs with
  | nil => cases h; exact .nil
  | cons v vs ih => cases h with | cons h t => exact .cons h.tnt (ih t)

theorem View.ones (V : View) (h : V.num ≠ 0 ∨ ∀ cs, V ≠ .plain cs) : (∀ cs, V ≠ .plain cs) → V.cells.all AV.one = true := by
  intro hp
  cases V with
  | plain cs => exact absurd rfl (hp cs)
  | con L =>
    simp only [View.cells, List.all_flatMap, List.all_eq_true]
    intro c _
    simp [Con.avs, AV.one]
  | ints k L => simp [View.cells, AV.one]

/- what the source is, in the model -/
structure SrcOk (P : Program) (γ : Gm) (w : World) (e z : Nat) (ts : Array TypeId) (X : Value) (n : Nat) (vs : List AV) : Prop where
  ex : ∃ zeros news, (srcZ ts).run P w = .ok zeros w ∧ (srcN e zeros X).run P w = .ok n w ∧ (∀ w', w'.heap = w.heap → (srcA z e zeros n X).run P w' = .ok news.toArray w') ∧ VsRel γ vs news ∧ news.length = n * z

theorem avl_rvs (c : Con) : RV.avl c.rvs = c.avs := rfl

section
variable {P : Program} {ti : Tr TypeInfo} (ht : TabOk P ti) {conT : Nat}

include ht in
theorem sSrc_ok {γ : Gm} {h : Tr Blk} {nx : Nat} {w : World} (hr : HRel γ h.get nx w) {e z t : Nat} (hz : szT ti e = some z) {x : AV} {X : Value} (hx : VRel γ x X) {n : Nat} {V : View} {ms : List Prop} (hq : sSrc ti conT h e z t x = some (n, V, ms)) (hm : ∀ p ∈ ms, p)
    {ts : Array TypeId} (ht1 : ts[1]? = some t) : SrcOk P γ w e z ts X n V.cells ∧ V.num = n ∧ ((∃ L, V = .con L ∧ z = 5) ∨ (∃ k L, V = .ints k L ∧ z = 1)) := by
  unfold sSrc at hq
  split at hq
  · rename_i n0 sz row
    split at hq
    · rename_i e' hd
      have hsz := (bif_some hq).1
      replace hq := (bif_some hq).2
      have hsz := beq_eq hsz
      subst hsz
      have hZ : (srcZ ts).run P w = .ok false w := by simp [srcZ, ht1, run_und ht hd]
      have key : ∀ (g : Nat → List AV), (∀ i, i < n0 → RV.avl (row i) = g i) → SrcOk P γ w e sz ts X n0 ((List.range n0).flatMap g) := by
        intro g hg
        cases hx with
        | ro hR =>
          cases hR with
          | sl0 _ _ a c hn =>
            subst hn
            refine ⟨false, [], hZ, by simp [srcN, Builtin.lenOf], fun w' _ => ?_, by simp; exact .nil, by simp⟩
            cases a <;> simp [srcA, Builtin.firstCells, loadCells, loadCellsFrom]
          | sl cs hc hl hf hrow =>
            rename_i B o c
            refine ⟨false, (List.range n0).flatMap cs, hZ, by simp [srcN, Builtin.lenOf], fun w' hw' => ?_, rows_rel n0 (fun i hi => by rw [← hg i hi]; exact RsRel.avl (hrow i hi)), rows_len n0 hl⟩
            simp only [srcA, Bool.not_false, if_true]
            refine run_firstCells_some (P := P) w' sz n0 _ _ _ _ (rows_len n0 hl) (fun j v hv => ?_)
            obtain ⟨i, j', h1, h2, h3⟩ := rows_at n0 hl j v hv
            have := (hf i j' v h1 h3).cell hr
            rw [addr_add, h2, ← Nat.add_assoc]
            simpa [World.cell?, hw'] using this
      cases hb : (Nat.beq e conT && Nat.beq sz 5) with
      | true =>
        rw [hb] at hq
        simp only [cond_true, Option.some.injEq, Prod.mk.injEq] at hq
        obtain ⟨rfl, rfl, rfl⟩ := hq
        have hrow := all_one hm
        refine ⟨?_, by simp [View.num, consR], .inl ⟨_, rfl, beq_eq (and_split hb).2⟩⟩
        have := key (fun i => (Con.ofR (row i)).avs) (fun i hi => by rw [← avl_rvs, ← hrow i hi])
        simpa [View.cells, consR, List.flatMap_map] using this
      | false =>
        rw [hb] at hq
        simp only [cond_false] at hq
        split at hq
        · cases hq
        · rename_i k hk
          obtain ⟨hz1, hq'⟩ := bif_some hq
          simp only [Option.some.injEq, Prod.mk.injEq] at hq'
          obtain ⟨rfl, rfl, rfl⟩ := hq'
          have hrow := all_one hm
          refine ⟨?_, by simp [View.num, intsR], .inr ⟨_, _, rfl, beq_eq hz1⟩⟩
          have := key (fun i => [.vint k (intR (row i))]) (fun i hi => by rw [hrow i hi]; rfl)
          have e2 : (List.range n0).flatMap (fun i => [AV.vint k (intR (row i))]) = (View.ints k (intsR n0 row)).cells := by
            simp [View.cells, intsR, List.flatMap_singleton']
            induction List.range n0 with
            | nil => rfl
            | cons a l ih => simp [List.flatMap_cons, ih]
          rwa [e2] at this
    · cases hq
  · split at hq
    · cases hq
    · rename_i n1 vs hsrc
      obtain ⟨zeros, news, c1, c2, c3, c4, c5⟩ := srcV_ok ht hr hz hx hsrc ht1
      have hvl := c4.length
      cases hb : (Nat.beq e conT && Nat.beq z 5) with
      | true =>
        rw [hb] at hq
        simp only [cond_true] at hq
        obtain ⟨hb1, hb2⟩ := and_split hb
        have hb2 := beq_eq hb2
        subst hb2
        split at hq
        · cases hq
        · rename_i L hL
          simp only [Option.some.injEq, Prod.mk.injEq] at hq
          obtain ⟨rfl, rfl, rfl⟩ := hq
          obtain ⟨h1, h2⟩ := consOf_ok hL
          refine ⟨⟨zeros, news, c1, c2, c3, ?_, c5⟩, ?_, .inl ⟨_, rfl, rfl⟩⟩
          · show VsRel γ (L.flatMap Con.avs) news
            rw [← h1]; exact c4.tnt
          · show L.length = n1
            omega
      | false =>
        rw [hb] at hq
        simp only [cond_false] at hq
        split at hq
        · cases hq
        · rename_i k hk
          obtain ⟨hz1, hq'⟩ := bif_some hq
          clear hq
          have hz1 := beq_eq hz1
          subst hz1
          split at hq'
          · cases hq'
          · rename_i L hL
            simp only [Option.some.injEq, Prod.mk.injEq] at hq'
            obtain ⟨rfl, rfl, rfl⟩ := hq'
            have h1 := intsOf_ok c4 hL
            refine ⟨⟨zeros, news, c1, c2, c3, ?_, c5⟩, ?_, .inr ⟨_, _, rfl, rfl⟩⟩
            · show VsRel γ (L.map (AV.vint k)) news
              rw [h1]
              clear hL h1
              induction L with
              | nil => exact .nil
              | cons a L ih => exact .cons (.vint _ _) ih
            · show L.length = n1
              have : news.length = L.length := by rw [h1]; simp
              omega

/- a list that was made here, with capacity that is not known -/
theorem appLo_ok {γ : Gm} {h h1 h' : Tr Blk} {nx : Nat} {w : World} (hr : HRel γ h.get nx w) {i : Nat} (hi : γ i = none) {nx' : Nat} (hi' : i < nx') (hn : nx ≤ nx') {t0 e z m n b B x : Nat} {inf : TypeInfo} {Z : Value} {k : Blk} {vs : List AV} {X : Value}
    {ts : Array TypeId} {args : Array Value} (ht0 : ts[0]? = some t0) (ha0 : args[0]? = some (.slice (some ⟨B, 0, none⟩) m (m + x))) (ha1 : args[1]? = some X) (hu : P.underlying t0 = some (.slice e)) (hinf : P.info? e = some inf) (hsz : inf.size = z) (hz0 : inf.zero = some Z) (hZ : Z.cells.size = z)
    (hsrc : SrcOk P γ w e z ts X n vs) (hone : vs.all AV.one = true) (hk : h.get b = some k) (hg : γ b = some (B, x)) (hown : k.own = true) (hksz : k.sz = z) (hkel : k.elem = e) (hlen : k.cells.length = m * z)
    (h63 : m + n ≤ 1000000000) (hby : (m + n) * inf.bytes ≤ 140737488355328) (hkill : h.set b none = some h1) (hset : h1.set i (some ⟨.plain (k.cells ++ vs), e, z, true, true⟩) = some h') :
    ∃ V γ' w', (append2 ts args).run P w = .ok V w' ∧ Stp γ h.get w γ' h'.get nx' w' ∧ VRel γ' (.lo i (m + n)) V ∧ ∀ j, j ≠ i → γ' j = γ j := by
  obtain ⟨zeros, news, c1, c2, c3, c4, c5⟩ := hsrc.ex
  have hget1 := get_set_upd hkill
  have hsub : ∀ b' k', h1.get b' = some k' → h.get b' = some k' := by
    intro b' k' hb'
    rw [hget1] at hb'
    by_cases e1 : b' = b
    · subst e1; rw [upd_same] at hb'; cases hb'
    · rw [upd_other _ _ e1] at hb'; exact hb'
  obtain ⟨B', x', cs, ex, p1, p2, p3, p4, p5⟩ := hr.blk b k hk
  rw [hg] at p1
  cases p1
  have hcl := p3.length
  have c3w := c3 w rfl
  have c3d := c3 w.drew rfl
  have tolo : ∀ {γ' : Gm} {V : Value}, VRel γ' (.slc i 0 (m + n) (m + n)) V → VRel γ' (.lo i (m + n)) V := by
    intro γ' V hV
    cases hV with
    | slc _ _ _ hg' => exact .lo _ hg'
  by_cases hroom : m + n ≤ m + x
  · have hfit : (m + n) * z ≤ (m + x) * z := Nat.mul_le_mul_right _ hroom
    have htot : (cs ++ ex).length = (m + x) * z := by rw [List.length_append, hcl, hlen, p4, hksz, Nat.add_mul]
    have hst := run_storeCells_at P B (m * z) k.elem news 0 (cs ++ ex).toArray w p2 (by
      simp only [List.size_toArray]
      rw [htot, c5, Nat.add_zero, ← Nat.add_mul]; exact hfit) (c4.ones hone)
    have hrun := run_append2_room (P := P) w ht0 ha0 ha1 hu hinf hsz c1 c2 c3w hroom
    simp only [addr_add, Nat.zero_add, hst, Result.andThen_ok] at hrun
    have hren := hr.rename hk hown hg i nx' hi hi' hn (vs := k.cells ++ vs) (Vs := cs ++ news) (ex := (cs ++ ex).drop ((m + n) * z)) (p3.append c4) (m + x - (m + n)) (by
      rw [List.length_drop, htot, hksz, ← Nat.sub_mul])
    refine ⟨_, γ.put i (some (B, m + x - (m + n))), _, hrun, ?_, ?_, fun j hj => Gm.put_other _ _ hj⟩
    · rw [get_set_upd hset, hget1]
      rw [hksz, hkel] at hren
      have e3 : (cs ++ ex).take (m * z + 0) ++ news ++ (cs ++ ex).drop (m * z + 0 + news.length) = (cs ++ news) ++ (cs ++ ex).drop ((m + n) * z) := by
        simp only [Nat.add_zero, c5, ← Nat.add_mul]
        rw [List.take_append_of_le_length (by omega), List.take_of_length_le (by omega)]
      rw [e3]
      exact hren
    · have hv : VRel (γ.put i (some (B, m + x - (m + n)))) (.lo i (m + n)) (.slice (some ⟨B, 0, none⟩) (m + n) ((m + n) + (m + x - (m + n)))) := .lo (m + n) (Gm.put_same _ _ _)
      rwa [show (m + n) + (m + x - (m + n)) = m + x by omega] at hv
  · obtain ⟨Vs, r1, r2, r3⟩ := hr.load hk hg 0 (m * z) (by omega)
    rw [List.drop_zero, List.take_of_length_le (by omega)] at r1
    have hO := run_firstCells_some (P := P) w.drew z m ⟨B, 0, none⟩ m (m + x) Vs r2 (fun j u hu => by simpa using r3 j u hu)
    obtain ⟨V, γ', w', g1, g2, g3, g4⟩ := grown_ok (P := P) hr hsub hi hi' hn ht0 ha0 ha1 hu hinf hsz hz0 hZ c1 c2 c3d hO (by omega) h63 hby r1 c4
    refine ⟨V, γ', w', g1, ?_, tolo g3, g4⟩
    rw [get_set_upd hset]
    exact g2

theorem app_cells {V W U : View} (h : V.app W = some U) : U.cells = V.cells ++ W.cells ∧ U.num = V.num + W.num := by
  unfold View.app at h
  split at h
  · cases h; exact ⟨by simp [View.cells], by simp [View.num]⟩
  · obtain ⟨hk, h'⟩ := bif_some h
    clear h
    have hk := of_decide_eq_true hk
    subst hk
    cases h'
    exact ⟨by simp [View.cells], by simp [View.num]⟩
  · cases h

theorem num_len {V : View} (h : ∀ cs, V ≠ .plain cs) : ∃ z, V.cells.length = V.num * z := by
  cases V with
  | plain cs => exact absurd rfl (h cs)
  | con L => exact ⟨5, flat_len L⟩
  | ints k L => exact ⟨1, by simp [View.cells, View.num]⟩

theorem put_view {γ γ' : Gm} {f : Hf} {h1 h2 : Tr Blk} {nx : Nat} {w w' : World} {i : Nat} {V : View} {cells : List AV} {e z : Nat} (hs : h1.set i (some ⟨V, e, z, true, true⟩) = some h2) (hc : V.cells = cells)
    (h : Stp γ f w γ' (upd h1.get i (some ⟨.plain cells, e, z, true, true⟩)) nx w') : Stp γ f w γ' h2.get nx w' := by
  rw [get_set_upd hs]
  refine h.view (fun cs hcs => ?_) rfl rfl rfl rfl rfl
  show VsRel γ' V.cells cs
  rw [hc]; exact hcs

include ht in
theorem sApp_ok {γ : Gm} {H H' : Hs} {w : World} (hr : HRel γ H.m.get H.nx w) {t0 t1 : Nat} {s x v : AV} {S X : Value} (hs : VRel γ s S) (hx : VRel γ x X)
    (hq : sApp ti conT t0 t1 s x H = some (v, H')) (hm : ∀ p ∈ H'.ms, p) {ts : Array TypeId} {args : Array Value} (ty : TypeId) (ht0 : ts[0]? = some t0) (ht1 : ts[1]? = some t1) (ha0 : args[0]? = some S) (ha1 : args[1]? = some X) :
    ∃ V γ' w', (Builtin.append_ ts ty args).run P w = .ok V w' ∧ Stp γ H.m.get w γ' H'.m.get H'.nx w' ∧ VRel γ' v V ∧ (∀ j, j ≠ H.nx → γ' j = γ j) ∧ H'.nx = H.nx + 1 := by
  rw [append2_eq]
  unfold sApp at hq
  split at hq
  case h_2 => cases hq
  rename_i e hd
  have hu : P.underlying t0 = some (.slice e) := und_ok ht hd
  split at hq
  case h_2 => cases hq
  rename_i z by_ zs hz hby hzs
  obtain ⟨inf, Z, g1, g2, g3⟩ := zeroA_ok (P := P) (γ := γ) ht hzs
  obtain ⟨inf', q1, q2⟩ := info_of_szT ht hz
  rw [g1] at q1
  cases q1
  have hbytes : inf.bytes = by_ := bytes_ok ht hby g1
  cases hzl : (!(Nat.beq zs.length z && Nat.ble by_ 1000)) with
  | true => rw [hzl] at hq; cases hq
  | false =>
    rw [hzl] at hq
    simp only [cond_false] at hq
    have hzl' : (Nat.beq zs.length z && Nat.ble by_ 1000) = true := by simpa using hzl
    obtain ⟨hz1, hb1⟩ := and_split hzl'
    have hz1 := beq_eq hz1
    have hb1 := Nat.le_of_ble_eq_true hb1
    have hZ : Z.cells.size = z := by have := g3.length; simp at this; omega
    split at hq
    · cases hq
    rename_i n V ms hsrc
    have bytesOk : ∀ m, m ≤ 1000000 → m * inf.bytes ≤ 140737488355328 := by
      intro m hm'
      rw [hbytes]
      have : m * by_ ≤ 1000000 * 1000 := Nat.mul_le_mul hm' hb1
      omega
    -- a new block
    have fresh : ∀ (H1 : Hs) (base : Option Addr), H1.m = H.m → H1.nx = H.nx → S = .slice base 0 0 →
        (match H1.m.set H1.nx (some ⟨V, e, z, true, true⟩) with
          | none => none
          | some m => some (AV.lo H1.nx n, ({ H1 with m := m, nx := H1.nx + 1, ms := (0 < n ∧ n ≤ 1000000) :: (ms ++ H1.ms) } : Hs))) = some (v, H') →
        ∃ V γ' w', (append2 ts args).run P w = .ok V w' ∧ Stp γ H.m.get w γ' H'.m.get H'.nx w' ∧ VRel γ' v V ∧ (∀ j, j ≠ H.nx → γ' j = γ j) ∧ H'.nx = H.nx + 1 := by
      intro H1 base e1 e2 hS hf
      split at hf
      · cases hf
      · rename_i m hset
        cases hf
        obtain ⟨h0, hle⟩ := hm (0 < n ∧ n ≤ 1000000) (by simp)
        obtain ⟨so, _, hnp⟩ := sSrc_ok ht hr hz hx hsrc (fun p hp => hm p (by simp [hp])) ht1
        obtain ⟨zeros, news, c1, c2, c3, c4, c5⟩ := so.ex
        have hO : (Builtin.firstCells z 0 (.slice base 0 0)).run P w.drew = .ok ([] : List Value).toArray w.drew := by cases base <;> simp [Builtin.firstCells, loadCells, loadCellsFrom]
        obtain ⟨W, γ', w', r1, r2, r3, r4⟩ := grown_ok (P := P) (olds := []) (Olds := []) hr (f1 := H.m.get) (fun _ _ h => h) (i := H.nx) (nx' := H.nx + 1) (hr.fresh _ (Nat.le_refl _)) (by omega) (by omega) ht0 (by rw [ha0, hS]) ha1 hu g1 q2 g2 hZ c1 c2 (c3 w.drew rfl) hO (by omega) (by omega) (bytesOk _ (by omega)) .nil c4
        rw [e1, e2] at hset
        refine ⟨W, γ', w', r1, ?_, ?_, r4, by rw [e2]⟩
        · show Stp γ H.m.get w γ' m.get (H1.nx + 1) w'
          rw [e2]
          exact put_view hset (by simp) r2
        · rw [e2]
          rw [Nat.zero_add] at r3
          cases r3 with
          | slc _ _ _ hg' => exact .lo _ hg'
    -- nothing is appended
    have still : ∀ (H1 : Hs) (base : Option Addr), H1.m = H.m → H1.nx = H.nx → S = .slice base 0 0 → VRel γ v (.slice base 0 0) → (Nat.beq n 0 = true) → (∀ p ∈ ms, p) → ({ H1 with nx := H1.nx + 1, ms := ms ++ H1.ms } : Hs) = H' →
        ∃ V γ' w', (append2 ts args).run P w = .ok V w' ∧ Stp γ H.m.get w γ' H'.m.get H'.nx w' ∧ VRel γ' v V ∧ (∀ j, j ≠ H.nx → γ' j = γ j) ∧ H'.nx = H.nx + 1 := by
      intro H1 base e1 e2 hS hv hn hms hH
      subst hH
      have hn := beq_eq hn
      subst hn
      obtain ⟨so, _, hnp⟩ := sSrc_ok ht hr hz hx hsrc hms ht1
      obtain ⟨zeros, news, c1, c2, c3, c4, c5⟩ := so.ex
      have hnews : news = [] := List.eq_nil_of_length_eq_zero (by simpa using c5)
      subst hnews
      have hrun := run_append2_room (P := P) w ht0 (by rw [ha0, hS]) ha1 hu g1 q2 c1 c2 (c3 w rfl) (sLen := 0) (sCap := 0) (base := base) (by omega)
      refine ⟨.slice base 0 0, γ, w, ?_, ?_, hv, fun _ _ => rfl, by rw [e2]⟩
      · rw [hrun]
        cases base <;> simp [storeCells]
      · show Stp γ H.m.get w γ H1.m.get (H1.nx + 1) w
        rw [e1, e2]
        exact Stp.refl (hr.nx_mono (by omega))
    have asked : ∀ (base : Option Addr) (u : AV), S = .slice base 0 0 → VRel γ u (.slice base 0 0) →
        (bif isRo x then
            (match H.ask (Nat.beq n 0) with
            | (true, H1) => some (u, ({ H1 with nx := H1.nx + 1, ms := ms ++ H1.ms } : Hs))
            | (false, H1) => (match H1.m.set H1.nx (some ⟨V, e, z, true, true⟩) with
              | none => none
              | some m => some (AV.lo H1.nx n, ({ H1 with m := m, nx := H1.nx + 1, ms := (0 < n ∧ n ≤ 1000000) :: (ms ++ H1.ms) } : Hs))))
          else (match H.m.set H.nx (some ⟨V, e, z, true, true⟩) with
              | none => none
              | some m => some (AV.lo H.nx n, ({ H with m := m, nx := H.nx + 1, ms := (0 < n ∧ n ≤ 1000000) :: (ms ++ H.ms) } : Hs)))) = some (v, H') →
        ∃ V γ' w', (append2 ts args).run P w = .ok V w' ∧ Stp γ H.m.get w γ' H'.m.get H'.nx w' ∧ VRel γ' v V ∧ (∀ j, j ≠ H.nx → γ' j = γ j) ∧ H'.nx = H.nx + 1 := by
      intro base u hS hu' hh
      cases hro : isRo x with
      | false =>
        rw [hro] at hh
        exact fresh H base rfl rfl hS hh
      | true =>
        rw [hro] at hh
        simp only [cond_true] at hh
        have am := ask_m H (Nat.beq n 0)
        have an := ask_nx H (Nat.beq n 0)
        have ak := ask_ms H (Nat.beq n 0)
        generalize hak : H.ask (Nat.beq n 0) = r at hh am an ak
        obtain ⟨d, H1⟩ := r
        cases d with
        | true =>
          simp only [Option.some.injEq, Prod.mk.injEq] at hh
          obtain ⟨rfl, hH⟩ := hh
          refine still H1 base am an hS hu' ?_ (fun p hp => hm p (by rw [← hH]; simp [hp])) hH
          exact hm (Dec (Nat.beq n 0) true) (by rw [← hH]; exact List.mem_append_right _ (by rw [show H1.ms = _ from ak]; exact List.mem_cons_self))
        | false => exact fresh H1 base am an hS hh
    split at hq
    · rename_i b c
      split at hq
      · cases hq
      · rename_i k hk
        split at hq
        · cases hq
        · rename_i V' happ
          have hb := (bif_some hq).1
          replace hq := (bif_some hq).2
          simp only [Bool.and_eq_true] at hb
          obtain ⟨⟨⟨d1, d2⟩, d3⟩, d4⟩ := hb
          split at hq
          · cases hq
          · rename_i m1 hkill
            split at hq
            · cases hq
            · rename_i m hset
              cases hq
              obtain ⟨hnum, hle⟩ := hm (k.view.num = c ∧ c + n ≤ 1000000) (by simp)
              obtain ⟨so, hVn, hVz⟩ := sSrc_ok ht hr hz hx hsrc (fun p hp => hm p (by simp [hp])) ht1
              have hnp : ∀ cs, V ≠ .plain cs := by rcases hVz with ⟨L, rfl, _⟩ | ⟨k, L, rfl, _⟩ <;> simp
              obtain ⟨ac, an⟩ := app_cells happ
              cases hs with
              | lo _ hg =>
                rename_i B xx
                have hkz := beq_eq d3
                have hke := beq_eq d4
                have hlen : k.cells.length = c * z := by
                  have hzz : k.view.cells.length = k.view.num * z := by
                    rcases hVz with ⟨L, rfl, rfl⟩ | ⟨k2, L, rfl, rfl⟩
                    · cases hkv : k.view with
                      | con M => exact flat_len M
                      | plain M => rw [hkv] at happ; cases happ
                      | ints k3 M => rw [hkv] at happ; cases happ
                    · cases hkv : k.view with
                      | con M => rw [hkv] at happ; cases happ
                      | plain M => rw [hkv] at happ; cases happ
                      | ints k3 M => simp [View.cells, View.num]
                  rw [← hnum]; exact hzz
                have hone : V.cells.all AV.one = true := V.ones (.inr hnp) hnp
                have hset' : ∃ m2, m1.set H.nx (some ⟨.plain (k.cells ++ V.cells), e, z, true, true⟩) = some m2 := by
                  unfold Tr.set at hset ⊢
                  obtain ⟨hb2, _⟩ := bif_some hset
                  rw [hb2]
                  exact ⟨_, rfl⟩
                obtain ⟨m2, hset2⟩ := hset'
                obtain ⟨W, γ', w', r1, r2, r3, r4⟩ := appLo_ok (P := P) hr (i := H.nx) (hr.fresh _ (Nat.le_refl _)) (nx' := H.nx + 1) (by omega) (by omega) ht0 ha0 ha1 hu g1 q2 g2 hZ so hone hk hg d2 hkz hke hlen (by omega) (bytesOk _ hle) hkill hset2
                refine ⟨W, γ', w', r1, ?_, r3, r4, rfl⟩
                rw [get_set_upd hset2] at r2
                exact put_view hset ac r2
    · cases hs
      exact asked none _ rfl .nils hq
    · cases hs
      exact asked _ _ rfl (.z0 _) hq
    · cases hq
end
end Go.QfSy
