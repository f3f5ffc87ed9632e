/- A part of the proof of the laws: ZW, ZW2, ZJ, ZK, ZL, ZM, ZN, ZO. -/
import Derived.Test.YtgdhgnhgmbkpdaaGreatDoorPkIM1
import Derived.Scope
import Derived.Below
set_option linter.unusedSimpArgs false
set_option linter.unusedVariables false
set_option maxRecDepth 100000
namespace Go.QfSy
def Dec (b d : Bool) : Prop := b = d
def Hs.ask (H : Hs) (b : Bool) : Bool × Hs := match H.tp with
  | [] => (true, { H with ms := Dec b true :: H.ms })
  | d :: tp => (d, { H with tp := tp, ms := Dec b d :: H.ms })
def Hs.must (H : Hs) (ms : List Prop) : Hs := { H with ms := ms ++ H.ms }
theorem ask_m (H : Hs) (b : Bool) : (H.ask b).2.m = H.m := by unfold Hs.ask; split <;> rfl
theorem ask_nx (H : Hs) (b : Bool) : (H.ask b).2.nx = H.nx := by unfold Hs.ask; split <;> rfl
theorem ask_ms (H : Hs) (b : Bool) : (H.ask b).2.ms = Dec b (H.ask b).1 :: H.ms := by unfold Hs.ask; split <;> rfl
def Con.ofR : List RV → Con
  | [.int _ x, .int _ n, .int _ s, .bool o, .int _ t] => ⟨x, n, s, o, t⟩
  | _ => Con.zero
def consR (n : Nat) (row : Nat → List RV) : List Con := (List.range n).map fun i => Con.ofR (row i)
def intR : List RV → Int
  | [.int _ x] => x
  | _ => 0
def intsR (n : Nat) (row : Nat → List RV) : List Int := (List.range n).map fun i => intR (row i)
def consOf : Nat → List AV → Option (List Con)
  | _, [] => some []
  | 0, _ => none
  | f + 1, l => match Con.ofAvs (l.take 5) with
    | none => none
    | some c => match consOf f (l.drop 5) with
      | none => none
      | some L => some (c :: L)
def bytesI (s : ByteArray) : List Int := s.data.toList.map fun b => (b.toNat : Int)
theorem bytesI_len (s : ByteArray) : (bytesI s).length = s.size := by unfold bytesI; rw [List.length_map, Array.length_toList]; rfl
def sSrc (ti : Tr TypeInfo) (conT : Nat) (h : Tr Blk) (e z t : Nat) (x : AV) : Option (Nat × View × List Prop) :=
  match x with
  | .ro n sz row => match und ti t with
    | some (.slice _) => bif Nat.beq sz z then
        (bif Nat.beq e conT && Nat.beq z 5 then some (n, .con (consR n row), [∀ i, i < n → row i = (Con.ofR (row i)).rvs])
        else match intT ti e with
          | none => none
          | some k => bif Nat.beq z 1 then some (n, .ints k (intsR n row), [∀ i, i < n → row i = [.int k (intR (row i))]]) else none)
        else none
    | _ => none
  | .vstr s => match und ti t with
    | some .string => bif Nat.beq z 1 then some (s.size, .ints .u8 (bytesI s), []) else none
    | _ => none
  | _ => match srcV ti h e z t x with
    | none => none
    | some (n, vs) =>
      bif Nat.beq e conT && Nat.beq z 5 then
        (match consOf (n + 1) vs with
        | none => none
        | some L => some (n, .con L, []))
      else match intT ti e with
        | none => none
        | some k => bif Nat.beq z 1 then (match intsOf k vs with
          | none => none
          | some L => some (n, .ints k L, [])) else none
def View.app : View → View → Option View
  | .con L, .con M => some (.con (L ++ M))
  | .ints k L, .ints k' M => bif decide (k = k') then some (.ints k (L ++ M)) else none
  | _, _ => none
def View.num : View → Nat
  | .con L => L.length
  | .ints _ L => L.length
  | .rows _ L _ _ => L.length + 1
  | .plain _ => 0
def isRo : AV → Bool
  | .ro _ _ _ => true
  | _ => false
def sApp (ti : Tr TypeInfo) (conT : Nat) (t0 t1 : Nat) (s x : AV) (H : Hs) : Option (AV × Hs) :=
  match und ti t0 with
  | some (.slice e) => match szT ti e, bytesT ti e, zeroA ti e with
    | some z, some by_, some zs => bif !(Nat.beq zs.length z && Nat.ble by_ 1000) then none else
      match sSrc ti conT H.m e z t1 x with
      | none => none
      | some (n, V, ms) =>
        let fresh (H : Hs) : Option (AV × Hs) :=
          match H.m.set H.nx (some ⟨V, e, z, true, true⟩) with
          | none => none
          | some m => some (.lo H.nx n, { H with m := m, nx := H.nx + 1, ms := (0 < n ∧ n ≤ 1000000) :: (ms ++ H.ms) })
        match s with
        | .lo b c => match H.m.get b with
          | none => none
          | some k => match k.view.app V with
            | none => none
            | some V' => bif k.opn && k.own && Nat.beq k.sz z && Nat.beq k.elem e then
              (match H.m.set b none with
              | none => none
              | some m1 => match m1.set H.nx (some ⟨V', e, z, true, true⟩) with
                | none => none
                | some m => some (.lo H.nx (c + n), { H with m := m, nx := H.nx + 1, ms := (k.view.num = c ∧ c + n ≤ 1000000) :: (ms ++ H.ms) })) else none
        | .nils => bif isRo x then
            (match H.ask (Nat.beq n 0) with
            | (true, H1) => some (.nils, { H1 with nx := H1.nx + 1, ms := ms ++ H1.ms })
            | (false, H1) => fresh H1)
          else fresh H
        | .z0 => bif isRo x then
            (match H.ask (Nat.beq n 0) with
            | (true, H1) => some (.z0, { H1 with nx := H1.nx + 1, ms := ms ++ H1.ms })
            | (false, H1) => fresh H1)
          else fresh H
        | _ => none
    | _, _, _ => none
  | _ => none
theorem rows_at {z : Nat} {cs : Nat → List Value} : ∀ (n : Nat), (∀ i, i < n → (cs i).length = z) → ∀ (p : Nat) (v : Value), ((List.range n).flatMap cs)[p]? = some v → ∃ i j, i < n ∧ p = i * z + j ∧ (cs i)[j]? = some v
  | 0, _, p, v, h => by simp at h
  | n + 1, hl, p, v, h => by
    rw [List.range_succ, List.flatMap_append] at h
    have hlen : ((List.range n).flatMap cs).length = n * z := by
      clear h
      have hl' : ∀ i, i < n → (cs i).length = z := fun i hi => hl i (by omega)
      clear hl
      induction n with
      | zero => simp
      | succ n ih =>
        rw [List.range_succ, List.flatMap_append, List.length_append, ih (fun i hi => hl' i (by omega))]
        simp only [List.flatMap_cons, List.flatMap_nil, List.append_nil]
        rw [hl' n (by omega), Nat.add_mul]; omega
    by_cases hp : p < n * z
    · rw [List.getElem?_append_left (by omega)] at h
      obtain ⟨i, j, h1, h2, h3⟩ := rows_at n (fun i hi => hl i (by omega)) p v h
      exact ⟨i, j, by omega, h2, h3⟩
    · rw [List.getElem?_append_right (by omega), hlen] at h
      simp only [List.flatMap_cons, List.flatMap_nil, List.append_nil] at h
      exact ⟨n, p - n * z, by omega, by omega, h⟩
theorem rows_len {z : Nat} {cs : Nat → List Value} (n : Nat) (hl : ∀ i, i < n → (cs i).length = z) : ((List.range n).flatMap cs).length = n * z := by
  induction n with
  | zero => simp
  | succ n ih =>
    rw [List.range_succ, List.flatMap_append, List.length_append, ih (fun i hi => hl i (by omega))]
    simp only [List.flatMap_cons, List.flatMap_nil, List.append_nil]
    rw [hl n (by omega), Nat.add_mul]; omega
theorem rows_rel {γ : Gm} {g : Nat → List AV} {cs : Nat → List Value} : ∀ (n : Nat), (∀ i, i < n → VsRel γ (g i) (cs i)) → VsRel γ ((List.range n).flatMap g) ((List.range n).flatMap cs)
  | 0, _ => by simp; exact .nil
  | n + 1, h => by
    rw [List.range_succ, List.flatMap_append, List.flatMap_append]
    refine VsRel.append (rows_rel n (fun i hi => h i (by omega))) ?_
    simpa using h n (by omega)
theorem consOf_ok : ∀ {f : Nat} {l : List AV} {L : List Con}, consOf f l = some L → l.map tnt = L.flatMap Con.avs ∧ l.length = L.length * 5
  | f, [], L, h => by cases f <;> (simp [consOf] at h; subst h; exact ⟨rfl, rfl⟩)
  | 0, _ :: _, L, h => by simp [consOf] at h
  | f + 1, a :: l, L, h => by
    simp only [consOf] at h
    split at h
    · cases h
    · rename_i c hc
      split at h
      · cases h
      · rename_i L' hL
        cases h
        obtain ⟨h1, h2⟩ := consOf_ok hL
        have h3 := Con.ofAvs_ok hc
        have h4 : (List.take 5 (a :: l)).length = 5 := by have := congrArg List.length h3; simpa [Con.avs] using this
        have e : a :: l = (a :: l).take 5 ++ (a :: l).drop 5 := (List.take_append_drop 5 (a :: l)).symm
        refine ⟨?_, ?_⟩
        · rw [e, List.map_append, h3, h1, List.flatMap_cons]
        · rw [e, List.length_append, h4, h2, List.length_cons]; omega
theorem VsRel.tnt {γ : Gm} {vs : List AV} {Vs : List Value} (h : VsRel γ vs Vs) : VsRel γ (vs.map tnt) Vs := by
  induction vs generalizing Vs with
  | nil => cases h; exact .nil
  | cons v vs ih => cases h with | cons h t => exact .cons h.tnt (ih t)
theorem View.ones (V : View) (h : V.num ≠ 0 ∨ ∀ cs, V ≠ .plain cs) : (∀ cs, V ≠ .plain cs) → V.cells.all AV.one = true := by
  intro hp
  cases V with
  | plain cs => exact absurd rfl (hp cs)
  | con L =>
    simp only [View.cells, List.all_flatMap, List.all_eq_true]
    intro c _
    simp [Con.avs, AV.one]
  | ints k L => simp [View.cells, AV.one]
  | rows k L b n => simp [View.cells, AV.one, roI]
structure SrcOk (P : Program) (γ : Gm) (w : World) (e z : Nat) (ts : Array TypeId) (X : Value) (n : Nat) (vs : List AV) : Prop where
  ex : ∃ zeros news, (srcZ ts).run P w = .ok zeros w ∧ (srcN e zeros X).run P w = .ok n w ∧ (∀ w', w'.heap = w.heap → (srcA z e zeros n X).run P w' = .ok news.toArray w') ∧ VsRel γ vs news ∧ news.length = n * z
theorem avl_rvs (c : Con) : RV.avl c.rvs = c.avs := rfl
section
variable {P : Program} {ti : Tr TypeInfo} (ht : TabOk P ti) {conT : Nat}
include ht in
theorem sSrc_ok {γ : Gm} {h : Tr Blk} {nx : Nat} {w : World} (hr : HRel γ h.get nx w) {e z t : Nat} (hz : szT ti e = some z) {x : AV} {X : Value} (hx : VRel γ x X) {n : Nat} {V : View} {ms : List Prop} (hq : sSrc ti conT h e z t x = some (n, V, ms)) (hm : ∀ p ∈ ms, p)
    {ts : Array TypeId} (ht1 : ts[1]? = some t) : SrcOk P γ w e z ts X n V.cells ∧ V.num = n ∧ ((∃ L, V = .con L ∧ z = 5) ∨ (∃ k L, V = .ints k L ∧ z = 1)) := by
  unfold sSrc at hq
  split at hq
  · rename_i n0 sz row
    split at hq
    · rename_i e' hd
      have hsz := (bif_some hq).1
      replace hq := (bif_some hq).2
      have hsz := beq_eq hsz
      subst hsz
      have hZ : (srcZ ts).run P w = .ok false w := by simp [srcZ, ht1, run_und ht hd]
      have key : ∀ (g : Nat → List AV), (∀ i, i < n0 → RV.avl (row i) = g i) → SrcOk P γ w e sz ts X n0 ((List.range n0).flatMap g) := by
        intro g hg
        cases hx with
        | ro hR =>
          cases hR with
          | sl0 _ _ a c hn =>
            subst hn
            refine ⟨false, [], hZ, by simp [srcN, Builtin.lenOf], fun w' _ => ?_, by simp; exact .nil, by simp⟩
            cases a <;> simp [srcA, Builtin.firstCells, loadCells, loadCellsFrom]
          | sl cs hc hl hf hrow =>
            rename_i B o c
            refine ⟨false, (List.range n0).flatMap cs, hZ, by simp [srcN, Builtin.lenOf], fun w' hw' => ?_, rows_rel n0 (fun i hi => by rw [← hg i hi]; exact RsRel.avl (hrow i hi)), rows_len n0 hl⟩
            simp only [srcA, Bool.not_false, if_true]
            refine run_firstCells_some (P := P) w' sz n0 _ _ _ _ (rows_len n0 hl) (fun j v hv => ?_)
            obtain ⟨i, j', h1, h2, h3⟩ := rows_at n0 hl j v hv
            have := (hf i j' v h1 h3).cell hr
            rw [addr_add, h2, ← Nat.add_assoc]
            simpa [World.cell?, hw'] using this
      cases hb : (Nat.beq e conT && Nat.beq sz 5) with
      | true =>
        rw [hb] at hq
        simp only [cond_true, Option.some.injEq, Prod.mk.injEq] at hq
        obtain ⟨rfl, rfl, rfl⟩ := hq
        have hrow := all_one hm
        refine ⟨?_, by simp [View.num, consR], .inl ⟨_, rfl, beq_eq (and_split hb).2⟩⟩
        have := key (fun i => (Con.ofR (row i)).avs) (fun i hi => by rw [← avl_rvs, ← hrow i hi])
        simpa [View.cells, consR, List.flatMap_map] using this
      | false =>
        rw [hb] at hq
        simp only [cond_false] at hq
        split at hq
        · cases hq
        · rename_i k hk
          obtain ⟨hz1, hq'⟩ := bif_some hq
          simp only [Option.some.injEq, Prod.mk.injEq] at hq'
          obtain ⟨rfl, rfl, rfl⟩ := hq'
          have hrow := all_one hm
          refine ⟨?_, by simp [View.num, intsR], .inr ⟨_, _, rfl, beq_eq hz1⟩⟩
          have := key (fun i => [.vint k (intR (row i))]) (fun i hi => by rw [hrow i hi]; rfl)
          have e2 : (List.range n0).flatMap (fun i => [AV.vint k (intR (row i))]) = (View.ints k (intsR n0 row)).cells := by
            simp [View.cells, intsR, List.flatMap_singleton']
            induction List.range n0 with
            | nil => rfl
            | cons a l ih => simp [List.flatMap_cons, ih]
          rwa [e2] at this
    · cases hq
  · rename_i s
    split at hq
    · rename_i hd
      obtain ⟨hz1, hq'⟩ := bif_some hq
      simp only [Option.some.injEq, Prod.mk.injEq] at hq'
      obtain ⟨rfl, rfl, rfl⟩ := hq'
      have hsv : srcV ti h e z t (.str s) = some (s.size, s.data.toList.map fun b => AV.int .u8 b.toNat) := by unfold srcV; rw [hd]; simp only; rw [hz1]; rfl
      obtain ⟨zeros, news, c1, c2, c3, c4, c5⟩ := srcV_ok ht hr hz hx.clr hsv ht1
      refine ⟨⟨zeros, news, c1, c2, c3, ?_, c5⟩, bytesI_len s, .inr ⟨_, _, rfl, beq_eq hz1⟩⟩
      have := c4.tnt
      show VsRel γ ((bytesI s).map (AV.vint .u8)) news
      unfold bytesI
      rw [List.map_map] at this ⊢
      exact this
    · cases hq
  · split at hq
    · cases hq
    · rename_i n1 vs hsrc
      obtain ⟨zeros, news, c1, c2, c3, c4, c5⟩ := srcV_ok ht hr hz hx hsrc ht1
      have hvl := c4.length
      cases hb : (Nat.beq e conT && Nat.beq z 5) with
      | true =>
        rw [hb] at hq
        simp only [cond_true] at hq
        obtain ⟨hb1, hb2⟩ := and_split hb
        have hb2 := beq_eq hb2
        subst hb2
        split at hq
        · cases hq
        · rename_i L hL
          simp only [Option.some.injEq, Prod.mk.injEq] at hq
          obtain ⟨rfl, rfl, rfl⟩ := hq
          obtain ⟨h1, h2⟩ := consOf_ok hL
          refine ⟨⟨zeros, news, c1, c2, c3, ?_, c5⟩, ?_, .inl ⟨_, rfl, rfl⟩⟩
          · show VsRel γ (L.flatMap Con.avs) news
            rw [← h1]; exact c4.tnt
          · show L.length = n1
            omega
      | false =>
        rw [hb] at hq
        simp only [cond_false] at hq
        split at hq
        · cases hq
        · rename_i k hk
          obtain ⟨hz1, hq'⟩ := bif_some hq
          clear hq
          have hz1 := beq_eq hz1
          subst hz1
          split at hq'
          · cases hq'
          · rename_i L hL
            simp only [Option.some.injEq, Prod.mk.injEq] at hq'
            obtain ⟨rfl, rfl, rfl⟩ := hq'
            have h1 := intsOf_ok c4 hL
            refine ⟨⟨zeros, news, c1, c2, c3, ?_, c5⟩, ?_, .inr ⟨_, _, rfl, rfl⟩⟩
            · show VsRel γ (L.map (AV.vint k)) news
              rw [h1]
              clear hL h1
              induction L with
              | nil => exact .nil
              | cons a L ih => exact .cons (.vint _ _) ih
            · show L.length = n1
              have : news.length = L.length := by rw [h1]; simp
              omega
theorem appLo_ok {γ : Gm} {h h1 h' : Tr Blk} {nx : Nat} {w : World} (hr : HRel γ h.get nx w) {i : Nat} (hi : γ i = none) {nx' : Nat} (hi' : i < nx') (hn : nx ≤ nx') {t0 e z m n b B x : Nat} {inf : TypeInfo} {Z : Value} {k : Blk} {vs : List AV} {X : Value}
    {ts : Array TypeId} {args : Array Value} (ht0 : ts[0]? = some t0) (ha0 : args[0]? = some (.slice (some ⟨B, 0, none⟩) m (m + x))) (ha1 : args[1]? = some X) (hu : P.underlying t0 = some (.slice e)) (hinf : P.info? e = some inf) (hsz : inf.size = z) (hz0 : inf.zero = some Z) (hZ : Z.cells.size = z)
    (hsrc : SrcOk P γ w e z ts X n vs) (hone : vs.all AV.one = true) (hk : h.get b = some k) (hg : γ b = some (B, x)) (hown : k.own = true) (hksz : k.sz = z) (hkel : k.elem = e) (hlen : k.cells.length = m * z)
    (h63 : m + n ≤ 1000000000) (hby : (m + n) * inf.bytes ≤ 140737488355328) (hkill : h.set b none = some h1) (hset : h1.set i (some ⟨.plain (k.cells ++ vs), e, z, true, true⟩) = some h') :
    ∃ V γ' w', (append2 ts args).run P w = .ok V w' ∧ Stp γ h.get w γ' h'.get nx' w' ∧ VRel γ' (.lo i (m + n)) V ∧ ∀ j, j ≠ i → γ' j = γ j := by
  obtain ⟨zeros, news, c1, c2, c3, c4, c5⟩ := hsrc.ex
  have hget1 := get_set_upd hkill
  have hsub : ∀ b' k', h1.get b' = some k' → h.get b' = some k' := by
    intro b' k' hb'
    rw [hget1] at hb'
    by_cases e1 : b' = b
    · subst e1; rw [upd_same] at hb'; cases hb'
    · rw [upd_other _ _ e1] at hb'; exact hb'
  obtain ⟨B', x', cs, ex, p1, p2, p3, p4, p5⟩ := hr.blk b k hk
  rw [hg] at p1
  cases p1
  have hcl := p3.length
  have c3w := c3 w rfl
  have c3d := c3 w.drew rfl
  have tolo : ∀ {γ' : Gm} {V : Value}, VRel γ' (.slc i 0 (m + n) (m + n)) V → VRel γ' (.lo i (m + n)) V := by
    intro γ' V hV
    cases hV with
    | slc _ _ _ hg' => exact .lo _ hg'
  by_cases hroom : m + n ≤ m + x
  · have hfit : (m + n) * z ≤ (m + x) * z := Nat.mul_le_mul_right _ hroom
    have htot : (cs ++ ex).length = (m + x) * z := by rw [List.length_append, hcl, hlen, p4, hksz, Nat.add_mul]
    have hst := run_storeCells_at P B (m * z) k.elem news 0 (cs ++ ex).toArray w p2 (by
      simp only [List.size_toArray]
      rw [htot, c5, Nat.add_zero, ← Nat.add_mul]; exact hfit) (c4.ones hone)
    have hrun := run_append2_room (P := P) w ht0 ha0 ha1 hu hinf hsz c1 c2 c3w hroom
    simp only [addr_add, Nat.zero_add, hst, Result.andThen_ok] at hrun
    have hren := hr.rename hk hown hg i nx' hi hi' hn (vs := k.cells ++ vs) (Vs := cs ++ news) (ex := (cs ++ ex).drop ((m + n) * z)) (p3.append c4) (m + x - (m + n)) (by
      rw [List.length_drop, htot, hksz, ← Nat.sub_mul])
    refine ⟨_, γ.put i (some (B, m + x - (m + n))), _, hrun, ?_, ?_, fun j hj => Gm.put_other _ _ hj⟩
    · rw [get_set_upd hset, hget1]
      rw [hksz, hkel] at hren
      have e3 : (cs ++ ex).take (m * z + 0) ++ news ++ (cs ++ ex).drop (m * z + 0 + news.length) = (cs ++ news) ++ (cs ++ ex).drop ((m + n) * z) := by
        simp only [Nat.add_zero, c5, ← Nat.add_mul]
        rw [List.take_append_of_le_length (by omega), List.take_of_length_le (by omega)]
      rw [e3]
      exact hren
    · have hv : VRel (γ.put i (some (B, m + x - (m + n)))) (.lo i (m + n)) (.slice (some ⟨B, 0, none⟩) (m + n) ((m + n) + (m + x - (m + n)))) := .lo (m + n) (Gm.put_same _ _ _)
      rwa [show (m + n) + (m + x - (m + n)) = m + x by omega] at hv
  · obtain ⟨Vs, r1, r2, r3⟩ := hr.load hk hg 0 (m * z) (by omega)
    rw [List.drop_zero, List.take_of_length_le (by omega)] at r1
    have hO := run_firstCells_some (P := P) w.drew z m ⟨B, 0, none⟩ m (m + x) Vs r2 (fun j u hu => by simpa using r3 j u hu)
    obtain ⟨V, γ', w', g1, g2, g3, g4⟩ := grown_ok (P := P) hr hsub hi hi' hn ht0 ha0 ha1 hu hinf hsz hz0 hZ c1 c2 c3d hO (by omega) h63 hby r1 c4
    refine ⟨V, γ', w', g1, ?_, tolo g3, g4⟩
    rw [get_set_upd hset]
    exact g2
theorem app_cells {V W U : View} (h : V.app W = some U) : U.cells = V.cells ++ W.cells ∧ U.num = V.num + W.num := by
  unfold View.app at h
  split at h
  · cases h; exact ⟨by simp [View.cells], by simp [View.num]⟩
  · obtain ⟨hk, h'⟩ := bif_some h
    clear h
    have hk := of_decide_eq_true hk
    subst hk
    cases h'
    exact ⟨by simp [View.cells], by simp [View.num]⟩
  · cases h
theorem put_view {γ γ' : Gm} {f : Hf} {h1 h2 : Tr Blk} {nx : Nat} {w w' : World} {i : Nat} {V : View} {cells : List AV} {e z : Nat} (hs : h1.set i (some ⟨V, e, z, true, true⟩) = some h2) (hc : V.cells = cells)
    (h : Stp γ f w γ' (upd h1.get i (some ⟨.plain cells, e, z, true, true⟩)) nx w') : Stp γ f w γ' h2.get nx w' := by
  rw [get_set_upd hs]
  refine h.view (fun cs hcs => ?_) rfl rfl rfl rfl rfl
  show VsRel γ' V.cells cs
  rw [hc]; exact hcs
include ht in
theorem sApp_ok {γ : Gm} {H H' : Hs} {w : World} (hr : HRel γ H.m.get H.nx w) {t0 t1 : Nat} {s x v : AV} {S X : Value} (hs : VRel γ s S) (hx : VRel γ x X)
    (hq : sApp ti conT t0 t1 s x H = some (v, H')) (hm : ∀ p ∈ H'.ms, p) {ts : Array TypeId} {args : Array Value} (ty : TypeId) (ht0 : ts[0]? = some t0) (ht1 : ts[1]? = some t1) (ha0 : args[0]? = some S) (ha1 : args[1]? = some X) :
    ∃ V γ' w', (Builtin.append_ ts ty args).run P w = .ok V w' ∧ Stp γ H.m.get w γ' H'.m.get H'.nx w' ∧ VRel γ' v V ∧ (∀ j, j ≠ H.nx → γ' j = γ j) ∧ H'.nx = H.nx + 1 := by
  rw [append2_eq]
  unfold sApp at hq
  split at hq
  case h_2 => cases hq
  rename_i e hd
  have hu : P.underlying t0 = some (.slice e) := und_ok ht hd
  split at hq
  case h_2 => cases hq
  rename_i z by_ zs hz hby hzs
  obtain ⟨inf, Z, g1, g2, g3⟩ := zeroA_ok (P := P) (γ := γ) ht hzs
  obtain ⟨inf', q1, q2⟩ := info_of_szT ht hz
  rw [g1] at q1
  cases q1
  have hbytes : inf.bytes = by_ := bytes_ok ht hby g1
  cases hzl : (!(Nat.beq zs.length z && Nat.ble by_ 1000)) with
  | true => rw [hzl] at hq; cases hq
  | false =>
    rw [hzl] at hq
    simp only [cond_false] at hq
    have hzl' : (Nat.beq zs.length z && Nat.ble by_ 1000) = true := by simpa using hzl
    obtain ⟨hz1, hb1⟩ := and_split hzl'
    have hz1 := beq_eq hz1
    have hb1 := Nat.le_of_ble_eq_true hb1
    have hZ : Z.cells.size = z := by have := g3.length; simp at this; omega
    split at hq
    · cases hq
    rename_i n V ms hsrc
    have bytesOk : ∀ m, m ≤ 1000000 → m * inf.bytes ≤ 140737488355328 := by
      intro m hm'
      rw [hbytes]
      have : m * by_ ≤ 1000000 * 1000 := Nat.mul_le_mul hm' hb1
      omega
    -- a new block
    have fresh : ∀ (H1 : Hs) (base : Option Addr), H1.m = H.m → H1.nx = H.nx → S = .slice base 0 0 →
        (match H1.m.set H1.nx (some ⟨V, e, z, true, true⟩) with
          | none => none
          | some m => some (AV.lo H1.nx n, ({ H1 with m := m, nx := H1.nx + 1, ms := (0 < n ∧ n ≤ 1000000) :: (ms ++ H1.ms) } : Hs))) = some (v, H') →
        ∃ V γ' w', (append2 ts args).run P w = .ok V w' ∧ Stp γ H.m.get w γ' H'.m.get H'.nx w' ∧ VRel γ' v V ∧ (∀ j, j ≠ H.nx → γ' j = γ j) ∧ H'.nx = H.nx + 1 := by
      intro H1 base e1 e2 hS hf
      split at hf
      · cases hf
      · rename_i m hset
        cases hf
        obtain ⟨h0, hle⟩ := hm (0 < n ∧ n ≤ 1000000) (by simp)
        obtain ⟨so, _, hnp⟩ := sSrc_ok ht hr hz hx hsrc (fun p hp => hm p (by simp [hp])) ht1
        obtain ⟨zeros, news, c1, c2, c3, c4, c5⟩ := so.ex
        have hO : (Builtin.firstCells z 0 (.slice base 0 0)).run P w.drew = .ok ([] : List Value).toArray w.drew := by cases base <;> simp [Builtin.firstCells, loadCells, loadCellsFrom]
        obtain ⟨W, γ', w', r1, r2, r3, r4⟩ := grown_ok (P := P) (olds := []) (Olds := []) hr (f1 := H.m.get) (fun _ _ h => h) (i := H.nx) (nx' := H.nx + 1) (hr.fresh _ (Nat.le_refl _)) (by omega) (by omega) ht0 (by rw [ha0, hS]) ha1 hu g1 q2 g2 hZ c1 c2 (c3 w.drew rfl) hO (by omega) (by omega) (bytesOk _ (by omega)) .nil c4
        rw [e1, e2] at hset
        refine ⟨W, γ', w', r1, ?_, ?_, r4, by rw [e2]⟩
        · show Stp γ H.m.get w γ' m.get (H1.nx + 1) w'
          rw [e2]
          exact put_view hset (by simp) r2
        · rw [e2]
          rw [Nat.zero_add] at r3
          cases r3 with
          | slc _ _ _ hg' => exact .lo _ hg'
    -- nothing is appended
    have still : ∀ (H1 : Hs) (base : Option Addr), H1.m = H.m → H1.nx = H.nx → S = .slice base 0 0 → VRel γ v (.slice base 0 0) → (Nat.beq n 0 = true) → (∀ p ∈ ms, p) → ({ H1 with nx := H1.nx + 1, ms := ms ++ H1.ms } : Hs) = H' →
        ∃ V γ' w', (append2 ts args).run P w = .ok V w' ∧ Stp γ H.m.get w γ' H'.m.get H'.nx w' ∧ VRel γ' v V ∧ (∀ j, j ≠ H.nx → γ' j = γ j) ∧ H'.nx = H.nx + 1 := by
      intro H1 base e1 e2 hS hv hn hms hH
      subst hH
      have hn := beq_eq hn
      subst hn
      obtain ⟨so, _, hnp⟩ := sSrc_ok ht hr hz hx hsrc hms ht1
      obtain ⟨zeros, news, c1, c2, c3, c4, c5⟩ := so.ex
      have hnews : news = [] := List.eq_nil_of_length_eq_zero (by simpa using c5)
      subst hnews
      have hrun := run_append2_room (P := P) w ht0 (by rw [ha0, hS]) ha1 hu g1 q2 c1 c2 (c3 w rfl) (sLen := 0) (sCap := 0) (base := base) (by omega)
      refine ⟨.slice base 0 0, γ, w, ?_, ?_, hv, fun _ _ => rfl, by rw [e2]⟩
      · rw [hrun]
        cases base <;> simp [storeCells]
      · show Stp γ H.m.get w γ H1.m.get (H1.nx + 1) w
        rw [e1, e2]
        exact Stp.refl (hr.nx_mono (by omega))
    have asked : ∀ (base : Option Addr) (u : AV), S = .slice base 0 0 → VRel γ u (.slice base 0 0) →
        (bif isRo x then
            (match H.ask (Nat.beq n 0) with
            | (true, H1) => some (u, ({ H1 with nx := H1.nx + 1, ms := ms ++ H1.ms } : Hs))
            | (false, H1) => (match H1.m.set H1.nx (some ⟨V, e, z, true, true⟩) with
              | none => none
              | some m => some (AV.lo H1.nx n, ({ H1 with m := m, nx := H1.nx + 1, ms := (0 < n ∧ n ≤ 1000000) :: (ms ++ H1.ms) } : Hs))))
          else (match H.m.set H.nx (some ⟨V, e, z, true, true⟩) with
              | none => none
              | some m => some (AV.lo H.nx n, ({ H with m := m, nx := H.nx + 1, ms := (0 < n ∧ n ≤ 1000000) :: (ms ++ H.ms) } : Hs)))) = some (v, H') →
        ∃ V γ' w', (append2 ts args).run P w = .ok V w' ∧ Stp γ H.m.get w γ' H'.m.get H'.nx w' ∧ VRel γ' v V ∧ (∀ j, j ≠ H.nx → γ' j = γ j) ∧ H'.nx = H.nx + 1 := by
      intro base u hS hu' hh
      cases hro : isRo x with
      | false =>
        rw [hro] at hh
        exact fresh H base rfl rfl hS hh
      | true =>
        rw [hro] at hh
        simp only [cond_true] at hh
        have am := ask_m H (Nat.beq n 0)
        have an := ask_nx H (Nat.beq n 0)
        have ak := ask_ms H (Nat.beq n 0)
        generalize hak : H.ask (Nat.beq n 0) = r at hh am an ak
        obtain ⟨d, H1⟩ := r
        cases d with
        | true =>
          simp only [Option.some.injEq, Prod.mk.injEq] at hh
          obtain ⟨rfl, hH⟩ := hh
          refine still H1 base am an hS hu' ?_ (fun p hp => hm p (by rw [← hH]; simp [hp])) hH
          exact hm (Dec (Nat.beq n 0) true) (by rw [← hH]; exact List.mem_append_right _ (by rw [show H1.ms = _ from ak]; exact List.mem_cons_self))
        | false => exact fresh H1 base am an hS hh
    split at hq
    · rename_i b c
      split at hq
      · cases hq
      · rename_i k hk
        split at hq
        · cases hq
        · rename_i V' happ
          have hb := (bif_some hq).1
          replace hq := (bif_some hq).2
          simp only [Bool.and_eq_true] at hb
          obtain ⟨⟨⟨d1, d2⟩, d3⟩, d4⟩ := hb
          split at hq
          · cases hq
          · rename_i m1 hkill
            split at hq
            · cases hq
            · rename_i m hset
              cases hq
              obtain ⟨hnum, hle⟩ := hm (k.view.num = c ∧ c + n ≤ 1000000) (by simp)
              obtain ⟨so, hVn, hVz⟩ := sSrc_ok ht hr hz hx hsrc (fun p hp => hm p (by simp [hp])) ht1
              have hnp : ∀ cs, V ≠ .plain cs := by rcases hVz with ⟨L, rfl, _⟩ | ⟨k, L, rfl, _⟩ <;> simp
              obtain ⟨ac, an⟩ := app_cells happ
              cases hs with
              | lo _ hg =>
                rename_i B xx
                have hkz := beq_eq d3
                have hke := beq_eq d4
                have hlen : k.cells.length = c * z := by
                  have hzz : k.view.cells.length = k.view.num * z := by
                    rcases hVz with ⟨L, rfl, rfl⟩ | ⟨k2, L, rfl, rfl⟩
                    · cases hkv : k.view with
                      | con M => exact flat_len M
                      | plain M => rw [hkv] at happ; cases happ
                      | ints k3 M => rw [hkv] at happ; cases happ
                      | rows k3 M b3 n3 => rw [hkv] at happ; cases happ
                    · cases hkv : k.view with
                      | con M => rw [hkv] at happ; cases happ
                      | plain M => rw [hkv] at happ; cases happ
                      | ints k3 M => simp [View.cells, View.num]
                      | rows k3 M b3 n3 => rw [hkv] at happ; cases happ
                  rw [← hnum]; exact hzz
                have hone : V.cells.all AV.one = true := V.ones (.inr hnp) hnp
                have hset' : ∃ m2, m1.set H.nx (some ⟨.plain (k.cells ++ V.cells), e, z, true, true⟩) = some m2 := by
                  unfold Tr.set at hset ⊢
                  obtain ⟨hb2, _⟩ := bif_some hset
                  rw [hb2]
                  exact ⟨_, rfl⟩
                obtain ⟨m2, hset2⟩ := hset'
                obtain ⟨W, γ', w', r1, r2, r3, r4⟩ := appLo_ok (P := P) hr (i := H.nx) (hr.fresh _ (Nat.le_refl _)) (nx' := H.nx + 1) (by omega) (by omega) ht0 ha0 ha1 hu g1 q2 g2 hZ so hone hk hg d2 hkz hke hlen (by omega) (bytesOk _ hle) hkill hset2
                refine ⟨W, γ', w', r1, ?_, r3, r4, rfl⟩
                rw [get_set_upd hset2] at r2
                exact put_view hset ac r2
    · cases hs
      exact asked none _ rfl .nils hq
    · cases hs
      exact asked _ _ rfl (.z0 _) hq
    · cases hq
end
end Go.QfSy

namespace Go.QfSy
theorem VsRel.parts {γ : Gm} : ∀ {us vs : List AV} {Vs : List Value}, VsRel γ (us ++ vs) Vs → ∃ V1 V2, Vs = V1 ++ V2 ∧ VsRel γ us V1 ∧ VsRel γ vs V2
  | [], vs, Vs, h => ⟨[], Vs, rfl, .nil, h⟩
  | u :: us, vs, Vs, h => by
    cases h with
    | cons h t =>
      obtain ⟨V1, V2, rfl, h1, h2⟩ := VsRel.parts t
      exact ⟨_ :: V1, V2, rfl, .cons h h1, h2⟩
theorem HRel.freeze {γ : Gm} {f : Hf} {nx : Nat} {w : World} (h : HRel γ f nx w) {b : Nat} {k : Blk} (hb : f b = some k) (hown : k.own = true) {B x : Nat} (hg : γ b = some (B, x)) {y : Obj} (hy : w.heap[B]? = some y) :
    Stp γ f w ⟨γ.nm, fun B' => if B' = B then some y else γ.fz B'⟩ (upd f b none) nx w := by
  have hz : γ.fz B = none := h.fzo b k B x hb hown hg
  have hle : γ.le ⟨γ.nm, fun B' => if B' = B then some y else γ.fz B'⟩ := by
    refine ⟨fun _ _ h => h, fun B' z hz' => ?_⟩
    show (if B' = B then some y else γ.fz B') = some z
    rw [if_neg]
    · exact hz'
    · intro e; rw [e, hz] at hz'; cases hz'
  have hold : ∀ c kc, upd f b none c = some kc → f c = some kc ∧ c ≠ b := by
    intro c kc hc
    by_cases e : c = b
    · subst e; rw [upd_same] at hc; cases hc
    · rw [upd_other f _ e] at hc; exact ⟨hc, e⟩
  refine ⟨hle, ⟨?_, ?_, h.fresh, ?_, ?_⟩, Nat.le_refl _, rfl, rfl, rfl, fun _ _ _ => rfl, ?_, ?_, ?_, ?_⟩
  · intro c kc hc
    obtain ⟨B2, x2, cs2, ex2, q1, q2, q3, q4⟩ := h.blk c kc (hold c kc hc).1
    exact ⟨B2, x2, cs2, ex2, q1, q2, q3.mono hle, q4⟩
  · intro c c' kc kc' B' x' x'' q1 q2 q3 q4
    exact h.inj c c' kc kc' B' x' x'' (hold _ _ q1).1 (hold _ _ q2).1 q3 q4
  · intro B' z hz'
    have hz' : (if B' = B then some y else γ.fz B') = some z := hz'
    by_cases e : B' = B
    · rw [if_pos e] at hz'; cases hz'; rw [e]; exact hy
    · rw [if_neg e] at hz'; exact h.fzr B' z hz'
  · intro c kc B' x' hc ho hgc
    obtain ⟨h1, h2⟩ := hold c kc hc
    show (if B' = B then some y else γ.fz B') = none
    rw [if_neg]
    · exact h.fzo c kc B' x' h1 ho hgc
    · intro e
      subst e
      exact h2 (h.inj c b kc k B' x' x h1 hb hgc hg)
  · rintro k' hk ⟨c, kc, y', q1, q2, q3⟩
    exact ⟨c, kc, y', (hold c kc q1).1, q2, q3⟩
  · intro c kc hc ho
    exact (hold c kc hc).1
  · intro c kc hc
    exact .inl ⟨kc, (hold c kc hc).1⟩
  · intro B' z hz'
    have hz' : (if B' = B then some y else γ.fz B') = some z := hz'
    by_cases e : B' = B
    · exact .inr (.inr ⟨b, k, x, hb, hown, e ▸ hg⟩)
    · rw [if_neg e] at hz'; exact .inl hz'
theorem HRel.reblk {γ : Gm} {f : Hf} {nx : Nat} {w : World} (h : HRel γ f nx w) {b : Nat} {k k' : Blk} (hb : f b = some k) (hc : ∀ cs, VsRel γ k.cells cs → VsRel γ k'.cells cs) (h1 : k'.elem = k.elem) (h2 : k'.sz = k.sz) (h3 : k'.opn = true) (h4 : k.own = true) (h5 : k'.own = true) :
    Stp γ f w γ (upd f b (some k')) nx w := by
  have hold : ∀ c kc, upd f b (some k') c = some kc → ∃ kc', f c = some kc' ∧ kc'.own = kc.own := by
    intro c kc hc'
    by_cases e : c = b
    · subst e; rw [upd_same] at hc'; cases hc'; exact ⟨k, hb, by rw [h4, h5]⟩
    · rw [upd_other f _ e] at hc'; exact ⟨kc, hc', rfl⟩
  refine ⟨Gm.le_refl γ, ⟨?_, ?_, h.fresh, h.fzr, ?_⟩, Nat.le_refl _, rfl, rfl, rfl, fun _ _ _ => rfl, ?_, ?_, ?_, fun _ _ h => .inl h⟩
  · intro c kc hc'
    by_cases e : c = b
    · subst e
      rw [upd_same] at hc'
      cases hc'
      obtain ⟨B, x, cs, ex, g1, g2, g3, g4, g5⟩ := h.blk c k hb
      exact ⟨B, x, cs, ex, g1, by rw [h1]; exact g2, hc _ g3, by rw [h2]; exact g4, fun h => by rw [h3] at h; cases h⟩
    · rw [upd_other f _ e] at hc'
      exact h.blk c kc hc'
  · intro c c' kc kc' B x x' q1 q2 q3 q4
    obtain ⟨_, r1, _⟩ := hold _ _ q1
    obtain ⟨_, r2, _⟩ := hold _ _ q2
    exact h.inj _ _ _ _ _ _ _ r1 r2 q3 q4
  · intro c kc B x hc' ho hg
    obtain ⟨kc', r1, r2⟩ := hold _ _ hc'
    exact h.fzo c kc' B x r1 (by rw [r2]; exact ho) hg
  · intro i hi ⟨c, kc, y, q1, q2, q3⟩
    obtain ⟨kc', r1, r2⟩ := hold _ _ q1
    exact ⟨c, kc', y, r1, by rw [r2]; exact q2, q3⟩
  · intro c kc hc' ho
    by_cases e : c = b
    · subst e; rw [upd_same] at hc'; cases hc'; rw [h5] at ho; cases ho
    · rw [upd_other f _ e] at hc'; exact hc'
  · intro c kc hc'
    obtain ⟨kc', r1, _⟩ := hold _ _ hc'
    exact .inl ⟨kc', r1⟩
theorem roI_of {γ : Gm} {b n B x : Nat} {k : IntKind} {l : List Int} {el : Nat} {fr : Nat × Nat} {ex : List Value} (hg : γ b = some (B, x)) (hz : γ.fz B = some (.cells (l.map (Value.int k) ++ ex).toArray el fr)) (hn : n = l.length) {V : Value} (hV : VRel γ (.lo b n) V) : VRel γ (roI k l) V := by
  cases hV with
  | lo _ hg' =>
    rw [hg] at hg'
    cases hg'
    subst hn
    unfold roI
    refine .ro (.sl (fun i => [.int k (l.getD i 0)]) (by omega) (fun i hi => rfl) (fun i j v hi hv => ?_) (fun i hi => .cons (.int _ _) .nil))
    refine ⟨_, _, _, hz, ?_⟩
    cases j with
    | zero =>
      simp only [List.getElem?_cons_zero, Option.some.injEq] at hv
      subst hv
      rw [List.getElem?_toArray, List.getElem?_append_left (by simp; omega)]
      simp [hi]
    | succ j => simp at hv
def AV.row : AV → Option (Nat × Nat)
  | .slc b o n c => bif Nat.beq o 0 && Nat.beq n c then some (b, n) else none
  | .lo b n => some (b, n)
  | _ => none
theorem AV.row_ok {v : AV} {b n : Nat} (h : v.row = some (b, n)) {γ : Gm} {V : Value} (hV : VRel γ v V) : VRel γ (.lo b n) V ∧ v.one = true := by
  unfold AV.row at h
  split at h
  · obtain ⟨h1, h2⟩ := bif_some h
    obtain ⟨h1, h3⟩ := and_split h1
    have h1 := beq_eq h1
    have h3 := beq_eq h3
    subst h1 h3
    cases h2
    cases hV with
    | slc _ _ _ hg => exact ⟨.lo _ hg, rfl⟩
  · cases h; exact ⟨hV, rfl⟩
  · cases h
def Blk.nums (kk : IntKind) (k : Blk) : Option (List Int) := match k.view with
  | .ints k' l => bif decide (k' = kk) then some l else none
  | .plain cs => intsOf kk cs
  | _ => none
theorem Blk.nums_ok {kk : IntKind} {k : Blk} {l : List Int} (h : k.nums kk = some l) {γ : Gm} {cs : List Value} (hc : VsRel γ k.cells cs) : VsRel γ (l.map (AV.vint kk)) cs ∧ cs = l.map (Value.int kk) := by
  have key : ∀ (l : List Int) (cs : List Value), VsRel γ (l.map (AV.vint kk)) cs → cs = l.map (Value.int kk) := by
    intro l
    induction l with
    | nil => intro cs h; cases h; rfl
    | cons a l ih => intro cs h; cases h with | cons h1 h2 => cases h1; rw [ih _ h2]; rfl
  have back : ∀ (l : List Int), VsRel γ (l.map (AV.vint kk)) (l.map (Value.int kk)) := by
    intro l
    induction l with
    | nil => exact .nil
    | cons a l ih => exact .cons (.vint _ _) ih
  unfold Blk.nums at h
  split at h
  · rename_i k' l' hv
    obtain ⟨h1, h2⟩ := bif_some h
    have h1 := of_decide_eq_true h1
    subst h1
    cases h2
    have hc : VsRel γ k.view.cells cs := hc
    rw [hv] at hc
    exact ⟨hc, key _ _ hc⟩
  · rename_i cs' hv
    have hc : VsRel γ k.view.cells cs := hc
    rw [hv] at hc
    have e := intsOf_ok hc h
    subst e
    exact ⟨back _, rfl⟩
  · cases h
def rowIn (ti : Tr TypeInfo) (kk : IntKind) (h : Tr Blk) (e t : Nat) (x : AV) : Option (AV × Nat × Nat × Tr Blk) :=
  match srcV ti h e 1 t x with
  | some (1, [v]) => match v.row with
    | none => none
    | some (b, n) => match h.get b with
      | none => none
      | some k => match k.nums kk with
        | none => none
        | some l => bif k.own && Nat.beq k.sz 1 then (match h.set b (some ⟨.ints kk l, k.elem, 1, true, true⟩) with
          | none => none
          | some h' => some (v, b, n, h')) else none
  | _ => none
def rowTo (kk : IntKind) (h : Tr Blk) (e bo bi c : Nat) : Option (List (List Int) × Tr Blk × List Prop) :=
  match h.get bo with
  | none => none
  | some ko => match ko.view with
    | .rows k' L b n => match h.get b with
      | none => none
      | some kb => match kb.nums kk with
        | none => none
        | some l => bif decide (k' = kk) && kb.own && ko.own && Nat.beq ko.sz 1 && Nat.beq ko.elem e && !Nat.beq b bi && !Nat.beq bo b && !Nat.beq bo bi then
            (match h.set b none with
            | none => none
            | some h1 => match h1.set bo none with
              | none => none
              | some h2 => some (L ++ [l], h2, [L.length + 1 = c ∧ n = l.length]))
          else none
    | _ => none
def sRow (ti : Tr TypeInfo) (t0 t1 : Nat) (s x : AV) (H : Hs) : Option (AV × Hs) :=
  match und ti t0 with
  | some (.slice e) => match und ti e with
    | some (.slice ei) => match szT ti e, bytesT ti e, zeroA ti e, intT ti ei with
      | some z, some by_, some zs, some kk => bif Nat.beq z 1 && Nat.beq zs.length 1 && Nat.ble by_ 1000 then
          (match rowIn ti kk H.m e t1 x with
          | none => none
          | some (_, bi, ni, m1) => match s with
            | .nils => (match m1.set H.nx (some ⟨.rows kk [] bi ni, e, 1, true, true⟩) with
              | none => none
              | some m => some (.lo H.nx 1, { H with m := m, nx := H.nx + 1 }))
            | .lo bo c => (match rowTo kk m1 e bo bi c with
              | none => none
              | some (L, m2, ms) => match m2.set H.nx (some ⟨.rows kk L bi ni, e, 1, true, true⟩) with
                | none => none
                | some m => some (.lo H.nx (c + 1), { H with m := m, nx := H.nx + 1, ms := (c + 1 ≤ 1000000) :: (ms ++ H.ms) }))
            | _ => none)
        else none
      | _, _, _, _ => none
    | _ => none
  | _ => none
theorem sRow_ms {ti : Tr TypeInfo} {t0 t1 : Nat} {u y v : AV} {H H' : Hs} (hq : sRow ti t0 t1 u y H = some (v, H')) : ∀ p ∈ H.ms, p ∈ H'.ms := by
  intro p hp
  unfold sRow at hq
  split at hq
  · split at hq
    · split at hq
      · replace hq := (bif_some hq).2
        split at hq
        · cases hq
        · split at hq
          · split at hq
            · cases hq
            · cases hq; exact hp
          · split at hq
            · cases hq
            · split at hq
              · cases hq
              · cases hq; simp [hp]
          · cases hq
      · cases hq
    · cases hq
  · cases hq
section
variable {P : Program} {ti : Tr TypeInfo} (ht : TabOk P ti)
include ht in
theorem rowIn_ok {γ : Gm} {h h' : Tr Blk} {nx : Nat} {w : World} (hr : HRel γ h.get nx w) {kk : IntKind} {e t b n : Nat} {x v : AV} {X : Value} (hx : VRel γ x X) (hz : szT ti e = some 1) (hq : rowIn ti kk h e t x = some (v, b, n, h')) {ts : Array TypeId} (ht1 : ts[1]? = some t) :
    Stp γ h.get w γ h'.get nx w ∧ SrcOk P γ w e 1 ts X 1 [v] ∧ v.row = some (b, n) := by
  unfold rowIn at hq
  split at hq
  · rename_i v' hsrc
    split at hq
    · cases hq
    · rename_i b' n' hrow
      split at hq
      · cases hq
      · rename_i k hk
        split at hq
        · cases hq
        · rename_i l hl
          obtain ⟨hb, hq'⟩ := bif_some hq
          clear hq
          obtain ⟨hb1, hb2⟩ := and_split hb
          have hb2 := beq_eq hb2
          split at hq'
          · cases hq'
          · rename_i h2 hset
            cases hq'
            refine ⟨?_, ⟨srcV_ok ht hr hz hx hsrc ht1⟩, hrow⟩
            rw [get_set_upd hset]
            exact hr.reblk hk (fun cs hcs => (Blk.nums_ok hl hcs).1) rfl hb2.symm rfl hb1 rfl
  · cases hq
theorem rowTo_ok {γ : Gm} {h h' : Tr Blk} {nx : Nat} {w : World} (hr : HRel γ h.get nx w) {kk : IntKind} {e bo bi c : Nat} {L : List (List Int)} {ms : List Prop} (hq : rowTo kk h e bo bi c = some (L, h', ms)) (hm : ∀ p ∈ ms, p) :
    ∃ (γ1 : Gm) (ko : Blk) (h1 : Tr Blk), Stp γ h.get w γ1 h1.get nx w ∧ γ1.nm = γ.nm ∧ h1.get bo = some ko ∧ ko.own = true ∧ ko.sz = 1 ∧ ko.elem = e ∧ ko.cells.length = c ∧ h1.set bo none = some h' ∧
      (∀ γ2 : Gm, γ1.le γ2 → ∀ cs, VsRel γ2 ko.cells cs → VsRel γ2 (L.map (roI kk)) cs) := by
  unfold rowTo at hq
  split at hq
  · cases hq
  · rename_i ko hko
    split at hq
    · rename_i k' L0 b n hview
      split at hq
      · cases hq
      · rename_i kb hkb
        split at hq
        · cases hq
        · rename_i l hl
          obtain ⟨hb, hq'⟩ := bif_some hq
          clear hq
          simp only [Bool.and_eq_true, Bool.not_eq_true'] at hb
          obtain ⟨⟨⟨⟨⟨⟨⟨d1, d2⟩, d3⟩, d4⟩, d5⟩, d6⟩, d7⟩, d8⟩ := hb
          have d1 := of_decide_eq_true d1
          subst d1
          have d4 := beq_eq d4
          have d5 := beq_eq d5
          have d6 := beq_ne d6
          have d7 := beq_ne d7
          split at hq'
          · cases hq'
          · rename_i h1 hs1
            split at hq'
            · cases hq'
            · rename_i h2 hs2
              cases hq'
              obtain ⟨hc, hn⟩ := all_one hm
              obtain ⟨B, x, cs, ex, g1, g2, g3, g4, g5⟩ := hr.blk b kb hkb
              obtain ⟨n1, n2⟩ := Blk.nums_ok hl g3
              have hfz := hr.freeze hkb d2 g1 g2
              have hcells : ko.cells = L0.map (roI k') ++ [AV.lo b n] := by unfold Blk.cells; rw [hview]; rfl
              refine ⟨⟨γ.nm, fun B' => if B' = B then some (Obj.cells (cs ++ ex).toArray kb.elem) else γ.fz B'⟩, ko, h1, by rw [get_set_upd hs1]; exact hfz, rfl, ?_, d3, d4, d5, ?_, hs2, ?_⟩
              · rw [get_set_upd hs1, upd_other _ _ d7]; exact hko
              · rw [hcells]; simp; omega
              · intro γ2 hle cs2 hcs2
                rw [hcells] at hcs2
                rw [List.map_append]
                obtain ⟨V1, V2, rfl, r1, r2⟩ := VsRel.parts hcs2
                refine r1.append ?_
                cases r2 with
                | cons r3 r4 =>
                  cases r4
                  refine .cons (roI_of (x := x) (B := B) (el := kb.elem) (fr := (0, 0)) (ex := ex) (hle.nm _ _ g1) ?_ hn r3) .nil
                  refine hle.fz B _ ?_
                  show (if B = B then _ else _) = _
                  rw [if_pos rfl, n2]
    · cases hq
include ht in
theorem sRow_ok {γ : Gm} {H H' : Hs} {w : World} (hr : HRel γ H.m.get H.nx w) {t0 t1 : Nat} {s x v : AV} {S X : Value} (hs : VRel γ s S) (hx : VRel γ x X)
    (hq : sRow ti t0 t1 s x H = some (v, H')) (hm : ∀ p ∈ H'.ms, p) {ts : Array TypeId} {args : Array Value} (ty : TypeId) (ht0 : ts[0]? = some t0) (ht1 : ts[1]? = some t1) (ha0 : args[0]? = some S) (ha1 : args[1]? = some X) :
    ∃ V γ' w', (Builtin.append_ ts ty args).run P w = .ok V w' ∧ Stp γ H.m.get w γ' H'.m.get H'.nx w' ∧ VRel γ' v V ∧ (∀ j, j ≠ H.nx → γ' j = γ j) ∧ H'.nx = H.nx + 1 := by
  rw [append2_eq]
  unfold sRow at hq
  split at hq
  case h_2 => cases hq
  rename_i e hd
  have hu : P.underlying t0 = some (.slice e) := und_ok ht hd
  split at hq
  case h_2 => cases hq
  rename_i ei hd2
  split at hq
  case h_2 => cases hq
  rename_i z by_ zs kk hz hby hzs hkk
  obtain ⟨inf, Z, g1, g2, g3⟩ := zeroA_ok (P := P) (γ := γ) ht hzs
  obtain ⟨inf', q1, q2⟩ := info_of_szT ht hz
  rw [g1] at q1
  cases q1
  have hbytes : inf.bytes = by_ := bytes_ok ht hby g1
  have hb := (bif_some hq).1
  replace hq := (bif_some hq).2
  obtain ⟨hb, hb1⟩ := and_split hb
  obtain ⟨hz0, hz1⟩ := and_split hb
  have hz0 := beq_eq hz0
  have hz1 := beq_eq hz1
  have hb1 := Nat.le_of_ble_eq_true hb1
  subst hz0
  have hZ : Z.cells.size = 1 := by have := g3.length; simp at this; omega
  have bytesOk : ∀ m, m ≤ 1000000 → m * inf.bytes ≤ 140737488355328 := by
    intro m hm'
    rw [hbytes]
    have : m * by_ ≤ 1000000 * 1000 := Nat.mul_le_mul hm' hb1
    omega
  split at hq
  · cases hq
  rename_i vv bi ni m1 hin
  obtain ⟨st1, so, hrow⟩ := rowIn_ok ht hr hx hz hin ht1
  have hr1 := st1.rel
  have tolast : ∀ {γ2 : Gm} {cs : List Value}, VsRel γ2 [vv] cs → VsRel γ2 [AV.lo bi ni] cs := by
    intro γ2 cs hcs
    cases hcs with
    | cons h1 h2 => cases h2; exact .cons (AV.row_ok hrow h1).1 .nil
  split at hq
  · -- nil
    split at hq
    · cases hq
    · rename_i m hset
      cases hq
      cases hs
      obtain ⟨zeros, news, c1, c2, c3, c4, c5⟩ := so.ex
      have hO : (Builtin.firstCells 1 0 (.slice none 0 0)).run P w.drew = .ok ([] : List Value).toArray w.drew := by simp [Builtin.firstCells, loadCells, loadCellsFrom]
      obtain ⟨W, γ', w', r1, r2, r3, r4⟩ := grown_ok (P := P) (olds := []) (Olds := []) hr1 (f1 := m1.get) (fun _ _ h => h) (i := H.nx) (nx' := H.nx + 1) (hr.fresh _ (Nat.le_refl _)) (by omega) (by omega) ht0 ha0 ha1 hu g1 q2 g2 hZ c1 c2 (c3 w.drew rfl) hO (by omega) (by omega) (bytesOk _ (by omega)) .nil c4
      refine ⟨W, γ', w', r1, st1.trans ?_, ?_, r4, rfl⟩
      · show Stp γ m1.get w γ' m.get (H.nx + 1) w'
        rw [get_set_upd hset]
        refine r2.view (fun cs hcs => ?_) rfl rfl rfl rfl rfl
        exact tolast hcs
      · cases r3 with
        | slc _ _ _ hg' => exact .lo _ hg'
  · -- a list
    rename_i bo c
    split at hq
    · cases hq
    · rename_i L m2 ms hto
      split at hq
      · cases hq
      · rename_i m hset
        cases hq
        have hle : c + 1 ≤ 1000000 := hm _ List.mem_cons_self
        obtain ⟨γ1, ko, h1, st2, hnm, k1, k2, k3, k4, k5, k6, k7⟩ := rowTo_ok hr1 hto (fun p hp => hm p (by simp [hp]))
        have hr2 := st2.rel
        cases hs with
        | lo _ hg =>
          rename_i B xx
          have hg1 : γ1 bo = some (B, xx) := by show γ1.nm bo = _; rw [hnm]; exact hg
          obtain ⟨zeros, news, c1, c2, c3, c4, c5⟩ := so.ex
          have so1 : SrcOk P γ1 w e 1 ts X 1 [vv] := ⟨zeros, news, c1, c2, c3, c4.mono st2.le, c5⟩
          have hone : ([vv] : List AV).all AV.one = true := by
            cases c4 with
            | cons h1 h2 => simp [(AV.row_ok hrow h1).2]
          have hset' : ∃ m3, m2.set H.nx (some ⟨.plain (ko.cells ++ [vv]), e, 1, true, true⟩) = some m3 := by
            unfold Tr.set at hset ⊢
            obtain ⟨hb2, _⟩ := bif_some hset
            rw [hb2]
            exact ⟨_, rfl⟩
          obtain ⟨m3, hset3⟩ := hset'
          obtain ⟨W, γ', w', r1, r2, r3, r4⟩ := appLo_ok (P := P) hr2 (i := H.nx) (hr2.fresh _ (Nat.le_refl _)) (nx' := H.nx + 1) (by omega) (by omega) ht0 ha0 ha1 hu g1 q2 g2 hZ so1 hone k1 hg1 k2 k3 k4 (by omega) (by omega) (bytesOk _ hle) k6 hset3
          refine ⟨W, γ', w', r1, st1.trans (st2.trans ?_), r3, fun j hj => by rw [r4 j hj]; show γ1.nm j = _; rw [hnm], rfl⟩
          show Stp γ1 h1.get w γ' m.get (H.nx + 1) w'
          rw [get_set_upd hset3] at r2
          rw [get_set_upd hset]
          refine r2.view (fun cs hcs => ?_) rfl rfl rfl rfl rfl
          obtain ⟨V1, V2, rfl, p1, p2⟩ := VsRel.parts (us := ko.cells) (vs := [vv]) hcs
          exact (k7 γ' r2.le V1 p1).append (tolast p2)
  · cases hq
def sApp3 (ti : Tr TypeInfo) (conT t0 t1 : Nat) (s x : AV) (H : Hs) : Option (AV × Hs) :=
  match sApp ti conT t0 t1 s x H with
  | some r => some r
  | none => sRow ti t0 t1 s x H
include ht in
theorem sApp3_ok {conT : Nat} {γ : Gm} {H H' : Hs} {w : World} (hr : HRel γ H.m.get H.nx w) {t0 t1 : Nat} {s x v : AV} {S X : Value} (hs : VRel γ s S) (hx : VRel γ x X)
    (hq : sApp3 ti conT t0 t1 s x H = some (v, H')) (hm : ∀ p ∈ H'.ms, p) {ts : Array TypeId} {args : Array Value} (ty : TypeId) (ht0 : ts[0]? = some t0) (ht1 : ts[1]? = some t1) (ha0 : args[0]? = some S) (ha1 : args[1]? = some X) :
    ∃ V γ' w', (Builtin.append_ ts ty args).run P w = .ok V w' ∧ Stp γ H.m.get w γ' H'.m.get H'.nx w' ∧ VRel γ' v V ∧ (∀ j, j ≠ H.nx → γ' j = γ j) ∧ H'.nx = H.nx + 1 := by
  unfold sApp3 at hq
  split at hq
  · rename_i r hr'
    cases hq
    exact sApp_ok ht hr hs hx hr' hm ty ht0 ht1 ha0 ha1
  · exact sRow_ok ht hr hs hx hq hm ty ht0 ht1 ha0 ha1
end
end Go.QfSy

namespace Go.QfSy
structure Env where
  ti : Tr TypeInfo
  fs : Tr Func
  ng : Nat
  lz : Nat → Nat → Nat → Nat → Bool
  noesc : Nat
  conT : Nat
  sym : Bool
def evo (ng : Nat) (T : Tr AV) : Operand → Option AV
  | .tmp t => T.get t
  | .const v => ofVal v
  | .global g => bif Nat.blt g ng then some (.ptr g 0) else none
  | .func f => some (.fn f [])
abbrev CallF := Nat → List AV → Hs → Option (AV × Hs)
inductive Kind where
  | quiet
  | make
  | act
def kindOf : Op → Kind
  | .alloc _ => .make
  | .box _ _ => .make
  | .buildSlice _ _ _ => .make
  | .makeSlice _ _ _ => .make
  | .store _ _ _ => .act
  | .call ⟨.builtin .append, _, _⟩ => .act
  | .call ⟨.builtin .copy, _, _⟩ => .act
  | .call ⟨.builtin .unsafeString, _, _⟩ => .act
  | .call ⟨.value _, _, _⟩ => .act
  | _ => .quiet
def bytesA : List AV → Option (List UInt8)
  | [] => some []
  | .int .u8 n :: l => match bytesA l with
    | none => none
    | some bs => bif decide (0 ≤ n) && decide (n < 256) then some (n.toNat.toUInt8 :: bs) else none
  | _ => none
def eStr (ti : Tr TypeInfo) (h : Tr Blk) (pt : Nat) (p n : AV) : Option (AV × Tr Blk) :=
  match n with
  | .int .i64 0 => match p with
    | .nilp => some (.str .empty, h)
    | .ptr _ _ => some (.str .empty, h)
    | _ => none
  | .int .i64 l => match p with
    | .ptr b 0 => match und ti pt with
      | some (.pointer e) => match szT ti e with
        | some 1 => match h.get b with
          | none => none
          | some k =>
            bif k.own && Nat.beq k.elem e && decide (0 < l) && decide (l ≤ 1000000000) && Nat.ble l.toNat k.cells.length then
              match bytesA (k.cells.take l.toNat) with
              | none => none
              | some bs => match h.set b none with
                | none => none
                | some h' => some (.str ⟨bs.toArray⟩, h')
            else none
        | _ => none
      | _ => none
    | _ => none
  | _ => none
def sStr (ti : Tr TypeInfo) (H : Hs) (pt b : Nat) (n : AV) : Option (AV × Hs) :=
  match clr n with
  | .int .i64 l => match und ti pt with
    | some (.pointer e) => match szT ti e with
      | some 1 => match H.m.get b with
        | none => none
        | some k => match k.view with
          | .ints .u8 L => bif k.own && Nat.beq k.elem e && Nat.beq k.sz 1 then (match H.m.set b none with
            | none => none
            | some m => some (.vstr (strOfNums L), { H with m := m, ms := (0 < l ∧ l = (L.length : Int) ∧ l ≤ 1000000000) :: (∀ x ∈ L, 0 ≤ x ∧ x < 256) :: H.ms })) else none
          | _ => none
      | _ => none
    | _ => none
  | _ => none
def eApp2 (E : Env) (t0 t1 : Nat) (u y : AV) (H : Hs) : Option (AV × Hs) :=
  match (match u with
    | .lo _ _ => sApp3 E.ti E.conT t0 t1 u y H
    | .z0 => sApp3 E.ti E.conT t0 t1 u y H
    | .nils => bif E.sym then sApp3 E.ti E.conT t0 t1 u y H else none
    | .slc b _ n c => bif E.sym && Nat.beq n 0 && Nat.beq c 0 && isRo y then (match H.m.get b with
      | none => none
      | some k => bif k.opn then none else sApp3 E.ti E.conT t0 t1 .z0 y H) else none
    | _ => none) with
  | some r => some r
  | none => match eApp E.ti H.m H.nx t0 t1 u y with
    | none => none
    | some (v, m) => some (v, { H with m := m, nx := H.nx + 1 })
def eStore2 (E : Env) (t : Nat) (u y : AV) (H : Hs) : Option Hs :=
  match u with
  | .lp _ _ _ _ => match sStore E.ti H.m t u y with
    | none => none
    | some (m, ms) => some { H with m := m, ms := ms ++ H.ms }
  | _ => match eStore E.ti H.m t u y with
    | none => none
    | some m => some { H with m := m }
def evAct (E : Env) (call : CallF) (ρ : Operand → Option AV) (op : Op) (H : Hs) : Option (AV × Hs) :=
  match op with
  | .store t x v => match ρ x with
    | none => none
    | some u => match ρ v with
      | none => none
      | some y => match eStore2 E t u y H with
        | none => none
        | some H' => some (.tup [], H')
  | .call ⟨.builtin .append, ⟨[s, x]⟩, ⟨[t0, t1]⟩⟩ => match ρ s with
    | none => none
    | some u => match ρ x with
      | none => none
      | some y => eApp2 E t0 t1 u y H
  | .call ⟨.builtin .copy, ⟨[d, x]⟩, ⟨t0 :: _⟩⟩ => match ρ d with
    | none => none
    | some u => match ρ x with
      | none => none
      | some y => match eCopy E.ti H.m t0 u y with
        | none => none
        | some (v, m) => some (v, { H with m := m })
  | .call ⟨.builtin .unsafeString, ⟨[p, n]⟩, ⟨[pt, _]⟩⟩ => match ρ p with
    | none => none
    | some u => match ρ n with
      | none => none
      | some y => match u with
        | .lp b 0 1 0 => sStr E.ti H pt b y
        | _ => match eStr E.ti H.m pt u y with
          | none => none
          | some (v, m) => some (v, { H with m := m })
  | .call ⟨.value f, ⟨args⟩, _⟩ => match ρ f with
    | some (.fn g caps) => match evs ρ args with
      | none => none
      | some vs => bif Nat.beq g E.noesc then (match vs, caps with | [v], [] => some (v, H) | _, _ => none) else call g (vs ++ caps) H
    | _ => none
  | _ => none
def evOne (E : Env) (call : CallF) (ρ : Operand → Option AV) (op : Op) (ty : Nat) (H : Hs) : Option (AV × Hs) :=
  match kindOf op with
  | .quiet => match evS E.ti E.lz H.m ρ op ty with
    | none => none
    | some (v, ms) => some (v, H.must ms)
  | .make => match evA E.ti ρ op H.nx with
    | none => none
    | some k => match H.m.set H.nx (some k.blk) with
      | none => none
      | some m => some (k.v, { H with m := m, nx := H.nx + 1 })
  | .act => evAct E call ρ op H
def yieldA (ops : Array Oper) (N : Nat) (T : Tr AV) (j : Nat) : Option Bool :=
  match ops[j]? with
  | none => none
  | some o => match o.dst with
    | none => none
    | some d => bif Nat.blt d N then (match T.get d with | some (.bool b) => some b | some (.vbool b) => some b | _ => none) else none
def wantedA (ops : Array Oper) (N : Nat) (T : Tr AV) (o : Oper) : Bool :=
  match o.guard with
  | none => true
  | some (j, want) => match yieldA ops N T j with
    | none => false
    | some b => bif want then b else !b
def knownG (ops : Array Oper) (T : Tr AV) (o : Oper) : Bool :=
  match o.guard with
  | none => true
  | some (j, _) => match ops[j]? with
    | none => true
    | some oj => match oj.dst with
      | none => true
      | some d => match T.get d with
        | none => false
        | some _ => true
def isGuard (ops : Array Oper) (d : Nat) : Bool :=
  ops.toList.any fun o => match o.guard with
    | none => false
    | some (j, _) => match ops[j]? with
      | none => false
      | some oj => match oj.dst with
        | none => false
        | some d' => Nat.beq d d'
def guardsAt (ops : Array Oper) : Option Nat → Bool
  | none => false
  | some d => isGuard ops d
def forceV (g : Bool) (v : AV) (tp : List Bool) : AV × List Bool × List Prop :=
  match v with
  | .vbool b => bif g then (match tp with
    | [] => (.bool true, [], [Dec b true])
    | d :: tp => (.bool d, tp, [Dec b d])) else (v, tp, [])
  | _ => (v, tp, [])
def putA (N : Nat) (T : Tr AV) (dst : Option Nat) (v : AV) : Option (Tr AV) :=
  match dst with
  | none => some T
  | some d => bif Nat.blt d N then T.set d (some v) else none
def evOps (E : Env) (call : CallF) (all : Array Oper) (N : Nat) : List Oper → Tr AV → Hs → Option (Tr AV × Hs)
  | [], T, H => some (T, H)
  | o :: l, T, H =>
    bif knownG all T o then
      bif wantedA all N T o then
        match evOne E call (evo E.ng T) o.op o.type H with
        | none => none
        | some (v, H') => match forceV (guardsAt all o.dst) v H'.tp with
          | (u, tp, ms) => match putA N T o.dst u with
            | none => none
            | some T' => evOps E call all N l T' { H' with tp := tp, ms := ms ++ H'.ms }
      else
        match putA N T o.dst (.tup []) with
        | none => none
        | some T' => evOps E call all N l T' H
    else none
mutual
def beqV : AV → AV → Bool
  | .bool a, .bool b => a == b
  | .int k a, .int k' b => decide (k = k') && decide (a = b)
  | .str a, .str b => decide (a = b)
  | .ptr a b, .ptr c d => Nat.beq a c && Nat.beq b d
  | .nilp, .nilp => true
  | .slc a b c d, .slc a' b' c' d' => Nat.beq a a' && Nat.beq b b' && Nat.beq c c' && Nat.beq d d'
  | .nils, .nils => true
  | .emp, .emp => true
  | .zer, .zer => true
  | .fn f vs, .fn g us => Nat.beq f g && beqVs vs us
  | .nilfn, .nilfn => true
  | .ifc t v, .ifc u x => Nat.beq t u && beqV v x
  | .nilif, .nilif => true
  | .agg vs, .agg us => beqVs vs us
  | .tup vs, .tup us => beqVs vs us
  | .z0, .z0 => true
  | .vnum k, .vnum k' => decide (k = k')
  | .verr a, .verr b => a == b
  | _, _ => false
def beqVs : List AV → List AV → Bool
  | [], [] => true
  | v :: vs, u :: us => beqV v u && beqVs vs us
  | _, _ => false
end
mutual
def sameS : AV → AV → Option (List Prop)
  | .vint k a, .vint k' b => bif decide (k = k') then some [a = b] else none
  | .int k a, .vint k' b => bif decide (k = k') then some [a = b] else none
  | .vint k a, .int k' b => bif decide (k = k') then some [a = b] else none
  | .vbool a, .vbool b => some [a = b]
  | .vbool a, .bool b => some [a = b]
  | .bool a, .vbool b => some [a = b]
  | .verr a, .verr b => some [a = b]
  | .vstr a, .vstr b => some [a = b]
  | .str a, .vstr b => some [a = b]
  | .ro n z r, .ro n' z' r' => bif Nat.beq z z' then some [n = n' ∧ r = r'] else none
  | .rp cs j, .rp cs' j' => bif Nat.beq j j' then some [cs = cs'] else none
  | .lo b n, .lo b' n' => bif Nat.beq b b' then some [n = n'] else none
  | .lp b i z j, .lp b' i' z' j' => bif Nat.beq b b' && Nat.beq z z' && Nat.beq j j' then some [i = i'] else none
  | .agg vs, .agg us => sameSs vs us
  | .tup vs, .tup us => sameSs vs us
  | .fn f vs, .fn g us => bif Nat.beq f g then sameSs vs us else none
  | x, y => bif beqV x y then some [] else none
def sameSs : List AV → List AV → Option (List Prop)
  | [], [] => some []
  | v :: vs, u :: us => match sameS v u with
    | none => none
    | some m1 => match sameSs vs us with
      | none => none
      | some m2 => some (m1 ++ m2)
  | _, _ => none
end
def ancGo : List Oper → Nat → Tr Nat → Tr Nat
  | [], _, A => A
  | o :: l, i, A =>
    ancGo l (i + 1) (Tr.setF 40 A i (some (o.after.toList.foldl (fun s e => bif Region.binds .any e then s ||| (2 ^ e.on) ||| ((A.get e.on).getD 0) else s) 0)))
def ancs (ops : List Oper) : Tr Nat := ancGo ops 0 .nil
def ancBit (A : Tr Nat) (j i : Nat) : Bool := match A.get j with
  | none => false
  | some m => m.testBit i
def pairOk (all : Array Oper) (A : Tr Nat) (oi : Oper) (i : Nat) (oj : Oper) (j : Nat) : Bool :=
  oi.apart all oj || (ancBit A j i && (match oi.dst, oj.dst with | some d, some e => !Nat.beq d e | _, _ => true))
def pairsGo (all : Array Oper) (A : Tr Nat) (oj : Oper) (j : Nat) : List Oper → Nat → Bool
  | [], _ => true
  | oi :: l, i => bif Nat.blt i j then pairOk all A oi i oj j && pairsGo all A oj j l (i + 1) else true
def orderGo (all : Array Oper) (ops : List Oper) (A : Tr Nat) : List Oper → Nat → Bool
  | [], _ => true
  | oj :: l, j => pairsGo all A oj j ops 0 && orderGo all ops A l (j + 1)
def noSelect : Op → Bool
  | .select _ _ => false
  | _ => true
def edgesGo : List Oper → Nat → Bool
  | [], _ => true
  | o :: l, i => o.after.toList.all (fun e => !Region.binds .any e || Nat.blt e.on i) && noSelect o.op && edgesGo l (i + 1)
def orderOk (all : Array Oper) : Bool := Nat.blt all.size 1000 && edgesGo all.toList 0 && orderGo all all.toList (ancs all.toList) all.toList 0
def looksIn : Op → Bool
  | .load _ _ => true
  | .slice _ _ _ _ _ => true
  | .convert _ _ _ => true
  | _ => false
structure Seen where
  i : Nat
  o : Oper
  T : Tr AV
  v : AV
structure Hm where
  m : Tr Blk
  nx : Nat
structure DSt where
  T : Tr AV
  H : Hm
  tp : List Bool
  ms : List Prop
  last : Option Nat
  pend : List (Nat × Nat × Blk)
  hist : List (Nat × Tr Blk)
  seen : List Seen
def merge (A : Tr Nat) (i : Nat) : List (Nat × Nat × Blk) → Tr Blk → Option (Tr Blk × List (Nat × Nat × Blk))
  | [], m => some (m, [])
  | (j, n, k) :: l, m =>
    bif ancBit A i j then
      match m.set n (some k) with
      | none => none
      | some m' => merge A i l m'
    else
      match merge A i l m with
      | none => none
      | some (m', l') => some (m', (j, n, k) :: l')
def mergeAll : List (Nat × Nat × Blk) → Tr Blk → Option (Tr Blk)
  | [], m => some m
  | (_, n, k) :: l, m => match m.set n (some k) with
    | none => none
    | some m' => mergeAll l m'
def evoR (ng : Nat) (T : Tr AV) (ts : List Nat) : Operand → Option AV
  | .tmp t => bif ts.any (fun u => Nat.beq u t) then T.get t else none
  | x => evo ng T x
def seesV (E : Env) (all : Array Oper) (o : Oper) (T : Tr AV) (v : AV) (m : Tr Blk) : Option (List Prop) :=
  match evS E.ti E.lz m (evoR E.ng T (o.looksAt all)) o.op o.type with
  | none => none
  | some (u, m1) => match sameS u v with
    | none => none
    | some m2 => some (m1 ++ m2)
def seesBack (E : Env) (all : Array Oper) (A : Tr Nat) (i : Nat) (o : Oper) (T : Tr AV) (v : AV) : List (Nat × Tr Blk) → Option (List Prop)
  | [] => some []
  | (e, m) :: l => bif ancBit A i e then some [] else match seesV E all o T v m with
    | none => none
    | some m1 => match seesBack E all A i o T v l with
      | none => none
      | some m2 => some (m1 ++ m2)
def seesOn (E : Env) (all : Array Oper) (A : Tr Nat) (e : Nat) (m : Tr Blk) : List Seen → Option (List Prop)
  | [] => some []
  | s :: l => match (bif ancBit A e s.i then some [] else seesV E all s.o s.T s.v m) with
    | none => none
    | some m1 => match seesOn E all A e m l with
      | none => none
      | some m2 => some (m1 ++ m2)
def noAct (all : Array Oper) : Bool := all.toList.all fun o => match kindOf o.op with
  | .act => false
  | _ => true
def dStep (E : Env) (call : CallF) (all : Array Oper) (A : Tr Nat) (N i0 : Nat) (o : Oper) (i : Nat) (s : DSt) : Option DSt :=
  bif knownG all s.T o then
    bif wantedA all N s.T o then
      match kindOf o.op with
      | .quiet => match (bif noAct all then merge A i s.pend s.H.m else some (s.H.m, [])) with
       | none => none
       | some (mq, _) => match evS E.ti E.lz mq (evoR E.ng s.T (o.looksAt all)) o.op o.type with
        | none => none
        | some (v, m1) => match forceV (guardsAt all o.dst) v s.tp with
          | (u, tp, m2) => match (bif looksIn o.op then seesBack E all A i o s.T u s.hist else some []) with
            | none => none
            | some m3 => match putA N s.T o.dst u with
              | none => none
              | some T' => some { s with T := T', tp := tp, ms := m1 ++ m2 ++ m3 ++ s.ms, seen := bif looksIn o.op then ⟨i, o, s.T, u⟩ :: s.seen else s.seen }
      | .make => match evA E.ti (evoR E.ng s.T (o.looksAt all)) o.op (i0 + i) with
        | none => none
        | some k => match putA N s.T o.dst k.v with
          | none => none
          | some T' => some { s with T := T', pend := (i, i0 + i, k.blk) :: s.pend }
      | .act =>
        bif (match s.last with | none => true | some e => ancBit A i e) then
          match merge A i s.pend s.H.m with
          | none => none
          | some (m, pend) => match evAct E call (evoR E.ng s.T (o.looksAt all)) o.op ⟨m, s.H.nx, s.tp, s.ms⟩ with
            | none => none
            | some (v, H') => match forceV (guardsAt all o.dst) v H'.tp with
              | (u, tp, m2) => match seesOn E all A i H'.m s.seen with
                | none => none
                | some m3 => match putA N s.T o.dst u with
                  | none => none
                  | some T' => some { T := T', H := ⟨H'.m, H'.nx⟩, tp := tp, ms := m2 ++ m3 ++ H'.ms, last := some i, pend := pend, hist := (i, s.H.m) :: s.hist, seen := s.seen }
        else none
    else
      match putA N s.T o.dst (.tup []) with
      | none => none
      | some T' => some { s with T := T' }
  else none
def evDrawGo (E : Env) (call : CallF) (all : Array Oper) (A : Tr Nat) (N i0 : Nat) : List Oper → Nat → DSt → Option DSt
  | [], _, s => some s
  | o :: l, i, s => match dStep E call all A N i0 o i s with
    | none => none
    | some s' => evDrawGo E call all A N i0 l (i + 1) s'
def evDraw (E : Env) (call : CallF) (all : Array Oper) (N : Nat) (T : Tr AV) (H : Hs) : Option (Tr AV × Hs) :=
  bif orderOk all then
    match evDrawGo E call all (ancs all.toList) N H.nx all.toList 0 ⟨T, ⟨H.m, H.nx + all.size⟩, H.tp, H.ms, none, [], [], []⟩ with
    | none => none
    | some s => match mergeAll s.pend s.H.m with
      | none => none
      | some m => some (s.T, ⟨m, s.H.nx, s.tp, s.ms⟩)
  else none
inductive AEx where
  | normal
  | exit (id : Nat)
  | ret
structure St where
  T : List (Nat × AV)
  m : List (Nat × Blk)
  nx : Nat
def trOf {α : Type} : List (Nat × α) → Tr α
  | [] => .nil
  | (i, v) :: l => (trOf l).setF 40 i (some v)
structure Ann where
  pre : St
  test : Option Bool
  post : Bool → AEx × St
def sameView : View → View → Option (List Prop)
  | .plain cs, .plain cs' => sameSs cs cs'
  | .con L, .con L' => some [L = L']
  | .ints k L, .ints k' L' => bif decide (k = k') then some [L = L'] else none
  | .rows k L b n, .rows k' L' b' n' => bif decide (k = k') && Nat.beq b b' then some [L = L' ∧ n = n'] else none
  | _, _ => none
def sameB (k k' : Blk) : Option (List Prop) :=
  bif Nat.beq k.elem k'.elem && Nat.beq k.sz k'.sz && (k.opn == k'.opn) && (k.own == k'.own) then
    (bif k'.own then sameView k.view k'.view else match k.view, k'.view with
      | .plain cs, .plain cs' => bif beqVs cs cs' then some [] else none
      | _, _ => none)
  else none
def subT (T : Tr AV) : List (Nat × AV) → Option (List Prop)
  | [] => some []
  | (t, v) :: l => match T.get t with
    | none => none
    | some u => match sameS u v with
      | none => none
      | some m1 => match subT T l with
        | none => none
        | some m2 => some (m1 ++ m2)
def subM (m : Tr Blk) : List (Nat × Blk) → Option (List Prop)
  | [] => some []
  | (b, k) :: l => match m.get b with
    | none => none
    | some k' => match sameB k' k with
      | none => none
      | some m1 => match subM m l with
        | none => none
        | some m2 => some (m1 ++ m2)
def okNames {α : Type} (l : List (Nat × α)) : Bool := l.all fun p => Nat.ble p.1 Tr.top
def Ann.run (A : Ann) (T : Tr AV) (H : Hs) : Option (AEx × Tr AV × Hs) :=
  bif Nat.ble H.nx A.pre.nx then
    match subT T A.pre.T with
    | none => none
    | some m1 => match subM H.m A.pre.m with
      | none => none
      | some m2 => match (match A.test with
          | none => (true, H)
          | some b => H.ask b) with
        | (d, H1) => match A.post d with
          | (e, S) => bif okNames S.T && okNames S.m && okNames A.pre.T && okNames A.pre.m then some (e, trOf S.T, ⟨trOf S.m, S.nx, H1.tp, m1 ++ m2 ++ H1.ms⟩) else none
  else none
def subC : List Nat → Code → Option Code
  | [], c => some c
  | 0 :: p, .seq a _ => subC p a
  | 1 :: p, .seq _ b => subC p b
  | 0 :: p, .cond _ a _ => subC p a
  | 1 :: p, .cond _ _ b => subC p b
  | 0 :: p, .block _ b => subC p b
  | 0 :: p, .loop b => subC p b
  | 0 :: p, .scope b => subC p b
  | _, _ => none
def beqL : List Nat → List Nat → Bool
  | [], [] => true
  | a :: l, b :: k => Nat.beq a b && beqL l k
  | _, _ => false
def evCode (E : Env) (call : CallF) (lo : List Nat → Option Ann) (N : Nat) : Nat → List Nat → Code → Tr AV → Hs → Option (AEx × Tr AV × Hs)
  | 0, _, _, _, _ => none
  | n + 1, p, c, T, H =>
    match c with
    | .skip => some (.normal, T, H)
    | .label _ => some (.normal, T, H)
    | .region _ ops false => match evOps E call ops N ops.toList T H with
      | none => none
      | some (T', H') => some (.normal, T', H')
    | .region _ ops true => match evDraw E call ops N T H with
      | none => none
      | some (T', H') => some (.normal, T', H')
    | .seq a b => match evCode E call lo N n (0 :: p) a T H with
      | some (.normal, T', H') => evCode E call lo N n (1 :: p) b T' H'
      | r => r
    | .cond x a b => match evo E.ng T x with
      | some (.bool true) => evCode E call lo N n (0 :: p) a T H
      | some (.bool false) => evCode E call lo N n (1 :: p) b T H
      | some (.vbool u) => match H.ask u with
        | (true, H1) => evCode E call lo N n (0 :: p) a T H1
        | (false, H1) => evCode E call lo N n (1 :: p) b T H1
      | _ => none
    | .block id b => match evCode E call lo N n (0 :: p) b T H with
      | some (.exit j, T', H') => bif Nat.beq j id then some (.normal, T', H') else some (.exit j, T', H')
      | r => r
    | .loop b => match lo p with
      | some A => A.run T H
      | none => match evCode E call lo N n (0 :: p) b T H with
        | some (.normal, T', H') => evCode E call lo N n p (.loop b) T' H'
        | r => r
    | .scope b => evCode E call lo N n (0 :: p) b T H
    | .exit id => some (.exit id, T, H)
    | .ret => some (.ret, T, H)
    | _ => none
def resA (ti : Tr TypeInfo) (T : Tr AV) (m : Tr Blk) : List ResultVar → Option (List AV)
  | [] => some []
  | .tmp t :: l => match T.get t with
    | none => none
    | some v => match resA ti T m l with
      | none => none
      | some vs => some (v :: vs)
  | .cell a t :: l => match T.get a with
    | none => none
    | some x => match qLoad ti m t x with
      | none => none
      | some v => match resA ti T m l with
        | none => none
        | some vs => some (v :: vs)
def tupA : List AV → AV
  | [v] => v
  | vs => .tup vs
def bodyF (E : Env) (call : CallF) (lo : List Nat → Option Ann) (f : Nat) (args : List AV) (H : Hs) : Option (AV × Hs) :=
  match E.fs.get f with
  | none => none
  | some fn => match fn.body with
    | none => none
    | some c => bif !Nat.blt args.length 1000 then none else match evCode E call lo (Nat.max args.length fn.ntmps) 100000 [] c (Tr.ofList args) H with
      | some (.exit _, _, _) => none
      | some (_, T, H') => match resA E.ti T H'.m fn.results.toList with
        | none => none
        | some vs => some (tupA vs, H')
      | none => none
def noLo : List Nat → Option Ann := fun _ => none
def callF (E : Env) (orc : CallF) : Nat → CallF
  | 0 => fun _ _ _ => none
  | n + 1 => fun f args H =>
    match orc f args H with
    | some r => some r
    | none => bodyF E (callF E orc n) noLo f args H
end Go.QfSy

namespace Go.QfSy
structure EnvOk (P : Program) (E : Env) : Prop where
  ti : TabOk P E.ti
  fs : ∀ f, E.fs.get f = P.funcs[f]?
  lz : LiesOk P E.lz
  noesc : ∀ x w, (callFunc E.noesc #[x]).run P w = .ok (.value x) w
  names : ∀ (f : Nat) (fn : Func), P.funcs[f]? = some fn → (fn.name == "runtime.NumGoroutine") = false
  mixed : P.follows .mixedOrders = true
def Glob (ng : Nat) (γ : Gm) : Prop := ∀ g, g < ng → γ g = some (g, 0)
structure FRel (γ : Gm) (ng : Nat) (T : Tr AV) (N : Nat) (a : Act) : Prop where
  defers : a.defers = []
  size : a.tmps.size = N
  tmp : ∀ t v, T.get t = some v → VRel γ v (a.tmps.getD t undef)
  glob : Glob ng γ
structure RunR (γ : Gm) (H : Hs) (w : World) (γ' : Gm) (H' : Hs) (w' : World) : Prop where
  stp : Stp γ H.m.get w γ' H'.m.get H'.nx w'
  nx : H.nx ≤ H'.nx
  keep : ∀ b, b < H.nx → γ' b = γ b
theorem RunR.refl {γ : Gm} {H : Hs} {w : World} (h : HRel γ H.m.get H.nx w) : RunR γ H w γ H w := ⟨Stp.refl h, Nat.le_refl _, fun _ _ => rfl⟩
theorem RunR.trans {γ γ1 γ2 : Gm} {H H1 H2 : Hs} {w w1 w2 : World} (h : RunR γ H w γ1 H1 w1) (k : RunR γ1 H1 w1 γ2 H2 w2) : RunR γ H w γ2 H2 w2 :=
  ⟨h.stp.trans k.stp, Nat.le_trans h.nx k.nx, fun b hb => (k.keep b (Nat.lt_of_lt_of_le hb h.nx)).trans (h.keep b hb)⟩
theorem FRel.mono {γ γ' : Gm} {ng : Nat} {T : Tr AV} {N : Nat} {a : Act} (h : FRel γ ng T N a) (hg : γ.le γ') : FRel γ' ng T N a :=
  ⟨h.defers, h.size, fun t v hv => (h.tmp t v hv).mono hg, fun g hb => hg.nm _ _ (h.glob g hb)⟩
def CallOk (P : Program) (ng : Nat) (call : CallF) : Prop :=
  ∀ f args H v H', call f args H = some (v, H') → (∀ p ∈ H.ms, p ∈ H'.ms) ∧ ((∀ p ∈ H'.ms, p) → ∀ γ w Args, HRel γ H.m.get H.nx w → VsRel γ args Args → Glob ng γ →
    (∃ fn, P.funcs[f]? = some fn ∧ fn.body.isSome = true) ∧
    Calls P f Args.toArray w fun e w' => ∃ V γ', e = .returned V ∧ VRel γ' v V ∧ RunR γ H w γ' H' w')
theorem evo_ok {γ : Gm} {ng : Nat} {T : Tr AV} {N : Nat} {a : Act} (h : FRel γ ng T N a) (x : Operand) (v : AV) (hq : evo ng T x = some v) : VRel γ v (a.eval x) := by
  cases x with
  | tmp t => exact h.tmp t v hq
  | const V => exact ofVal_ok γ hq
  | global g =>
    simp only [evo] at hq
    cases hb : Nat.blt g ng with
    | false => simp [hb] at hq
    | true =>
      simp only [hb, cond_true, Option.some.injEq] at hq
      subst hq
      exact .ptr 0 (h.glob g (Nat.le_of_ble_eq_true hb))
  | func f => simp only [evo, Option.some.injEq] at hq; subst hq; exact .fn f .nil
theorem put_ok {γ : Gm} {ng : Nat} {T T' : Tr AV} {N : Nat} {a : Act} (h : FRel γ ng T N a) {dst : Option Nat} {v : AV} {V : Value} (hv : VRel γ v V) (hq : putA N T dst v = some T') : FRel γ ng T' N (a.put dst V) := by
  cases dst with
  | none => simp only [putA, Option.some.injEq] at hq; subst hq; exact h
  | some d =>
    simp only [putA] at hq
    cases hb : Nat.blt d N with
    | false => simp [hb] at hq
    | true =>
      simp only [hb, cond_true] at hq
      have hd : d < N := Nat.le_of_ble_eq_true hb
      refine ⟨h.defers, by simp [Act.put, h.size], fun t u hu => ?_, h.glob⟩
      rw [Tr.get_set hq t] at hu
      have hsz := h.size
      by_cases e : t = d
      · subst e
        rw [if_pos rfl] at hu
        cases hu
        simp only [Act.put]
        have : (a.tmps.setIfInBounds t V).getD t undef = V := by
          simp [Array.getD, hsz, hd]
        rw [this]; exact hv
      · rw [if_neg e] at hu
        have : (a.put (some d) V).tmps.getD t undef = a.tmps.getD t undef := by
          have := Act.eval_put (a := a) (dst := some d) (v := V) (x := .tmp t) (by intro d' hd'; cases hd'; intro h; cases h; exact e rfl)
          exact this
        rw [this]; exact h.tmp t u hu
theorem yield_known {γ : Gm} {X : Value} {x : AV} (ht : VRel γ x X) : (match (some X : Option Value) with | some (.bool b) => some b | _ => none) = (match (some x : Option AV) with | some (.bool b) => some b | some (.vbool b) => some b | _ => none) := by
  cases ht with
  | verr h => rcases h with ⟨_, rfl⟩ | ⟨_, _, _, rfl⟩ <;> rfl
  | ro h => cases h <;> rfl
  | _ => rfl
theorem yieldA_ok {γ : Gm} {ng : Nat} {T : Tr AV} {N : Nat} {a : Act} (h : FRel γ ng T N a) (ops : Array Oper) (j : Nat) (hk : ∀ oj d, ops[j]? = some oj → oj.dst = some d → (T.get d).isSome = true) : yielded ops a.tmps j = yieldA ops N T j := by
  unfold yielded yieldA
  cases ho : ops[j]? with
  | none => rfl
  | some o =>
    simp only [Option.bind_some]
    cases hd : o.dst with
    | none => rfl
    | some d =>
      simp only [Option.bind_some]
      have hsz := h.size
      obtain ⟨x, hx⟩ := Option.isSome_iff_exists.1 (hk o d ho hd)
      have ht := h.tmp d x hx
      cases hb : Nat.blt d N with
      | true =>
        have hlt : d < N := Nat.le_of_ble_eq_true hb
        have hlt' : d < a.tmps.size := by rw [hsz]; exact hlt
        rw [Array.getElem?_eq_getElem hlt']
        have e : a.tmps.getD d undef = a.tmps[d] := by simp [Array.getD, hlt']
        rw [e] at ht
        simp only [cond_true]
        rw [hx]
        exact yield_known ht
      | false =>
        have hge : N ≤ d := by
          rcases Nat.lt_or_ge d N with h' | h'
          · have : Nat.blt d N = true := Nat.ble_eq_true_of_le h'
            rw [this] at hb; cases hb
          · exact h'
        have hge' : a.tmps.size ≤ d := by rw [hsz]; exact hge
        rw [Array.getElem?_eq_none hge']
        rfl
theorem known_at {ops : Array Oper} {T : Tr AV} {o : Oper} (hk : knownG ops T o = true) {j : Nat} {want : Bool} (hg : o.guard = some (j, want)) : ∀ oj d, ops[j]? = some oj → oj.dst = some d → (T.get d).isSome = true := by
  intro oj d h1 h2
  unfold knownG at hk
  rw [hg] at hk
  simp only [h1, h2] at hk
  cases hT : T.get d with
  | none => rw [hT] at hk; cases hk
  | some v => rfl
theorem wantedA_ok {γ : Gm} {ng : Nat} {T : Tr AV} {N : Nat} {a : Act} (h : FRel γ ng T N a) (ops : Array Oper) (o : Oper) (hk : knownG ops T o = true) : Region.wanted o (yielded ops a.tmps) = wantedA ops N T o := by
  unfold Region.wanted wantedA
  cases hg : o.guard with
  | none => rfl
  | some p =>
    obtain ⟨j, want⟩ := p
    simp only [yieldA_ok h ops j (known_at hk hg)]
    cases yieldA ops N T j with
    | none => rfl
    | some b => cases want <;> cases b <;> rfl
def Imp (v u : AV) : Prop := ∀ γ V, VRel γ v V → VRel γ u V
theorem Imp.refl (v : AV) : Imp v v := fun _ _ h => h
theorem forceV_ok {g : Bool} {v u : AV} {tp tp' : List Bool} {ms : List Prop} (h : forceV g v tp = (u, tp', ms)) (hm : ∀ p ∈ ms, p) : Imp v u := by
  unfold forceV at h
  split at h
  · rename_i b
    cases g with
    | true =>
      simp only [cond_true] at h
      split at h
      · cases h
        have : b = true := all_one hm
        subst this
        intro γ V hV
        cases hV; exact .bool _
      · cases h
        have := show Dec b _ from all_one hm
        unfold Dec at this
        subst this
        intro γ V hV
        cases hV; exact .bool _
    | false => cases h; exact Imp.refl _
  · cases h; exact Imp.refl _
theorem bytesA_ok {γ : Gm} {vs : List AV} {Vs : List Value} (h : VsRel γ vs Vs) {bs : List UInt8} (hq : bytesA vs = some bs) : Vs = bs.map (fun b => Value.int .u8 b.toNat) := by
  induction vs generalizing Vs bs with
  | nil => cases h; simp [bytesA] at hq; subst hq; rfl
  | cons v vs ih =>
    cases h with
    | cons hv ht =>
      cases v <;> try (simp [bytesA] at hq; done)
      rename_i k n
      cases k <;> try (simp [bytesA] at hq; done)
      simp only [bytesA] at hq
      split at hq
      · cases hq
      · rename_i us hus
        cases hb : (decide (0 ≤ n) && decide (n < 256)) with
        | false => simp [hb] at hq
        | true =>
          simp only [hb, cond_true, Option.some.injEq] at hq
          subst hq
          simp only [Bool.and_eq_true, decide_eq_true_eq] at hb
          cases hv
          rw [ih ht hus]
          simp only [List.map_cons]
          congr 1
          have : (n.toNat.toUInt8).toNat = n.toNat := by
            simp [Nat.toUInt8, UInt8.toNat_ofNat']
            omega
          rw [this]
          congr 1
          omega
theorem freeze_stp {γ : Gm} {f : Hf} {nx : Nat} {w : World} (hr : HRel γ f nx w) {b : Nat} {k : Blk} (hb : f b = some k) (hown : k.own = true) {B x : Nat} (hg : γ b = some (B, x)) (o n : Nat) : Stp γ f w γ (upd f b none) nx (w.freeze ⟨B, o, none⟩ n) := by
  have hfzB : γ.fz B = none := hr.fzo b k B x hb hown hg
  have hheap : ∀ i, i ≠ B → (w.freeze ⟨B, o, none⟩ n).heap[i]? = w.heap[i]? := by
    intro i hi
    unfold World.freeze
    split
    · rfl
    · simp only [Array.getElem?_modify]
      rw [if_neg (fun e => hi e.symm)]
  have hsz : (w.freeze ⟨B, o, none⟩ n).heap.size = w.heap.size := by
    unfold World.freeze
    split
    · rfl
    · simp
  have hold : ∀ c kc, upd f b none c = some kc → f c = some kc ∧ c ≠ b := by
    intro c kc hc
    by_cases e : c = b
    · subst e; rw [upd_same] at hc; cases hc
    · rw [upd_other f _ e] at hc; exact ⟨hc, e⟩
  have hos : (w.freeze ⟨B, o, none⟩ n).os = w.os ∧ (w.freeze ⟨B, o, none⟩ n).tape = w.tape ∧ (w.freeze ⟨B, o, none⟩ n).output = w.output := by
    unfold World.freeze
    split <;> exact ⟨rfl, rfl, rfl⟩
  refine ⟨Gm.le_refl γ, ⟨?_, ?_, hr.fresh, ?_, ?_⟩, by rw [hsz]; omega, hos.1, hos.2.1, hos.2.2, ?_, ?_, ?_, ?_, fun _ _ h => .inl h⟩
  · intro c kc hc
    obtain ⟨h1, h2⟩ := hold c kc hc
    obtain ⟨B2, x2, cs2, ex2, q1, q2, q3⟩ := hr.blk c kc h1
    refine ⟨B2, x2, cs2, ex2, q1, ?_, q3⟩
    rw [hheap B2 (fun e2 => h2 (hr.inj c b kc k B x2 x h1 hb (by rw [← e2]; exact q1) hg))]
    exact q2
  · intro c c' kc kc' B1 y y' q1 q2 q3 q4
    exact hr.inj _ _ _ _ _ _ _ (hold _ _ q1).1 (hold _ _ q2).1 q3 q4
  · intro B' y hB'
    rw [hheap B' (fun e => by rw [e, hfzB] at hB'; cases hB')]
    exact hr.fzr B' y hB'
  · intro c kc B' y hc ho hg'
    exact hr.fzo c kc B' y (hold _ _ hc).1 ho hg'
  · intro i hi hni
    exact hheap i (fun e => hni (e ▸ ⟨b, k, x, hb, hown, hg⟩))
  · intro i hi ⟨c, kc, y, q1, q2, q3⟩
    exact ⟨c, kc, y, (hold _ _ q1).1, q2, q3⟩
  · intro c kc hc ho
    exact (hold _ _ hc).1
  · intro c kc hc
    exact .inl ⟨kc, (hold _ _ hc).1⟩
theorem eStr_ok {P : Program} {ti : Tr TypeInfo} (ht : TabOk P ti) {γ : Gm} {h h' : Tr Blk} {nx : Nat} {w : World} (hr : HRel γ h.get nx w) {pt it ty : Nat} {p n v : AV} {X Y : Value} (hx : VRel γ p X) (hy : VRel γ n Y) (hq : eStr ti h pt p n = some (v, h')) :
    ∃ V w', (Builtin.unsafeString_ #[pt, it] ty #[X, Y]).run P w = .ok V w' ∧ Stp γ h.get w γ h'.get nx w' ∧ VRel γ v V := by
  unfold eStr at hq
  split at hq
  · cases hy
    split at hq
    · cases hq; cases hx
      exact ⟨_, w, Lib.run_unsafeString_none w pt it ty none, Stp.refl hr, .str _⟩
    · cases hq
      cases hx
      exact ⟨_, w, Lib.run_unsafeString_none w pt it ty _, Stp.refl hr, .str _⟩
    · cases hq
  · rename_i l hl0
    cases hy
    split at hq
    · rename_i b
      cases hx with
      | ptr _ hg =>
        rename_i B x
        split at hq
        · rename_i e hd
          split at hq
          · rename_i hs
            split at hq
            · cases hq
            · rename_i k hk
              cases hb : (k.own && Nat.beq k.elem e && decide (0 < l) && decide (l ≤ 1000000000) && Nat.ble l.toNat k.cells.length) with
              | false => simp [hb] at hq
              | true =>
                simp only [hb, cond_true] at hq
                simp only [Bool.and_eq_true, decide_eq_true_eq] at hb
                obtain ⟨⟨⟨⟨b1, b2⟩, b3⟩, b4⟩, b5⟩ := hb
                have b2 := beq_eq b2
                have b5 := Nat.le_of_ble_eq_true b5
                split at hq
                · cases hq
                · rename_i bs hbs
                  split at hq
                  · cases hq
                  · rename_i h2 hset
                    cases hq
                    obtain ⟨Vs, p1, p2, p3⟩ := hr.load hk hg 0 l.toNat (by omega)
                    rw [List.drop_zero] at p1
                    have hVs := bytesA_ok p1 hbs
                    have hbl : bs.length = l.toNat := by rw [← p2, hVs]; simp
                    obtain ⟨inf, i1, i2⟩ := info_of_szT ht hs
                    obtain ⟨B', x', cs, ex, g1, g2, g3, g4, g5⟩ := hr.blk b k hk
                    rw [hg] at g1
                    cases g1
                    have hcl := g3.length
                    have hrun := Lib.run_unsafeString_row (P := P) w pt it ty e (und_ok ht hd) (by simp [Program.cellsOf, i1, i2]) B (cs ++ ex).length (by simp [World.shape?, g2, b2]) bs (by intro e0; rw [e0] at hbl; simp at hbl; omega) (by simp; omega) (by omega) (fun j u hu => by
                      refine p3 j _ ?_
                      rw [hVs, List.getElem?_map, hu]; rfl)
                    have hl2 : (bs.length : Int) = l := by omega
                    rw [hl2] at hrun
                    refine ⟨_, _, hrun, ?_, .str _⟩
                    rw [get_set_upd hset]
                    exact freeze_stp hr hk b1 hg 0 _
          · cases hq
        · cases hq
    · cases hq
  · cases hq
theorem vints_ok {γ : Gm} {k : IntKind} : ∀ {L : List Int} {Vs : List Value}, VsRel γ (L.map (AV.vint k)) Vs → Vs = L.map (Value.int k)
  | [], _, h => by cases h; rfl
  | x :: L, _, h => by
    cases h with
    | cons h t => cases h; rw [vints_ok t]; rfl
theorem sStr_ms {ti : Tr TypeInfo} {H H' : Hs} {pt b : Nat} {n v : AV} (hq : sStr ti H pt b n = some (v, H')) : ∀ p ∈ H.ms, p ∈ H'.ms := by
  intro p hp
  unfold sStr at hq
  split at hq
  · split at hq
    · split at hq
      · split at hq
        · cases hq
        · split at hq
          · replace hq := (bif_some hq).2
            split at hq
            · cases hq
            · cases hq; simp [hp]
          · cases hq
      · cases hq
    · cases hq
  · cases hq
theorem sStr_ok {P : Program} {ti : Tr TypeInfo} (ht : TabOk P ti) {γ : Gm} {H H' : Hs} {w : World} (hr : HRel γ H.m.get H.nx w) {pt it ty b : Nat} {n v : AV} {X Y : Value} (hx : VRel γ (.lp b 0 1 0) X) (hy : VRel γ n Y) (hq : sStr ti H pt b n = some (v, H')) (hm : ∀ p ∈ H'.ms, p) :
    ∃ V w', (Builtin.unsafeString_ #[pt, it] ty #[X, Y]).run P w = .ok V w' ∧ Stp γ H.m.get w γ H'.m.get H'.nx w' ∧ VRel γ v V ∧ H'.nx = H.nx := by
  have hy := hy.clr
  unfold sStr at hq
  split at hq
  · rename_i l hl0
    rw [hl0] at hy
    cases hy
    split at hq
    · rename_i e hd
      split at hq
      · rename_i hs
        split at hq
        · cases hq
        · rename_i k hk
          split at hq
          · rename_i L hL
            obtain ⟨hb, hq'⟩ := bif_some hq
            clear hq
            obtain ⟨hb, hb3⟩ := and_split hb
            obtain ⟨hown, hb2⟩ := and_split hb
            have hb2 := beq_eq hb2
            split at hq'
            · cases hq'
            · rename_i m hset
              cases hq'
              have h1 : 0 < l ∧ l = (L.length : Int) ∧ l ≤ 1000000000 := hm _ (by simp)
              have h2 : ∀ x ∈ L, 0 ≤ x ∧ x < 256 := hm (∀ x ∈ L, 0 ≤ x ∧ x < 256) (by simp)
              obtain ⟨g0, g1, g2⟩ := h1
              generalize hX : X = X' at hx
              cases hx with
              | lp _ _ _ hg =>
                rename_i B x
                have hcells : k.cells = L.map (AV.vint .u8) := by unfold Blk.cells; rw [hL]; rfl
                obtain ⟨Vs, p1, p2, p3⟩ := hr.load hk hg 0 L.length (by rw [hcells]; simp)
                rw [List.drop_zero, List.take_of_length_le (by rw [hcells]; simp), hcells] at p1
                have hVs := vints_ok p1
                obtain ⟨inf, i1, i2⟩ := info_of_szT ht hs
                obtain ⟨B', x', cs, ex, q1, q2, q3, q4, q5⟩ := hr.blk b k hk
                rw [hg] at q1
                cases q1
                have hcl := q3.length
                rw [hcells, List.length_map] at hcl
                have hrun := Lib.run_unsafeString_row (P := P) w pt it ty e (und_ok ht hd) (by simp [Program.cellsOf, i1, i2]) B (cs ++ ex).length (by simp [World.shape?, q2, hb2]) (L.map fun n => UInt8.ofNat n.toNat) (by intro e0; have := congrArg List.length e0; simp at this; subst this; simp at g1; omega) (by simp; omega) (by simp; omega) (fun j u hu => by
                  refine p3 j _ ?_
                  rw [List.getElem?_map] at hu
                  obtain ⟨y, hy1, hy2⟩ := Option.map_eq_some_iff.1 hu
                  obtain ⟨z1, z2⟩ := h2 y (List.mem_of_getElem? hy1)
                  rw [hVs, List.getElem?_map, hy1, ← hy2]
                  simp only [Option.map_some, Option.some.injEq, Value.int.injEq, true_and]
                  rw [UInt8.toNat_ofNat']
                  omega)
                rw [List.length_map, ← g1] at hrun
                refine ⟨_, w.freeze ⟨B, 0, none⟩ L.length, hrun, ?_, VRel.vstr (strOfNums L), rfl⟩
                show Stp γ H.m.get w γ m.get H.nx _
                rw [get_set_upd hset]
                exact freeze_stp hr hk hown hg 0 _
          · cases hq
      · cases hq
    · cases hq
  · cases hq
theorem sApp_ms {ti : Tr TypeInfo} {conT t0 t1 : Nat} {u y v : AV} {H H' : Hs} (hq : sApp ti conT t0 t1 u y H = some (v, H')) : ∀ p ∈ H.ms, p ∈ H'.ms := by
  intro p hp
  unfold sApp at hq
  split at hq
  case h_2 => cases hq
  split at hq
  case h_2 => cases hq
  rename_i e hd _ _ _ z by_ zs hz hby hzs
  cases hzl : (!(Nat.beq zs.length z && Nat.ble by_ 1000)) with
  | true => rw [hzl] at hq; cases hq
  | false =>
    rw [hzl] at hq
    simp only [cond_false] at hq
    split at hq
    · cases hq
    rename_i n V ms hsrc
    have ak := ask_ms H (Nat.beq n 0)
    have asked : ∀ (u' : AV), (bif isRo y then
            (match H.ask (Nat.beq n 0) with
            | (true, H1) => some (u', ({ H1 with nx := H1.nx + 1, ms := ms ++ H1.ms } : Hs))
            | (false, H1) => (match H1.m.set H1.nx (some ⟨V, e, z, true, true⟩) with
              | none => none
              | some m => some (AV.lo H1.nx n, ({ H1 with m := m, nx := H1.nx + 1, ms := (0 < n ∧ n ≤ 1000000) :: (ms ++ H1.ms) } : Hs))))
          else (match H.m.set H.nx (some ⟨V, e, z, true, true⟩) with
              | none => none
              | some m => some (AV.lo H.nx n, ({ H with m := m, nx := H.nx + 1, ms := (0 < n ∧ n ≤ 1000000) :: (ms ++ H.ms) } : Hs)))) = some (v, H') → p ∈ H'.ms := by
      intro u' hh
      cases hro : isRo y with
      | false =>
        rw [hro] at hh
        simp only [cond_false] at hh
        split at hh
        · cases hh
        · cases hh; simp [hp]
      | true =>
        rw [hro] at hh
        simp only [cond_true] at hh
        generalize hak : H.ask (Nat.beq n 0) = r at hh ak
        obtain ⟨d, H1⟩ := r
        have h1 : p ∈ H1.ms := by rw [show H1.ms = _ from ak]; simp [hp]
        cases d with
        | true => cases hh; simp [h1]
        | false =>
          simp only at hh
          split at hh
          · cases hh
          · cases hh; simp [h1]
    split at hq
    · split at hq
      · cases hq
      · split at hq
        · cases hq
        · replace hq := (bif_some hq).2
          split at hq
          · cases hq
          · split at hq
            · cases hq
            · cases hq; simp [hp]
    · exact asked _ hq
    · exact asked _ hq
    · cases hq
theorem sApp3_ms {ti : Tr TypeInfo} {conT t0 t1 : Nat} {u y v : AV} {H H' : Hs} (hq : sApp3 ti conT t0 t1 u y H = some (v, H')) : ∀ p ∈ H.ms, p ∈ H'.ms := by
  unfold sApp3 at hq
  split at hq
  · rename_i r hr
    cases hq
    exact sApp_ms hr
  · exact sRow_ms hq
theorem eApp2_ms {E : Env} {t0 t1 : Nat} {u y v : AV} {H H' : Hs} (hq : eApp2 E t0 t1 u y H = some (v, H')) : ∀ p ∈ H.ms, p ∈ H'.ms := by
  unfold eApp2 at hq
  split at hq
  · rename_i r hr
    cases hq
    split at hr
    · exact sApp3_ms hr
    · exact sApp3_ms hr
    · exact sApp3_ms (bif_some hr).2
    · replace hr := (bif_some hr).2
      split at hr
      · cases hr
      · rename_i k _
        cases ho : k.opn with
        | true => rw [ho] at hr; cases hr
        | false => rw [ho] at hr; exact sApp3_ms hr
    · cases hr
  · split at hq
    · cases hq
    · cases hq; exact fun p hp => hp
theorem eStore2_ms {E : Env} {t : Nat} {u y : AV} {H H' : Hs} (hq : eStore2 E t u y H = some H') : ∀ p ∈ H.ms, p ∈ H'.ms := by
  unfold eStore2 at hq
  split at hq
  · split at hq
    · cases hq
    · cases hq; exact fun p hp => by simp [hp]
  · split at hq
    · cases hq
    · cases hq; exact fun p hp => hp
section
variable {P : Program} {E : Env} (hE : EnvOk P E) {call : CallF} (hc : CallOk P E.ng call)
include hc in
theorem evAct_ms {op : Op} {H H' : Hs} {v : AV} {ρ : Operand → Option AV} (hq : evAct E call ρ op H = some (v, H')) : ∀ p ∈ H.ms, p ∈ H'.ms := by
  unfold evAct at hq
  split at hq
  · split at hq
    · cases hq
    · split at hq
      · cases hq
      · split at hq
        · cases hq
        · rename_i h1; cases hq; exact eStore2_ms h1
  · split at hq
    · cases hq
    · split at hq
      · cases hq
      · exact eApp2_ms hq
  · split at hq
    · cases hq
    · split at hq
      · cases hq
      · split at hq
        · cases hq
        · cases hq; exact fun p hp => hp
  · split at hq
    · cases hq
    · split at hq
      · cases hq
      · split at hq
        · exact sStr_ms hq
        · split at hq
          · cases hq
          · cases hq; exact fun p hp => hp
  · split at hq
    · split at hq
      · cases hq
      · rename_i g caps hf _ vs hvs
        cases hne : Nat.beq g E.noesc with
        | true =>
          simp only [hne, cond_true] at hq
          split at hq
          · cases hq; exact fun p hp => hp
          · cases hq
        | false =>
          simp only [hne, cond_false] at hq
          exact (hc _ _ _ _ _ hq).1
    · cases hq
  · cases hq
include hc in
theorem evOne_ms {op : Op} {ty : Nat} {H H' : Hs} {v : AV} {ρ : Operand → Option AV} (hq : evOne E call ρ op ty H = some (v, H')) : ∀ p ∈ H.ms, p ∈ H'.ms := by
  unfold evOne at hq
  split at hq
  · split at hq
    · cases hq
    · cases hq; exact fun p hp => by simp [Hs.must, hp]
  · split at hq
    · cases hq
    · split at hq
      · cases hq
      · cases hq; exact fun p hp => hp
  · exact evAct_ms hc hq
include hc in
theorem evOps_ms {all : Array Oper} {N : Nat} : ∀ (l : List Oper) (T T' : Tr AV) (H H' : Hs), evOps E call all N l T H = some (T', H') → ∀ p ∈ H.ms, p ∈ H'.ms := by
  intro l
  induction l with
  | nil => intro T T' H H' hq p hp; simp only [evOps, Option.some.injEq, Prod.mk.injEq] at hq; obtain ⟨rfl, rfl⟩ := hq; exact hp
  | cons o l ih =>
    intro T T' H H' hq p hp
    simp only [evOps] at hq
    replace hq := (bif_some hq).2
    cases hw : wantedA all N T o with
    | true =>
      simp only [hw, cond_true] at hq
      split at hq
      · cases hq
      · rename_i v H1 hone
        split at hq
        · cases hq
        · exact ih _ _ _ _ hq p (by simp [evOne_ms hc hone p hp])
    | false =>
      simp only [hw, cond_false] at hq
      split at hq
      · cases hq
      · exact ih _ _ _ _ hq p hp
end
section
variable {P : Program} {E : Env} (hE : EnvOk P E) {call : CallF} (hc : CallOk P E.ng call)
include hE hc
theorem evAct_ok {o : Oper} {H H' : Hs} {v : AV} {ρ : Operand → Option AV} {γ : Gm} {w : World} {a : Act} (hr : HRel γ H.m.get H.nx w) (hρ : ∀ x v, ρ x = some v → VRel γ v (a.eval x)) (hgl : Glob E.ng γ) (hq : evAct E call ρ o.op H = some (v, H')) (hm : ∀ p ∈ H'.ms, p)
    {K : Act → World → Prop} {Q : Exit → Act → World → Prop} (hK : ∀ V w' γ', VRel γ' v V → RunR γ H w γ' H' w' → K (a.put o.dst V) w') : o.wp P a w K Q := by
  obtain ⟨dst, op, ty, pos, after, guard⟩ := o
  simp only at hq hK
  have val : ∀ V w', (execOp a.eval ⟨dst, op, ty, pos, after, guard⟩).run P w = .ok (.value V) w' → K (a.put dst V) w' → Oper.wp P ⟨dst, op, ty, pos, after, guard⟩ a w K Q := by
    intro V w' h1 h2
    unfold Oper.wp
    rw [h1, Oper.upon_value]
    exact h2
  unfold evAct at hq
  split at hq
  · rename_i t x y
    split at hq
    · cases hq
    · rename_i u hu
      split at hq
      · cases hq
      · rename_i z hz
        split at hq
        · cases hq
        · rename_i H1 hst
          cases hq
          have hst' : ∃ w', (Instr.storeAt t (a.eval x) (a.eval y)).run P w = .ok () w' ∧ Stp γ H.m.get w γ H'.m.get H.nx w' ∧ H'.nx = H.nx := by
            unfold eStore2 at hst
            split at hst
            · split at hst
              · cases hst
              · rename_i m ms hss
                cases hst
                obtain ⟨w', h1, h2⟩ := sStore_ok (P := P) hE.ti hr (hρ _ _ hu) (hρ _ _ hz) hss (fun p hp => hm p (by simp [hp]))
                exact ⟨w', h1, h2, rfl⟩
            · split at hst
              · cases hst
              · rename_i m hss
                cases hst
                obtain ⟨w', h1, h2⟩ := eStore_ok (P := P) hE.ti hr (hρ _ _ hu) (hρ _ _ hz) hss
                exact ⟨w', h1, h2, rfl⟩
          obtain ⟨w', h1, h2, h3⟩ := hst'
          have hx : (execOp a.eval ⟨dst, .store t x y, ty, pos, after, guard⟩).run P w = .ok .skip w' := by simp [execOp, h1]
          unfold Oper.wp
          rw [hx, Oper.upon_skip]
          exact hK undef w' γ (.tup .nil) ⟨by rw [h3]; exact h2, by rw [h3]; exact Nat.le_refl _, fun _ _ => rfl⟩
  · rename_i s x t0 t1
    split at hq
    · cases hq
    · rename_i u hu
      split at hq
      · cases hq
      · rename_i z hz
        have happ : ∃ V γ' w', (Builtin.append_ #[t0, t1] ty #[a.eval s, a.eval x]).run P w = .ok V w' ∧ Stp γ H.m.get w γ' H'.m.get H'.nx w' ∧ VRel γ' v V ∧ (∀ j, j ≠ H.nx → γ' j = γ j) ∧ H'.nx = H.nx + 1 := by
          unfold eApp2 at hq
          have key : sApp3 E.ti E.conT t0 t1 u z H = some (v, H') → ∃ V γ' w', (Builtin.append_ #[t0, t1] ty #[a.eval s, a.eval x]).run P w = .ok V w' ∧ Stp γ H.m.get w γ' H'.m.get H'.nx w' ∧ VRel γ' v V ∧ (∀ j, j ≠ H.nx → γ' j = γ j) ∧ H'.nx = H.nx + 1 := fun hs =>
            sApp3_ok (P := P) hE.ti hr (hρ _ _ hu) (hρ _ _ hz) hs hm ty (ts := #[t0, t1]) (args := #[a.eval s, a.eval x]) (by simp) (by simp) (by simp) (by simp)
          split at hq
          · rename_i r hr'
            cases hq
            split at hr'
            · exact key hr'
            · exact key hr'
            · exact key (bif_some hr').2
            · rename_i b o n c
              have hb0 := (bif_some hr').1
              replace hr' := (bif_some hr').2
              obtain ⟨hb0, _⟩ := and_split hb0
              obtain ⟨hb0, hc0⟩ := and_split hb0
              obtain ⟨_, hn0⟩ := and_split hb0
              have hc0 := Nat.eq_of_beq_eq_true hc0
              have hn0 := Nat.eq_of_beq_eq_true hn0
              subst hc0
              subst hn0
              split at hr'
              · cases hr'
              · rename_i k hk
                cases ho : k.opn with
                | true => rw [ho] at hr'; cases hr'
                | false =>
                  rw [ho] at hr'
                  simp only [cond_false] at hr'
                  have hz0 : VRel γ .z0 (a.eval s) := by
                    have h0 := hρ _ _ hu
                    generalize a.eval s = Q at h0
                    cases h0 with
                    | slc _ _ _ hg =>
                      obtain ⟨B', x', cs, ex, g1, g2, g3, g4, g5⟩ := hr.blk b k hk
                      rw [hg] at g1
                      cases g1
                      have := g5 ho
                      subst this
                      exact .z0 _
                  exact sApp3_ok (P := P) hE.ti hr hz0 (hρ _ _ hz) hr' hm ty (ts := #[t0, t1]) (args := #[a.eval s, a.eval x]) (by simp) (by simp) (by simp) (by simp)
            · cases hr'
          · split at hq
            · cases hq
            · rename_i v' m hmm
              cases hq
              obtain ⟨V, γ', w', h1, h2, h3, h4⟩ := eApp_ok (P := P) hE.ti hr (i := H.nx) (nx' := H.nx + 1) (hr.fresh _ (Nat.le_refl _)) (by omega) (by omega) (hρ _ _ hu) (hρ _ _ hz) hmm (ts := #[t0, t1]) (args := #[a.eval s, a.eval x]) ty (by simp) (by simp) (by simp) (by simp)
              exact ⟨V, γ', w', h1, h2, h3, h4, rfl⟩
        obtain ⟨V, γ', w', h1, h2, h3, h4, h5⟩ := happ
        refine val V w' ?_ (hK V w' γ' h3 ⟨h2, by omega, fun b hb => h4 b (by omega)⟩)
        simp [execOp, resolve, invoke, builtin, h1]
  · rename_i d x t0 ts
    split at hq
    · cases hq
    · rename_i u hu
      split at hq
      · cases hq
      · rename_i z hz
        split at hq
        · cases hq
        · rename_i v' m hmm
          cases hq
          obtain ⟨V, w', h1, h2, h3⟩ := eCopy_ok (P := P) hE.ti hr (hρ _ _ hu) (hρ _ _ hz) hmm (ts := ⟨t0 :: ts⟩) (args := #[a.eval d, a.eval x]) ty (by simp) (by simp) (by simp)
          refine val V w' ?_ (hK V w' γ h3 ⟨h2, Nat.le_refl _, fun _ _ => rfl⟩)
          simp [execOp, resolve, invoke, builtin, h1]
  · rename_i p n pt it
    split at hq
    · cases hq
    · rename_i u hu
      split at hq
      · cases hq
      · rename_i z hz
        split at hq
        · obtain ⟨V, w', h1, h2, h3, h4⟩ := sStr_ok (P := P) (it := it) (ty := ty) hE.ti hr (hρ _ _ hu) (hρ _ _ hz) hq hm
          refine val V w' ?_ (hK V w' γ h3 ⟨h2, by omega, fun _ _ => rfl⟩)
          simp [execOp, resolve, invoke, builtin, h1]
        · split at hq
          · cases hq
          · rename_i v' m hmm
            cases hq
            obtain ⟨V, w', h1, h2, h3⟩ := eStr_ok (P := P) (it := it) (ty := ty) hE.ti hr (hρ _ _ hu) (hρ _ _ hz) hmm
            refine val V w' ?_ (hK V w' γ h3 ⟨h2, Nat.le_refl _, fun _ _ => rfl⟩)
            simp [execOp, resolve, invoke, builtin, h1]
  · rename_i f args ts
    split at hq
    · rename_i g caps hf
      split at hq
      · cases hq
      · rename_i vs hvs
        have hV := evs_ok hρ hvs
        have hF := hρ _ _ hf
        generalize hFv : a.eval f = Fv at hF
        cases hF with
        | fn _ hcaps =>
          rename_i Caps
          cases hne : Nat.beq g E.noesc with
          | true =>
            simp only [hne, cond_true] at hq
            have hg := beq_eq hne
            split at hq
            · rename_i v0
              cases hq
              have hlen := hV.length
              simp only [List.length_map, List.length_cons, List.length_nil, Nat.zero_add] at hlen
              obtain ⟨a0, rfl⟩ := List.length_eq_one_iff.1 hlen
              cases hcaps
              simp only [List.map_cons, List.map_nil] at hV
              cases hV with
              | cons hv _ =>
                refine val (a.eval a0) w ?_ (hK _ w γ hv (RunR.refl hr))
                have := hE.noesc (a.eval a0) w
                rw [← hg] at this
                simp [execOp, resolve, hFv, Deferred.ofValue, invoke, this]
            · cases hq
          | false =>
            simp only [hne, cond_false] at hq
            have hcall := (hc _ _ _ _ _ hq).2 hm γ w _ hr (hV.append hcaps) hgl
            obtain ⟨⟨fn, hfn, hbody⟩, hcalls⟩ := hcall
            have hx : (execOp a.eval ⟨dst, .call ⟨.value f, ⟨args⟩, ts⟩, ty, pos, after, guard⟩).run P w = .ok (.enter g ((args.map a.eval) ++ Caps).toArray) w := by
              have hn := hE.names _ _ hfn
              have hn' : fn.name ≠ "runtime.NumGoroutine" := by intro e; rw [e] at hn; simp at hn
              have hb : fn.body ≠ none := by intro e; rw [e] at hbody; cases hbody
              simp [execOp, resolve, hFv, Deferred.ofValue, invoke, callFunc, hfn, hn', hb]
            unfold Oper.wp
            rw [hx, Oper.upon_enter]
            refine hcalls.mono ?_
            rintro e w' ⟨V, γ', rfl, h1, h2⟩
            exact hK V w' γ' h1 h2
    · cases hq
  · cases hq
theorem evOne_ok {o : Oper} {H H' : Hs} {v : AV} {ρ : Operand → Option AV} {γ : Gm} {w : World} {a : Act} (hr : HRel γ H.m.get H.nx w) (hρ : ∀ x v, ρ x = some v → VRel γ v (a.eval x)) (hgl : Glob E.ng γ) (hq : evOne E call ρ o.op o.type H = some (v, H')) (hm : ∀ p ∈ H'.ms, p)
    {K : Act → World → Prop} {Q : Exit → Act → World → Prop} (hK : ∀ V w' γ', VRel γ' v V → RunR γ H w γ' H' w' → K (a.put o.dst V) w') : o.wp P a w K Q := by
  unfold evOne at hq
  split at hq
  · split at hq
    · cases hq
    · rename_i u ms hu
      cases hq
      obtain ⟨V, h1, h2⟩ := evS_ok (P := P) hE.ti hE.lz hr hρ hu (fun p hp => hm p (by simp [Hs.must, hp]))
      unfold Oper.wp
      rw [h1, Oper.upon_value]
      exact hK V w γ h2 ⟨Stp.refl hr, Nat.le_refl _, fun _ _ => rfl⟩
  · split at hq
    · cases hq
    · rename_i k hk
      split at hq
      · cases hq
      · rename_i m hmm
        cases hq
        obtain ⟨V, w', h1, h2, h3⟩ := evA_ok (P := P) hE.ti hr hρ (i := H.nx) (nx' := H.nx + 1) (hr.fresh _ (Nat.le_refl _)) (by omega) (by omega) hk
        unfold Oper.wp
        rw [h1, Oper.upon_value]
        refine hK V w' _ h3 ⟨?_, by simp, fun b hb => Gm.put_other _ _ (by omega)⟩
        show Stp γ H.m.get w _ m.get (H.nx + 1) w'
        rw [get_set_upd hmm]
        exact h2
  · exact evAct_ok hE hc hr hρ hgl hq hm hK
theorem evOps_ok {all : Array Oper} {N : Nat} {Q : Exit → Act → World → Prop} : ∀ (l : List Oper) (is : List Nat), is.map (fun i => all[i]?) = l.map some →
    ∀ (T T' : Tr AV) (H H' : Hs), evOps E call all N l T H = some (T', H') → (∀ p ∈ H'.ms, p) → ∀ (γ : Gm) (a : Act) (w : World), FRel γ E.ng T N a → HRel γ H.m.get H.nx w →
    (∀ a' w' γ', FRel γ' E.ng T' N a' → RunR γ H w γ' H' w' → Q .normal a' w') → wpOps P all Q is a w := by
  intro l
  induction l with
  | nil =>
    intro is his T T' H H' hq hm γ a w hf hr hQ
    simp only [List.map_nil, List.map_eq_nil_iff] at his
    subst his
    simp only [evOps, Option.some.injEq, Prod.mk.injEq] at hq
    obtain ⟨rfl, rfl⟩ := hq
    exact hQ a w γ hf (RunR.refl hr)
  | cons o l ih =>
    intro is his T T' H H' hq hm γ a w hf hr hQ
    cases is with
    | nil => simp at his
    | cons i is =>
      simp only [List.map_cons, List.cons.injEq] at his
      obtain ⟨hi, his⟩ := his
      simp only [evOps] at hq
      have hkn := (bif_some hq).1
      replace hq := (bif_some hq).2
      simp only [wpOps, hi]
      rw [wantedA_ok hf all o hkn]
      cases hw : wantedA all N T o with
      | true =>
        simp only [hw, cond_true] at hq
        simp only [if_true]
        split at hq
        · cases hq
        · rename_i v H1 hone
          split at hq
          · cases hq
          · rename_i T1 hput
            have hms := evOps_ms hc _ _ _ _ _ hq
            generalize hfo : forceV (guardsAt all o.dst) v H1.tp = r at hq hput hms
            obtain ⟨u, tp, ms⟩ := r
            refine .inl (evOne_ok hE hc hr (evo_ok hf) hf.glob hone (fun p hp => hm p (hms p (by simp [hp]))) ?_)
            intro V w' γ' hv hrun
            have hv := forceV_ok hfo (fun p hp => hm p (hms p (by simp [hp]))) γ' V hv
            refine ih is his T1 T' { H1 with tp := tp, ms := ms ++ H1.ms } H' hq hm γ' _ w' (put_ok (hf.mono hrun.stp.le) hv hput) hrun.stp.rel ?_
            intro a' w'' γ'' hf' hrun'
            exact hQ a' w'' γ'' hf' ⟨hrun.stp.trans hrun'.stp, Nat.le_trans hrun.nx hrun'.nx, fun b hb => (hrun'.keep b (Nat.lt_of_lt_of_le hb hrun.nx)).trans (hrun.keep b hb)⟩
      | false =>
        simp only [hw, cond_false] at hq
        simp only [Bool.false_eq_true, if_false]
        split at hq
        · cases hq
        · rename_i T1 hput
          exact ih is his T1 T' H H' hq hm γ _ w (put_ok hf (.tup .nil) hput) hr hQ
end
theorem range_all (all : Array Oper) : (List.range all.size).map (fun i => all[i]?) = all.toList.map some := by
  apply List.ext_getElem?
  intro i
  simp only [List.getElem?_map]
  by_cases h : i < all.size
  · simp [h]
  · simp [h, List.getElem?_eq_none (show (List.range all.size).length ≤ i by simp; omega)]
end Go.QfSy

namespace Go.QfSy
def maskOf (o : Oper) (A : Tr Nat) : Nat := o.after.toList.foldl (fun s e => bif Region.binds .any e then s ||| (2 ^ e.on) ||| ((A.get e.on).getD 0) else s) 0
theorem mask_bit (A : Tr Nat) (i : Nat) : ∀ (l : List Edge) (s : Nat), (l.foldl (fun s e => bif Region.binds .any e then s ||| (2 ^ e.on) ||| ((A.get e.on).getD 0) else s) s).testBit i = true →
    s.testBit i = true ∨ ∃ e ∈ l, Region.binds .any e = true ∧ (e.on = i ∨ ((A.get e.on).getD 0).testBit i = true) := by
  intro l
  induction l with
  | nil => intro s h; exact .inl h
  | cons e l ih =>
    intro s h
    simp only [List.foldl_cons] at h
    rcases ih _ h with h | ⟨e', he', hb⟩
    · cases hbd : Region.binds .any e with
      | false => simp only [hbd, cond_false] at h; exact .inl h
      | true =>
        simp only [hbd, cond_true, Nat.testBit_or, Bool.or_eq_true, Nat.testBit_two_pow, decide_eq_true_eq] at h
        rcases h with (h | h) | h
        · exact .inl h
        · exact .inr ⟨e, by simp, hbd, .inl h⟩
        · exact .inr ⟨e, by simp, hbd, .inr h⟩
    · exact .inr ⟨e', by simp [he'], hb⟩
theorem ancGo_old : ∀ (l : List Oper) (i : Nat) (A : Tr Nat) (k : Nat), k < i → i + l.length < 1000000 → (ancGo l i A).get k = A.get k := by
  intro l
  induction l with
  | nil => intro i A k hk _; rfl
  | cons o l ih =>
    intro i A k hk hl
    simp only [List.length_cons] at hl
    simp only [ancGo]
    rw [ih (i + 1) _ k (by omega) (by omega), Tr.get_setF 40 A i k _ (by omega), if_neg (by omega)]
theorem ancGo_at : ∀ (l : List Oper) (i : Nat) (A : Tr Nat) (k : Nat) (o : Oper), l[k]? = some o → i + l.length < 1000000 →
    ∃ A', (ancGo l i A).get (i + k) = some (maskOf o A') ∧ ∀ m, m < i + k → A'.get m = (ancGo l i A).get m := by
  intro l
  induction l with
  | nil => intro i A k o h; simp at h
  | cons o' l ih =>
    intro i A k o h hl
    simp only [List.length_cons] at hl
    cases k with
    | zero =>
      simp only [List.getElem?_cons_zero, Option.some.injEq] at h
      subst h
      refine ⟨A, ?_, fun m hm => ?_⟩
      · simp only [ancGo, Nat.add_zero]
        rw [ancGo_old l (i + 1) _ i (by omega) (by omega), Tr.get_setF 40 A i i _ (by omega), if_pos rfl]
        rfl
      · simp only [ancGo]
        rw [ancGo_old l (i + 1) _ m (by omega) (by omega), Tr.get_setF 40 A i m _ (by omega), if_neg (by omega)]
    | succ k =>
      simp only [List.getElem?_cons_succ] at h
      obtain ⟨A', h1, h2⟩ := ih (i + 1) (Tr.setF 40 A i (some (maskOf o' A))) k o h (by omega)
      refine ⟨A', ?_, fun m hm => ?_⟩
      · rw [show i + (k + 1) = i + 1 + k by omega]; exact h1
      · exact h2 m (by omega)
structure Static (all : Array Oper) (A : Tr Nat) : Prop where
  small : all.size < 1000
  back : ∀ (i : Nat) (o : Oper), all[i]? = some o → ∀ e ∈ o.after, Region.binds .any e = true → e.on < i
  nosel : ∀ (i : Nat) (o : Oper) cs b, all[i]? = some o → o.op ≠ .select cs b
  pair : ∀ (i j : Nat) (oi oj : Oper), i < j → all[i]? = some oi → all[j]? = some oj → oi.apart all oj = true ∨ (ancBit A j i = true ∧ ∀ d, oi.dst = some d → oj.dst ≠ some d)
  anc : ∀ (i j : Nat), ancBit A j i = true → ∃ o, all[j]? = some o ∧ ∃ e ∈ o.after, Region.binds .any e = true ∧ (e.on = i ∨ ancBit A e.on i = true)
theorem edgesGo_ok : ∀ (l : List Oper) (i : Nat), edgesGo l i = true → ∀ (k : Nat) (o : Oper), l[k]? = some o → (∀ e ∈ o.after, Region.binds .any e = true → e.on < i + k) ∧ noSelect o.op = true := by
  intro l
  induction l with
  | nil => intro i _ k o h; simp at h
  | cons o' l ih =>
    intro i h k o hk
    simp only [edgesGo, Bool.and_eq_true] at h
    obtain ⟨⟨h1, h2⟩, h3⟩ := h
    cases k with
    | zero =>
      simp only [List.getElem?_cons_zero, Option.some.injEq] at hk
      subst hk
      refine ⟨fun e he hb => ?_, h2⟩
      have := List.all_eq_true.1 h1 e (by simpa using he)
      simp only [hb, Bool.not_true, Bool.false_or] at this
      exact Nat.le_of_ble_eq_true this
    | succ k =>
      simp only [List.getElem?_cons_succ] at hk
      obtain ⟨g1, g2⟩ := ih (i + 1) h3 k o hk
      exact ⟨fun e he hb => by have := g1 e he hb; omega, g2⟩
theorem pairsGo_ok (all : Array Oper) (A : Tr Nat) (oj : Oper) (j : Nat) : ∀ (l : List Oper) (i : Nat), pairsGo all A oj j l i = true → ∀ (k : Nat) (o : Oper), l[k]? = some o → i + k < j → pairOk all A o (i + k) oj j = true := by
  intro l
  induction l with
  | nil => intro i _ k o h; simp at h
  | cons o' l ih =>
    intro i h k o hk hlt
    simp only [pairsGo] at h
    have hb : Nat.blt i j = true := Nat.ble_eq_true_of_le (by omega)
    simp only [hb, cond_true, Bool.and_eq_true] at h
    cases k with
    | zero =>
      simp only [List.getElem?_cons_zero, Option.some.injEq] at hk
      subst hk
      exact h.1
    | succ k =>
      simp only [List.getElem?_cons_succ] at hk
      have := ih (i + 1) h.2 k o hk (by omega)
      rw [show i + (k + 1) = i + 1 + k by omega]; exact this
theorem orderGo_ok (all : Array Oper) (ops : List Oper) (A : Tr Nat) : ∀ (l : List Oper) (j : Nat), orderGo all ops A l j = true → ∀ (k : Nat) (o : Oper), l[k]? = some o → pairsGo all A o (j + k) ops 0 = true := by
  intro l
  induction l with
  | nil => intro j _ k o h; simp at h
  | cons o' l ih =>
    intro j h k o hk
    simp only [orderGo, Bool.and_eq_true] at h
    cases k with
    | zero =>
      simp only [List.getElem?_cons_zero, Option.some.injEq] at hk
      subst hk
      exact h.1
    | succ k =>
      simp only [List.getElem?_cons_succ] at hk
      have := ih (j + 1) h.2 k o hk
      rw [show j + (k + 1) = j + 1 + k by omega]; exact this
theorem static_of {all : Array Oper} (h : orderOk all = true) : Static all (ancs all.toList) := by
  unfold orderOk at h
  simp only [Bool.and_eq_true] at h
  obtain ⟨⟨h1, h2⟩, h3⟩ := h
  have hsm : all.size < 1000 := Nat.le_of_ble_eq_true h1
  have hE := edgesGo_ok all.toList 0 h2
  have hback : ∀ (i : Nat) (o : Oper), all[i]? = some o → ∀ e ∈ o.after, Region.binds .any e = true → e.on < i := by
    intro i o ho e he hb
    have := (hE i o (by simpa using ho)).1 e he hb
    omega
  refine ⟨hsm, hback, ?_, ?_, ?_⟩
  · intro i o cs b ho hs
    have := (hE i o (by simpa using ho)).2
    rw [hs] at this
    cases this
  · intro i j oi oj hij hi hj
    have h4 := orderGo_ok all all.toList _ all.toList 0 h3 j oj (by simpa using hj)
    have h5 := pairsGo_ok all _ oj (0 + j) all.toList 0 h4 i oi (by simpa using hi) (by omega)
    simp only [Nat.zero_add] at h5
    unfold pairOk at h5
    simp only [Bool.or_eq_true, Bool.and_eq_true] at h5
    rcases h5 with h5 | ⟨h5, h6⟩
    · exact .inl h5
    · refine .inr ⟨h5, fun d hd he => ?_⟩
      rw [hd, he] at h6
      simp at h6
  · intro i j hj
    unfold ancBit at hj
    split at hj
    · cases hj
    · rename_i m hm
      have hlen : all.toList.length < 1000 := by simpa using hsm
      have hlt : j < all.size := by
        rcases Nat.lt_or_ge j all.size with h' | h'
        · exact h'
        · exfalso
          have : ∀ (l : List Oper) (i : Nat) (A : Tr Nat) (k : Nat), i + l.length ≤ k → i + l.length < 1000000 → (ancGo l i A).get k = A.get k := by
            intro l
            induction l with
            | nil => intro i A k _ _; rfl
            | cons o l ih =>
              intro i A k hk hl
              simp only [List.length_cons] at hk hl
              simp only [ancGo]
              rw [ih (i + 1) _ k (by omega) (by omega), Tr.get_setF 40 A i k _ (by omega), if_neg (by omega)]
          have h0 := this all.toList 0 .nil j (by simpa using h') (by omega)
          unfold ancs at hm
          rw [h0] at hm
          cases hm
      obtain ⟨A', g1, g2⟩ := ancGo_at all.toList 0 .nil j all[j] (by simp [hlt]) (by omega)
      rw [Nat.zero_add] at g1 g2
      unfold ancs at hm
      rw [g1] at hm
      cases hm
      rcases mask_bit A' i _ 0 hj with h0 | ⟨e, he, hb, hor⟩
      · simp at h0
      · refine ⟨all[j], by simp [hlt], e, by simpa using he, hb, ?_⟩
        have hlt' := hback j all[j] (by simp [hlt]) e (by simpa using he) hb
        rcases hor with rfl | hor
        · exact .inl rfl
        · right
          rw [g2 e.on hlt'] at hor
          unfold ancBit ancs
          cases hx : (ancGo all.toList 0 .nil).get e.on with
          | none => rw [hx] at hor; simp at hor
          | some m' => rw [hx] at hor; simpa using hor
theorem states_of {E : Env} {call : CallF} {all : Array Oper} {A : Tr Nat} {N i0 : Nat} : ∀ (l : List Oper) (i : Nat) (s s' : DSt), evDrawGo E call all A N i0 l i s = some s' →
    ∃ st : Nat → DSt, st 0 = s ∧ st l.length = s' ∧ ∀ (k : Nat) (o : Oper), l[k]? = some o → dStep E call all A N i0 o (i + k) (st k) = some (st (k + 1)) := by
  intro l
  induction l with
  | nil =>
    intro i s s' h
    simp only [evDrawGo, Option.some.injEq] at h
    subst h
    exact ⟨fun _ => s, rfl, rfl, by intro k o h; simp at h⟩
  | cons o l ih =>
    intro i s s' h
    simp only [evDrawGo] at h
    split at h
    · cases h
    · rename_i s1 h1
      obtain ⟨st, g0, g1, g2⟩ := ih (i + 1) s1 s' h
      refine ⟨fun k => match k with | 0 => s | k + 1 => st k, rfl, g1, ?_⟩
      intro k o' hk
      cases k with
      | zero =>
        simp only [List.getElem?_cons_zero, Option.some.injEq] at hk
        subst hk
        simp only [Nat.add_zero]
        rw [h1, g0]
      | succ k =>
        simp only [List.getElem?_cons_succ] at hk
        have := g2 k o' hk
        rw [show i + (k + 1) = i + 1 + k by omega]
        exact this
mutual
theorem beqV_eq : ∀ {x y : AV}, beqV x y = true → x = y := by
  intro x y h
  cases x <;> cases y <;> simp only [beqV, Bool.false_eq_true, Bool.and_eq_true, decide_eq_true_eq, beq_iff_eq] at h
  all_goals first
    | rfl
    | (rw [h]; done)
    | (obtain ⟨h1, h2⟩ := h; rw [h1, h2]; done)
    | (obtain ⟨h1, h2⟩ := h; rw [beq_eq h1, beq_eq h2]; done)
    | (obtain ⟨⟨⟨h1, h2⟩, h3⟩, h4⟩ := h; rw [beq_eq h1, beq_eq h2, beq_eq h3, beq_eq h4]; done)
    | (obtain ⟨h1, h2⟩ := h; rw [beq_eq h1, beqVs_eq h2]; done)
    | (obtain ⟨h1, h2⟩ := h; rw [beq_eq h1, beqV_eq h2]; done)
    | (rw [beqVs_eq h]; done)
theorem beqVs_eq : ∀ {xs ys : List AV}, beqVs xs ys = true → xs = ys := by
  intro xs ys h
  cases xs with
  | nil => cases ys with
    | nil => rfl
    | cons y ys => simp [beqVs] at h
  | cons x xs => cases ys with
    | nil => simp [beqVs] at h
    | cons y ys =>
      simp only [beqVs, Bool.and_eq_true] at h
      rw [beqV_eq h.1, beqVs_eq h.2]
end
mutual
theorem sameS_ok : ∀ {x y : AV} {ms : List Prop}, sameS x y = some ms → (∀ p ∈ ms, p) → Imp x y := by
  intro x y ms h hm
  unfold sameS at h
  split at h
  · obtain ⟨hk, h'⟩ := bif_some h
    have hk := of_decide_eq_true hk
    clear h; subst hk; cases h'
    have := all_one hm; subst this; exact Imp.refl _
  · obtain ⟨hk, h'⟩ := bif_some h
    have hk := of_decide_eq_true hk
    clear h; subst hk; cases h'
    have := all_one hm; subst this; intro γ V hV; cases hV; exact .vint _ _
  · obtain ⟨hk, h'⟩ := bif_some h
    have hk := of_decide_eq_true hk
    clear h; subst hk; cases h'
    have := all_one hm; subst this; intro γ V hV; cases hV; exact .int _ _
  · cases h; have := all_one hm; subst this; exact Imp.refl _
  · cases h; have := all_one hm; subst this; intro γ V hV; cases hV; exact .bool _
  · cases h; have := all_one hm; subst this; intro γ V hV; cases hV; exact .vbool _
  · cases h; have := all_one hm; subst this; exact Imp.refl _
  · cases h; have := all_one hm; subst this; exact Imp.refl _
  · cases h; have := all_one hm; subst this; intro γ V hV; cases hV; exact .vstr _
  · obtain ⟨hk, h'⟩ := bif_some h
    have hk := beq_eq hk
    clear h; subst hk; cases h'
    obtain ⟨rfl, rfl⟩ := all_one hm; exact Imp.refl _
  · obtain ⟨hk, h'⟩ := bif_some h
    have hk := beq_eq hk
    clear h; subst hk; cases h'
    have := all_one hm; subst this; exact Imp.refl _
  · obtain ⟨hk, h'⟩ := bif_some h
    have hk := beq_eq hk
    clear h; subst hk; cases h'
    have := all_one hm; subst this; exact Imp.refl _
  · obtain ⟨hk, h'⟩ := bif_some h
    clear h
    simp only [Bool.and_eq_true] at hk
    obtain ⟨⟨h1, h2⟩, h3⟩ := hk
    have h1 := beq_eq h1
    have h2 := beq_eq h2
    have h3 := beq_eq h3
    subst h1 h2 h3
    cases h'
    have := all_one hm; subst this; exact Imp.refl _
  · intro γ V hV
    cases hV with
    | agg hv => exact .agg (sameSs_ok h hm γ _ hv)
  · intro γ V hV
    cases hV with
    | tup hv => exact .tup (sameSs_ok h hm γ _ hv)
  · obtain ⟨hk, h'⟩ := bif_some h
    have hk := beq_eq hk
    clear h; subst hk
    intro γ V hV
    cases hV with
    | fn _ hv => exact .fn _ (sameSs_ok h' hm γ _ hv)
  · obtain ⟨hk, h'⟩ := bif_some h
    rw [beqV_eq hk]
    exact Imp.refl _
theorem sameSs_ok : ∀ {xs ys : List AV} {ms : List Prop}, sameSs xs ys = some ms → (∀ p ∈ ms, p) → ∀ γ Vs, VsRel γ xs Vs → VsRel γ ys Vs := by
  intro xs ys ms h hm γ Vs hV
  unfold sameSs at h
  split at h
  · exact hV
  · split at h
    · cases h
    · rename_i m1 h1
      split at h
      · cases h
      · rename_i m2 h2
        cases h
        obtain ⟨hm1, hm2⟩ := split2 hm
        cases hV with
        | cons hv ht => exact .cons (sameS_ok h1 hm1 γ _ hv) (sameSs_ok h2 hm2 γ _ ht)
  · cases h
end
theorem evS_still {ti : Tr TypeInfo} {lz : Nat → Nat → Nat → Nat → Bool} (h h' : Tr Blk) (ρ : Operand → Option AV) (op : Op) (ty : Nat) (hl : looksIn op = false) : evS ti lz h ρ op ty = evS ti lz h' ρ op ty := by
  have h1 : evO1 ti h ρ op ty = evO1 ti h' ρ op ty := by
    unfold evO1
    split <;> first | rfl | (simp [looksIn] at hl; done)
  have h2 : evQ ti lz h ρ op ty = evQ ti lz h' ρ op ty := by
    unfold evQ
    split <;> first | rfl | (simp [looksIn] at hl; done)
  unfold evS
  rw [h1, h2]
end Go.QfSy

namespace Go.QfSy
def SeeP (E : Env) (all : Array Oper) (o : Oper) (T : Tr AV) (v : AV) (m : Tr Blk) : Prop :=
  ∃ u ms, evS E.ti E.lz m (evoR E.ng T (o.looksAt all)) o.op o.type = some (u, ms) ∧ (∀ p ∈ ms, p) ∧ Imp u v
theorem seesV_ok {E : Env} {all : Array Oper} {o : Oper} {T : Tr AV} {v : AV} {m : Tr Blk} {ms : List Prop} (h : seesV E all o T v m = some ms) (hm : ∀ p ∈ ms, p) : SeeP E all o T v m := by
  unfold seesV at h
  split at h
  · cases h
  · rename_i u m1 h1
    split at h
    · cases h
    · rename_i m2 h2
      cases h
      obtain ⟨hm1, hm2⟩ := split2 hm
      exact ⟨u, m1, h1, hm1, sameS_ok h2 hm2⟩
section
variable (E : Env) (call : CallF) (all : Array Oper) (A : Tr Nat) (N i0 : Nat) (st : Nat → DSt)
def IsAct (i : Nat) : Prop := ∃ o, all[i]? = some o ∧ wantedA all N (st i).T o = true ∧ kindOf o.op = .act
def IsMk (i : Nat) : Prop := ∃ o, all[i]? = some o ∧ wantedA all N (st i).T o = true ∧ kindOf o.op = .make
def SkipR (i : Nat) (o : Oper) (v : AV) : Prop :=
  wantedA all N (st i).T o = false ∧ v = .tup [] ∧ (st (i + 1)).H = (st i).H ∧ (st (i + 1)).last = (st i).last ∧ (st (i + 1)).pend = (st i).pend ∧ (st (i + 1)).hist = (st i).hist ∧ (st (i + 1)).seen = (st i).seen
def QuietR (i : Nat) (o : Oper) (v : AV) : Prop :=
  wantedA all N (st i).T o = true ∧ kindOf o.op = .quiet ∧ (SeeP E all o (st i).T v (st i).H.m ∨ (noAct all = true ∧ ∃ m l, merge A i (st i).pend (st i).H.m = some (m, l) ∧ SeeP E all o (st i).T v m)) ∧
  (looksIn o.op = true → ∃ ms, seesBack E all A i o (st i).T v (st i).hist = some ms ∧ ∀ p ∈ ms, p) ∧
  (st (i + 1)).H = (st i).H ∧ (st (i + 1)).last = (st i).last ∧ (st (i + 1)).pend = (st i).pend ∧ (st (i + 1)).hist = (st i).hist ∧
  (st (i + 1)).seen = (bif looksIn o.op then ⟨i, o, (st i).T, v⟩ :: (st i).seen else (st i).seen)
def MakeR (i : Nat) (o : Oper) (v : AV) (kb : Blk) : Prop :=
  wantedA all N (st i).T o = true ∧ kindOf o.op = .make ∧ evA E.ti (evoR E.ng (st i).T (o.looksAt all)) o.op (i0 + i) = some ⟨v, kb⟩ ∧
  (st (i + 1)).H = (st i).H ∧ (st (i + 1)).last = (st i).last ∧ (st (i + 1)).pend = (i, i0 + i, kb) :: (st i).pend ∧ (st (i + 1)).hist = (st i).hist ∧ (st (i + 1)).seen = (st i).seen
def ActR (i : Nat) (o : Oper) (v : AV) : Prop :=
  wantedA all N (st i).T o = true ∧ kindOf o.op = .act ∧ (∀ e, (st i).last = some e → ancBit A i e = true) ∧
  (∃ m, merge A i (st i).pend (st i).H.m = some (m, (st (i + 1)).pend) ∧ ∃ tp ms u H', evAct E call (evoR E.ng (st i).T (o.looksAt all)) o.op ⟨m, (st i).H.nx, tp, ms⟩ = some (u, H') ∧ (∀ p ∈ H'.ms, p) ∧ (st (i + 1)).H = ⟨H'.m, H'.nx⟩ ∧ Imp u v) ∧
  (∃ ms, seesOn E all A i (st (i + 1)).H.m (st i).seen = some ms ∧ ∀ p ∈ ms, p) ∧
  (st (i + 1)).last = some i ∧ (st (i + 1)).hist = (i, (st i).H.m) :: (st i).hist ∧ (st (i + 1)).seen = (st i).seen
def StepR (i : Nat) (o : Oper) (v : AV) (kb : Blk) : Prop :=
  (knownG all (st i).T o = true ∧ putA N (st i).T o.dst v = some (st (i + 1)).T) ∧ (SkipR all N st i o v ∨ QuietR E all A N st i o v ∨ MakeR E all N i0 st i o v kb ∨ ActR E call all A N st i o v)
theorem noAct_ok {all : Array Oper} {N : Nat} {st : Nat → DSt} (h : noAct all = true) (e : Nat) : ¬ IsAct all N st e := by
  rintro ⟨o, ho, _, hk⟩
  have := List.all_eq_true.1 h o (by
    obtain ⟨hlt, rfl⟩ := Array.getElem?_eq_some_iff.1 ho
    simp)
  rw [hk] at this
  cases this
theorem stepR_of (i : Nat) (o : Oper) (h : dStep E call all A N i0 o i (st i) = some (st (i + 1))) (hm : ∀ p ∈ (st (i + 1)).ms, p) : ∃ v kb, StepR E call all A N i0 st i o v kb := by
  unfold dStep at h
  have hkn := (bif_some h).1
  replace h := (bif_some h).2
  cases hw : wantedA all N (st i).T o with
  | true =>
    simp only [hw, cond_true] at h
    split at h
    · rename_i hk
      split at h
      · cases h
      rename_i mq lq hmq
      split at h
      · cases h
      · rename_i v m1 hv
        generalize hfo : forceV (guardsAt all o.dst) v (st i).tp = r at h
        obtain ⟨u, tp, m2⟩ := r
        simp only at h
        split at h
        · cases h
        · rename_i m3 hsb
          split at h
          · cases h
          · rename_i T' hT
            simp only [Option.some.injEq] at h
            have hms : ∀ p ∈ m1 ++ m2 ++ m3, p := fun p hp => hm p (by rw [← h]; simp only [List.mem_append] at hp ⊢; exact .inl hp)
            obtain ⟨hm12, hm3⟩ := split2 hms
            obtain ⟨hm1, hm2⟩ := split2 hm12
            refine ⟨u, ⟨.plain [], 0, 0, false, false⟩, ⟨hkn, by rw [← h]; exact hT⟩, .inr (.inl ⟨hw, hk, ?_, fun hl => ?_, ?_⟩)⟩
            · cases hna : noAct all with
              | false =>
                rw [hna] at hmq
                cases hmq
                exact .inl ⟨v, m1, hv, hm1, forceV_ok hfo hm2⟩
              | true =>
                rw [hna] at hmq
                exact .inr ⟨rfl, mq, lq, hmq, v, m1, hv, hm1, forceV_ok hfo hm2⟩
            · rw [hl] at hsb; exact ⟨m3, hsb, hm3⟩
            · rw [← h]; exact ⟨rfl, rfl, rfl, rfl, rfl⟩
    · rename_i hk
      split at h
      · cases h
      · rename_i k hv
        split at h
        · cases h
        · rename_i T' hT
          simp only [Option.some.injEq] at h
          refine ⟨k.v, k.blk, ⟨hkn, by rw [← h]; exact hT⟩, .inr (.inr (.inl ⟨hw, hk, hv, ?_⟩))⟩
          rw [← h]; exact ⟨rfl, rfl, rfl, rfl, rfl⟩
    · rename_i hk
      obtain ⟨hl, h⟩ := bif_some h
      split at h
      · cases h
      · rename_i m pend hmm
        split at h
        · cases h
        · rename_i v H' hv
          generalize hfo : forceV (guardsAt all o.dst) v H'.tp = r at h
          obtain ⟨u, tp, m2⟩ := r
          simp only at h
          split at h
          · cases h
          · rename_i m3 hso
            split at h
            · cases h
            · rename_i T' hT
              simp only [Option.some.injEq] at h
              have hms : ∀ p ∈ m2 ++ m3 ++ H'.ms, p := fun p hp => hm p (by rw [← h]; exact hp)
              obtain ⟨hm23, hmH⟩ := split2 hms
              obtain ⟨hm2, hm3⟩ := split2 hm23
              refine ⟨u, ⟨.plain [], 0, 0, false, false⟩, ⟨hkn, by rw [← h]; exact hT⟩, .inr (.inr (.inr ⟨hw, hk, fun e he => ?_, ⟨m, by rw [← h]; exact hmm, _, _, v, H', hv, hmH, by rw [← h], forceV_ok hfo hm2⟩, ⟨m3, by rw [← h]; exact hso, hm3⟩, ?_⟩))⟩
              · rw [he] at hl; exact hl
              · rw [← h]; exact ⟨rfl, rfl, rfl⟩
  | false =>
    simp only [hw, cond_false] at h
    split at h
    · cases h
    · rename_i T' hT
      simp only [Option.some.injEq] at h
      refine ⟨.tup [], ⟨.plain [], 0, 0, false, false⟩, ⟨hkn, by rw [← h]; exact hT⟩, .inl ⟨hw, rfl, ?_⟩⟩
      rw [← h]; exact ⟨rfl, rfl, rfl, rfl, rfl⟩
end
theorem merge_ok (A : Tr Nat) (i : Nat) : ∀ (l : List (Nat × Nat × Blk)) (m m' : Tr Blk) (l' : List (Nat × Nat × Blk)), merge A i l m = some (m', l') →
    (∀ j n k j' k', (j, n, k) ∈ l → (j', n, k') ∈ l → j = j' ∧ k = k') →
    (∀ j n k, (j, n, k) ∈ l → ancBit A i j = true → m'.get n = some k) ∧ (∀ b, (∀ j k, (j, b, k) ∈ l → ancBit A i j = false) → m'.get b = m.get b) ∧ (∀ x, x ∈ l' ↔ x ∈ l ∧ ancBit A i x.1 = false) := by
  intro l
  induction l with
  | nil =>
    intro m m' l' h _
    simp only [merge, Option.some.injEq, Prod.mk.injEq] at h
    obtain ⟨rfl, rfl⟩ := h
    exact ⟨by simp, fun _ _ => rfl, by simp⟩
  | cons x l ih =>
    intro m m' l' h hu
    obtain ⟨j, n, k⟩ := x
    have hu' : ∀ j n k j' k', (j, n, k) ∈ l → (j', n, k') ∈ l → j = j' ∧ k = k' := fun j n k j' k' h1 h2 => hu j n k j' k' (by simp [h1]) (by simp [h2])
    simp only [merge] at h
    cases hb : ancBit A i j with
    | true =>
      simp only [hb, cond_true] at h
      split at h
      · cases h
      · rename_i m1 hm1
        obtain ⟨g1, g2, g3⟩ := ih m1 m' l' h hu'
        have hg := get_set_upd hm1
        refine ⟨?_, ?_, ?_⟩
        · intro j2 n2 k2 hmem hb2
          rcases List.mem_cons.1 hmem with heq | hmem
          · cases heq
            by_cases hin : ∃ j3 k3, (j3, n, k3) ∈ l
            · obtain ⟨j3, k3, h3⟩ := hin
              obtain ⟨e1, e2⟩ := hu j n k j3 k3 (by simp) (by simp [h3])
              subst e1 e2
              exact g1 _ _ _ h3 hb
            · rw [g2 n (fun j3 k3 h3 => (hin ⟨j3, k3, h3⟩).elim), hg, upd_same]
          · exact g1 _ _ _ hmem hb2
        · intro b hbn
          rw [g2 b (fun j2 k2 h2 => hbn j2 k2 (by simp [h2])), hg]
          by_cases e : b = n
          · subst e
            have := hbn j k (by simp)
            rw [hb] at this
            cases this
          · rw [upd_other _ _ e]
        · intro x
          rw [g3 x]
          constructor
          · rintro ⟨h1, h2⟩; exact ⟨by simp [h1], h2⟩
          · rintro ⟨h1, h2⟩
            rcases List.mem_cons.1 h1 with rfl | h1
            · rw [hb] at h2; cases h2
            · exact ⟨h1, h2⟩
    | false =>
      simp only [hb, cond_false] at h
      split at h
      · cases h
      · rename_i m1 l1 hm1
        simp only [Option.some.injEq, Prod.mk.injEq] at h
        obtain ⟨rfl, rfl⟩ := h
        obtain ⟨g1, g2, g3⟩ := ih m m1 l1 hm1 hu'
        refine ⟨?_, ?_, ?_⟩
        · intro j2 n2 k2 hmem hb2
          rcases List.mem_cons.1 hmem with heq | hmem
          · cases heq; rw [hb] at hb2; cases hb2
          · exact g1 _ _ _ hmem hb2
        · intro b hbn
          exact g2 b (fun j2 k2 h2 => hbn j2 k2 (by simp [h2]))
        · intro x
          simp only [List.mem_cons, g3 x]
          constructor
          · rintro (rfl | ⟨h1, h2⟩)
            · exact ⟨.inl rfl, hb⟩
            · exact ⟨.inr h1, h2⟩
          · rintro ⟨h1 | h1, h2⟩
            · exact .inl h1
            · exact .inr ⟨h1, h2⟩
theorem mergeAll_ok : ∀ (l : List (Nat × Nat × Blk)) (m m' : Tr Blk), mergeAll l m = some m' → (∀ j n k j' k', (j, n, k) ∈ l → (j', n, k') ∈ l → j = j' ∧ k = k') →
    (∀ j n k, (j, n, k) ∈ l → m'.get n = some k) ∧ (∀ b, (∀ j k, (j, b, k) ∉ l) → m'.get b = m.get b) := by
  intro l
  induction l with
  | nil =>
    intro m m' h _
    simp only [mergeAll, Option.some.injEq] at h
    subst h
    exact ⟨by simp, fun _ _ => rfl⟩
  | cons x l ih =>
    intro m m' h hu
    obtain ⟨j, n, k⟩ := x
    simp only [mergeAll] at h
    split at h
    · cases h
    · rename_i m1 hm1
      obtain ⟨g1, g2⟩ := ih m1 m' h (fun j n k j' k' h1 h2 => hu j n k j' k' (by simp [h1]) (by simp [h2]))
      have hg := get_set_upd hm1
      refine ⟨?_, ?_⟩
      · intro j2 n2 k2 hmem
        rcases List.mem_cons.1 hmem with heq | hmem
        · cases heq
          by_cases hin : ∃ j3 k3, (j3, n, k3) ∈ l
          · obtain ⟨j3, k3, h3⟩ := hin
            obtain ⟨e1, e2⟩ := hu j n k j3 k3 (by simp) (by simp [h3])
            subst e1 e2
            exact g1 _ _ _ h3
          · rw [g2 n (fun j3 k3 h3 => hin ⟨j3, k3, h3⟩), hg, upd_same]
        · exact g1 _ _ _ hmem
      · intro b hb
        rw [g2 b (fun j2 k2 h2 => hb j2 k2 (by simp [h2])), hg, upd_other]
        intro e
        exact hb j k (by simp [e])
theorem seesBack_ok {E : Env} {all : Array Oper} {A : Tr Nat} {i : Nat} {o : Oper} {T : Tr AV} {v : AV} {e : Nat} {m : Tr Blk} {l2 : List (Nat × Tr Blk)} : ∀ (l1 : List (Nat × Tr Blk)) (ms : List Prop), seesBack E all A i o T v (l1 ++ (e, m) :: l2) = some ms → (∀ p ∈ ms, p) →
    (∀ p ∈ l1, ancBit A i p.1 = false) → ancBit A i e = false → SeeP E all o T v m := by
  intro l1
  induction l1 with
  | nil =>
    intro ms h hm _ he
    simp only [List.nil_append, seesBack, he, cond_false] at h
    split at h
    · cases h
    · rename_i m1 h1
      split at h
      · cases h
      · cases h
        exact seesV_ok h1 (split2 hm).1
  | cons p l1 ih =>
    intro ms h hm hl he
    obtain ⟨e1, m1⟩ := p
    have h1 := hl (e1, m1) (by simp)
    simp only [] at h1
    simp only [List.cons_append, seesBack, h1, cond_false] at h
    split at h
    · cases h
    · split at h
      · cases h
      · rename_i m2 h2
        cases h
        exact ih _ h2 (split2 hm).2 (fun p hp => hl p (by simp [hp])) he
theorem seesOn_ok {E : Env} {all : Array Oper} {A : Tr Nat} {e : Nat} {m : Tr Blk} : ∀ (l : List Seen) (ms : List Prop), seesOn E all A e m l = some ms → (∀ p ∈ ms, p) → ∀ s ∈ l, ancBit A e s.i = false → SeeP E all s.o s.T s.v m := by
  intro l
  induction l with
  | nil => intro ms _ _ s hs; simp at hs
  | cons x l ih =>
    intro ms h hm s hs hb
    simp only [seesOn] at h
    split at h
    · cases h
    · rename_i m1 h1
      split at h
      · cases h
      · rename_i m2 h2
        cases h
        rcases List.mem_cons.1 hs with rfl | hs
        · rw [hb] at h1
          exact seesV_ok h1 (split2 hm).1
        · exact ih _ h2 (split2 hm).2 s hs hb
structure Pass (E : Env) (call : CallF) (all : Array Oper) (A : Tr Nat) (N i0 : Nat) (st : Nat → DSt) (val : Nat → AV) (mk : Nat → Blk) : Prop where
  static : Static all A
  last0 : (st 0).last = none
  pend0 : (st 0).pend = []
  hist0 : (st 0).hist = []
  step : ∀ (i : Nat) (o : Oper), all[i]? = some o → StepR E call all A N i0 st i o (val i) (mk i)
section
variable {E : Env} {call : CallF} {all : Array Oper} {A : Tr Nat} {N i0 : Nat} {st : Nat → DSt} {val : Nat → AV} {mk : Nat → Blk} (hp : Pass E call all A N i0 st val mk)
include hp
theorem Pass.actR {i : Nat} (h : IsAct all N st i) : ∃ o, all[i]? = some o ∧ ActR E call all A N st i o (val i) := by
  obtain ⟨o, ho, hw, hk⟩ := h
  obtain ⟨_, h | h | h | h⟩ := hp.step i o ho
  · rw [h.1] at hw; cases hw
  · rw [h.2.1] at hk; cases hk
  · rw [h.2.1] at hk; cases hk
  · exact ⟨o, ho, h⟩
theorem Pass.mkR {i : Nat} (h : IsMk all N st i) : ∃ o, all[i]? = some o ∧ MakeR E all N i0 st i o (val i) (mk i) := by
  obtain ⟨o, ho, hw, hk⟩ := h
  obtain ⟨_, h | h | h | h⟩ := hp.step i o ho
  · rw [h.1] at hw; cases hw
  · rw [h.2.1] at hk; cases hk
  · exact ⟨o, ho, h⟩
  · rw [h.2.1] at hk; cases hk
theorem Pass.still {i : Nat} (hi : i < all.size) (h : ¬ IsAct all N st i) : (st (i + 1)).H = (st i).H ∧ (st (i + 1)).last = (st i).last ∧ (st (i + 1)).hist = (st i).hist := by
  have ho : all[i]? = some all[i] := by simp [hi]
  obtain ⟨_, g | g | g | g⟩ := hp.step i _ ho
  · exact ⟨g.2.2.1, g.2.2.2.1, g.2.2.2.2.2.1⟩
  · exact ⟨g.2.2.2.2.1, g.2.2.2.2.2.1, g.2.2.2.2.2.2.2.1⟩
  · exact ⟨g.2.2.2.1, g.2.2.2.2.1, g.2.2.2.2.2.2.1⟩
  · exact (h ⟨_, ho, g.1, g.2.1⟩).elim
theorem Pass.stillTo {c d : Nat} (hd : d ≤ all.size) (hcd : c ≤ d) (h : ∀ e, c ≤ e → e < d → ¬ IsAct all N st e) : (st d).H = (st c).H := by
  induction d with
  | zero => have : c = 0 := by omega
            rw [this]
  | succ d ih =>
    by_cases e : c = d + 1
    · rw [e]
    · rw [(hp.still (by omega) (h d (by omega) (by omega))).1]
      exact ih (by omega) (by omega) (fun e h1 h2 => h e h1 (by omega))
theorem Pass.lastOk (i : Nat) (hi : i ≤ all.size) : match (st i).last with
    | none => ∀ e, e < i → ¬ IsAct all N st e
    | some e0 => e0 < i ∧ IsAct all N st e0 ∧ ∀ e, e0 < e → e < i → ¬ IsAct all N st e := by
  induction i with
  | zero => rw [hp.last0]; intro e he; omega
  | succ i ih =>
    have ih := ih (by omega)
    by_cases ha : IsAct all N st i
    · obtain ⟨o, ho, hr⟩ := hp.actR ha
      rw [hr.2.2.2.2.2.1]
      exact ⟨by omega, ha, fun e h1 h2 => by omega⟩
    · rw [(hp.still (by omega) ha).2.1]
      split at ih
      · rename_i hl
        intro e he
        by_cases e1 : e = i
        · rw [e1]; exact ha
        · exact ih e (by omega)
      · rename_i e0 hl
        refine ⟨by omega, ih.2.1, fun e h1 h2 => ?_⟩
        by_cases e1 : e = i
        · rw [e1]; exact ha
        · exact ih.2.2 e h1 (by omega)
theorem Pass.before {L : Nat → Prop} (hcl : ∀ j, L j → ∀ i, ancBit A j i = true → L i) : ∀ (i : Nat), IsAct all N st i → (∀ j, ancBit A i j = true → L j) → ∀ e, e < i → IsAct all N st e → L e := by
  intro i
  induction i using Nat.strongRecOn with
  | _ i ih =>
    intro ha hanc e he hae
    obtain ⟨o, ho, hr⟩ := hp.actR ha
    have hlt : i < all.size := (Array.getElem?_eq_some_iff.1 ho).1
    have hl := hp.lastOk i (by omega)
    split at hl
    · exact (hl e he hae).elim
    · rename_i e0 hl0
      have hL0 : L e0 := hanc e0 (hr.2.2.1 e0 hl0)
      by_cases e1 : e = e0
      · rw [e1]; exact hL0
      · by_cases e2 : e0 < e
        · exact (hl.2.2 e e2 he hae).elim
        · exact ih e0 hl.1 hl.2.1 (hcl e0 hL0) e (by omega) hae
theorem Pass.histOk (i : Nat) (hi : i ≤ all.size) : ∀ e, e < i → IsAct all N st e → ∃ l1 l2, (st i).hist = l1 ++ (e, (st e).H.m) :: l2 ∧ ∀ p ∈ l1, IsAct all N st p.1 ∧ e < p.1 ∧ p.1 < i := by
  induction i with
  | zero => intro e he; omega
  | succ i ih =>
    intro e he hae
    have ih := ih (by omega)
    by_cases ha : IsAct all N st i
    · obtain ⟨o, ho, hr⟩ := hp.actR ha
      have hh := hr.2.2.2.2.2.2.1
      by_cases e1 : e = i
      · subst e1
        exact ⟨[], (st e).hist, by rw [hh]; rfl, by simp⟩
      · obtain ⟨l1, l2, h1, h2⟩ := ih e (by omega) hae
        refine ⟨(i, (st i).H.m) :: l1, l2, by rw [hh, h1]; rfl, ?_⟩
        intro p hp'
        rcases List.mem_cons.1 hp' with rfl | hp'
        · exact ⟨ha, by simp; omega, by simp⟩
        · obtain ⟨q1, q2, q3⟩ := h2 p hp'
          exact ⟨q1, q2, by omega⟩
    · rw [(hp.still (by omega) ha).2.2]
      have e1 : e ≠ i := by intro e1; rw [e1] at hae; exact ha hae
      obtain ⟨l1, l2, h1, h2⟩ := ih e (by omega) hae
      exact ⟨l1, l2, h1, fun p hp' => by obtain ⟨q1, q2, q3⟩ := h2 p hp'; exact ⟨q1, q2, by omega⟩⟩
theorem Pass.seenOk {i : Nat} {o : Oper} (ho : all[i]? = some o) (hw : wantedA all N (st i).T o = true) (hk : kindOf o.op = .quiet) (hl : looksIn o.op = true) : ∀ d, i < d → d ≤ all.size → (⟨i, o, (st i).T, val i⟩ : Seen) ∈ (st d).seen := by
  intro d
  induction d with
  | zero => intro h; omega
  | succ d ih =>
    intro hd hds
    by_cases e : d = i
    · subst e
      obtain ⟨_, g | g | g | g⟩ := hp.step d o ho
      · rw [g.1] at hw; cases hw
      · rw [g.2.2.2.2.2.2.2.2, hl]; simp
      · rw [g.2.1] at hk; cases hk
      · rw [g.2.1] at hk; cases hk
    · have ih := ih (by omega) (by omega)
      have ho' : all[d]? = some all[d] := by simp [show d < all.size by omega]
      obtain ⟨_, g | g | g | g⟩ := hp.step d _ ho'
      · rw [g.2.2.2.2.2.2]; exact ih
      · rw [g.2.2.2.2.2.2.2.2]
        cases looksIn all[d].op
        · exact ih
        · simp [ih]
      · rw [g.2.2.2.2.2.2.2]; exact ih
      · rw [g.2.2.2.2.2.2.2]; exact ih
theorem Pass.sees {i : Nat} {o : Oper} (ho : all[i]? = some o) (hw : wantedA all N (st i).T o = true) (hk : kindOf o.op = .quiet) {c : Nat} (hc : c ≤ all.size)
    (hb : ∀ e, IsAct all N st e → c ≤ e → e < i → ancBit A i e = false) (hf : ∀ e, IsAct all N st e → i < e → e < c → ancBit A e i = false) :
    SeeP E all o (st i).T (val i) (st c).H.m ∨ (noAct all = true ∧ ∃ m l, merge A i (st i).pend (st i).H.m = some (m, l) ∧ SeeP E all o (st i).T (val i) m) := by
  have hlt : i < all.size := (Array.getElem?_eq_some_iff.1 ho).1
  obtain ⟨_, g | g | g | g⟩ := hp.step i o ho
  · rw [g.1] at hw; cases hw
  · rcases g.2.2.1 with hq | hq
    rotate_left
    · exact .inr hq
    refine .inl ?_
    cases hl : looksIn o.op with
    | false =>
      obtain ⟨u, ms, q1, q2, q3⟩ := hq
      exact ⟨u, ms, by rw [evS_still (st c).H.m (st i).H.m _ _ _ hl]; exact q1, q2, q3⟩
    | true =>
      by_cases hci : c ≤ i
      · by_cases hex : ∃ e, c ≤ e ∧ e < i ∧ IsAct all N st e
        · -- the first act from c on
          have hmin : ∃ e, (c ≤ e ∧ e < i ∧ IsAct all N st e) ∧ ∀ e', c ≤ e' → e' < e → ¬ IsAct all N st e' := by
            obtain ⟨e, he⟩ := hex
            induction e using Nat.strongRecOn with
            | _ e ih =>
              by_cases h2 : ∃ e', c ≤ e' ∧ e' < e ∧ IsAct all N st e'
              · obtain ⟨e', q1, q2, q3⟩ := h2
                exact ih e' q2 ⟨q1, by omega, q3⟩
              · exact ⟨e, he, fun e' q1 q2 q3 => h2 ⟨e', q1, q2, q3⟩⟩
          obtain ⟨e, ⟨he1, he2, he3⟩, hfirst⟩ := hmin
          obtain ⟨l1, l2, h1, h2⟩ := hp.histOk i (by omega) e he2 he3
          obtain ⟨msb, hsb, hmb⟩ := g.2.2.2.1 hl
          rw [h1] at hsb
          have hst := hp.stillTo (c := c) (d := e) (by omega) he1 (fun e' q1 q2 => hfirst e' q1 q2)
          rw [← hst]
          exact seesBack_ok l1 msb hsb hmb (fun p hp' => by
            obtain ⟨q1, q2, q3⟩ := h2 p hp'
            exact hb p.1 q1 (by omega) q3) (hb e he3 he1 he2)
        · have hst := hp.stillTo (c := c) (d := i) (by omega) hci (fun e q1 q2 q3 => hex ⟨e, q1, q2, q3⟩)
          rw [← hst]; exact hq
      · -- forward
        have key : ∀ d, i < d → d ≤ c → SeeP E all o (st i).T (val i) (st d).H.m := by
          intro d
          induction d with
          | zero => intro h; omega
          | succ d ih =>
            intro hd hdc
            by_cases e : d = i
            · subst e; rw [g.2.2.2.2.1]; exact hq
            · by_cases ha : IsAct all N st d
              · obtain ⟨od, hod, hr⟩ := hp.actR ha
                obtain ⟨mso, hs, hmo⟩ := hr.2.2.2.2.1
                have := seesOn_ok _ mso hs hmo _ (hp.seenOk ho hw hk hl d (by omega) (by omega)) (hf d ha (by omega) (by omega))
                exact this
              · rw [(hp.still (by omega) ha).1]
                exact ih (by omega) (by omega)
        exact key c (by omega) (Nat.le_refl _)
  · rw [g.2.1] at hk; cases hk
  · rw [g.2.1] at hk; cases hk
def Um (all : Array Oper) (A : Tr Nat) (N : Nat) (st : Nat → DSt) (c j : Nat) : Prop := ∀ e, e < c → IsAct all N st e → ancBit A e j = false
theorem Pass.pendOk (i : Nat) (hi : i ≤ all.size) : ∀ j n k, (j, n, k) ∈ (st i).pend ↔ (IsMk all N st j ∧ j < i ∧ Um all A N st i j ∧ n = i0 + j ∧ k = mk j) := by
  induction i with
  | zero => intro j n k; rw [hp.pend0]; simp
  | succ i ih =>
    have ih := ih (by omega)
    intro j n k
    have hlt : i < all.size := by omega
    have ho : all[i]? = some all[i] := by simp [hlt]
    have umStep : ¬ IsAct all N st i → (Um all A N st (i + 1) j ↔ Um all A N st i j) := by
      intro hna
      constructor
      · intro h e he ha; exact h e (by omega) ha
      · intro h e he ha
        by_cases e1 : e = i
        · rw [e1] at ha; exact (hna ha).elim
        · exact h e (by omega) ha
    have notMk : ¬ IsMk all N st i → ((IsMk all N st j ∧ j < i + 1) ↔ (IsMk all N st j ∧ j < i)) := by
      intro hnm
      constructor
      · rintro ⟨h1, h2⟩
        refine ⟨h1, ?_⟩
        have : j ≠ i := by intro e; rw [e] at h1; exact hnm h1
        omega
      · rintro ⟨h1, h2⟩; exact ⟨h1, by omega⟩
    have uniq : ∀ o', all[i]? = some o' → o' = all[i] := fun o' h' => by rw [ho] at h'; exact (Option.some.inj h').symm
    obtain ⟨_, g | g | g | g⟩ := hp.step i _ ho
    · have hna : ¬ IsAct all N st i := by rintro ⟨o', h1, h2, h3⟩; rw [uniq o' h1] at h2; rw [g.1] at h2; cases h2
      have hnm : ¬ IsMk all N st i := by rintro ⟨o', h1, h2, h3⟩; rw [uniq o' h1] at h2; rw [g.1] at h2; cases h2
      rw [g.2.2.2.2.1, ih j n k, umStep hna]
      constructor
      · rintro ⟨h1, h2, h3, h4, h5⟩; exact ⟨h1, by omega, h3, h4, h5⟩
      · rintro ⟨h1, h2, h3, h4, h5⟩; exact ⟨h1, ((notMk hnm).1 ⟨h1, h2⟩).2, h3, h4, h5⟩
    · have hna : ¬ IsAct all N st i := by rintro ⟨o', h1, h2, h3⟩; rw [uniq o' h1] at h3; rw [g.2.1] at h3; cases h3
      have hnm : ¬ IsMk all N st i := by rintro ⟨o', h1, h2, h3⟩; rw [uniq o' h1] at h3; rw [g.2.1] at h3; cases h3
      rw [g.2.2.2.2.2.2.1, ih j n k, umStep hna]
      constructor
      · rintro ⟨h1, h2, h3, h4, h5⟩; exact ⟨h1, by omega, h3, h4, h5⟩
      · rintro ⟨h1, h2, h3, h4, h5⟩; exact ⟨h1, ((notMk hnm).1 ⟨h1, h2⟩).2, h3, h4, h5⟩
    · have hna : ¬ IsAct all N st i := by rintro ⟨o', h1, h2, h3⟩; rw [uniq o' h1] at h3; rw [g.2.1] at h3; cases h3
      rw [g.2.2.2.2.2.1, List.mem_cons, ih j n k, umStep hna]
      constructor
      · rintro (h | ⟨h1, h2, h3, h4, h5⟩)
        · simp only [Prod.mk.injEq] at h
          obtain ⟨rfl, rfl, rfl⟩ := h
          refine ⟨⟨_, ho, g.1, g.2.1⟩, by omega, ?_, rfl, rfl⟩
          intro e he ha
          cases hb : ancBit A e j with
          | false => rfl
          | true =>
            exfalso
            -- an ancestor stands before
            have hbk : ∀ a b, ancBit A a b = true → b < a := by
              intro a
              induction a using Nat.strongRecOn with
              | _ a iha =>
                intro b hab
                obtain ⟨o', ho', ed, hed, hbd, hor⟩ := hp.static.anc b a hab
                have := hp.static.back a o' ho' ed hed hbd
                rcases hor with rfl | hor
                · exact this
                · have := iha ed.on this b hor; omega
            have := hbk e j hb
            omega
        · exact ⟨h1, by omega, h3, h4, h5⟩
      · rintro ⟨h1, h2, h3, h4, h5⟩
        by_cases e : j = i
        · subst e; left; rw [h4, h5]
        · exact .inr ⟨h1, by omega, h3, h4, h5⟩
    · have ha : IsAct all N st i := ⟨_, ho, g.1, g.2.1⟩
      have hnm : ¬ IsMk all N st i := by rintro ⟨o', h1, h2, h3⟩; rw [uniq o' h1] at h3; rw [g.2.1] at h3; cases h3
      obtain ⟨m, hm, _⟩ := g.2.2.2.1
      have hu : ∀ j n k j' k', (j, n, k) ∈ (st i).pend → (j', n, k') ∈ (st i).pend → j = j' ∧ k = k' := by
        intro j n k j' k' h1 h2
        obtain ⟨_, _, _, q1, q2⟩ := (ih j n k).1 h1
        obtain ⟨_, _, _, r1, r2⟩ := (ih j' n k').1 h2
        have : j = j' := by omega
        subst this
        exact ⟨rfl, by rw [q2, r2]⟩
      have hm3 := (merge_ok A i _ _ _ _ hm hu).2.2 (j, n, k)
      rw [hm3, ih j n k]
      constructor
      · rintro ⟨⟨h1, h2, h3, h4, h5⟩, h6⟩
        refine ⟨h1, by omega, ?_, h4, h5⟩
        intro e he hae
        by_cases e1 : e = i
        · rw [e1]; exact h6
        · exact h3 e (by omega) hae
      · rintro ⟨h1, h2, h3, h4, h5⟩
        have : j ≠ i := by intro e; rw [e] at h1; exact hnm h1
        exact ⟨⟨h1, by omega, fun e he hae => h3 e (by omega) hae, h4, h5⟩, h3 i (by omega) ha⟩
theorem Pass.ancLt : ∀ a b, ancBit A a b = true → b < a := by
  intro a
  induction a using Nat.strongRecOn with
  | _ a iha =>
    intro b hab
    obtain ⟨o', ho', ed, hed, hbd, hor⟩ := hp.static.anc b a hab
    have := hp.static.back a o' ho' ed hed hbd
    rcases hor with rfl | hor
    · exact this
    · have := iha ed.on this b hor; omega
theorem Pass.pendUniq (i : Nat) (hi : i ≤ all.size) : ∀ j n k j' k', (j, n, k) ∈ (st i).pend → (j', n, k') ∈ (st i).pend → j = j' ∧ k = k' := by
  intro j n k j' k' h1 h2
  obtain ⟨_, _, _, q1, q2⟩ := (hp.pendOk i hi j n k).1 h1
  obtain ⟨_, _, _, r1, r2⟩ := (hp.pendOk i hi j' n k').1 h2
  have : j = j' := by omega
  subst this
  exact ⟨rfl, by rw [q2, r2]⟩
theorem Pass.writer {w1 w2 t : Nat} {o1 o2 : Oper} (h1 : all[w1]? = some o1) (h2 : all[w2]? = some o2) (d1 : o1.dst = some t) (d2 : o2.dst = some t) : w1 = w2 := by
  have key : ∀ (a b : Nat) (oa ob : Oper), a < b → all[a]? = some oa → all[b]? = some ob → oa.dst = some t → ob.dst = some t → False := by
    intro a b oa ob hab ha hb da db
    rcases hp.static.pair a b oa ob hab ha hb with h | ⟨_, h⟩
    · exact (Oper.apart_spec h).2.1 t da db
    · exact h t da db
  rcases Nat.lt_trichotomy w1 w2 with h | h | h
  · exact (key _ _ _ _ h h1 h2 d1 d2).elim
  · exact h
  · exact (key _ _ _ _ h h2 h1 d2 d1).elim
theorem Pass.tlook (i : Nat) (hi : i ≤ all.size) (t : Nat) : (∀ w o, all[w]? = some o → o.dst = some t → w < i → (st i).T.get t = some (val w)) ∧ ((∀ w o, all[w]? = some o → o.dst = some t → ¬ w < i) → (st i).T.get t = (st 0).T.get t) := by
  induction i with
  | zero => exact ⟨fun w o _ _ h => by omega, fun _ => rfl⟩
  | succ i ih =>
    obtain ⟨ih1, ih2⟩ := ih (by omega)
    have hlt : i < all.size := by omega
    have ho : all[i]? = some all[i] := by simp [hlt]
    have hput := (hp.step i _ ho).1.2
    have hget : (st (i + 1)).T.get t = if all[i].dst = some t then some (val i) else (st i).T.get t := by
      cases hd : all[i].dst with
      | none =>
        rw [hd] at hput
        simp only [putA, Option.some.injEq] at hput
        rw [← hput]; simp
      | some d =>
        rw [hd] at hput
        simp only [putA] at hput
        cases hb : Nat.blt d N with
        | false => simp [hb] at hput
        | true =>
          simp only [hb, cond_true] at hput
          rw [Tr.get_set hput t]
          by_cases e : t = d
          · simp [e]
          · have : d ≠ t := fun h => e h.symm
            simp [e, this]
    refine ⟨fun w o hw hd hlt' => ?_, fun hno => ?_⟩
    · rw [hget]
      by_cases e : w = i
      · subst e
        rw [ho] at hw
        cases hw
        rw [if_pos hd]
      · have hne : all[i].dst ≠ some t := by
          intro h
          exact e (hp.writer hw ho hd h)
        rw [if_neg hne]
        exact ih1 w o hw hd (by omega)
    · rw [hget, if_neg (fun h => hno i _ ho h (by omega))]
      exact ih2 (fun w o hw hd hlt' => hno w o hw hd (by omega))
end
end Go.QfSy

namespace Go.QfSy
theorem evA_own {ti : Tr TypeInfo} {ρ : Operand → Option AV} {op : Op} {i : Nat} {m : Made} (h : evA ti ρ op i = some m) : m.blk.own = true := by
  unfold evA at h
  split at h
  · split at h
    · cases h
    · cases h; rfl
  · split at h
    · cases h
    · cases h; rfl
  · split at h
    · cases h
    · unfold eBuildSlice at h
      split at h
      · split at h
        · obtain ⟨_, h⟩ := bif_some h
          split at h
          · cases h
          · cases h; rfl
        · cases h
      · cases h
  · split at h
    · cases h
    · split at h
      · cases h
      · unfold eMake at h
        split at h
        · split at h
          · split at h
            · obtain ⟨_, h⟩ := bif_some h
              cases h; rfl
            · cases h
          · cases h
        · cases h
  · cases h
open Classical in
noncomputable def Uf (all : Array Oper) (A : Tr Nat) (N i0 : Nat) (st : Nat → DSt) (mk : Nat → Blk) (L : Nat → Prop) (c : Nat) : Hf := fun b =>
  if i0 ≤ b ∧ IsMk all N st (b - i0) ∧ L (b - i0) ∧ Um all A N st c (b - i0) then some (mk (b - i0)) else (st c).H.m.get b
open Classical in
noncomputable def Pf (all : Array Oper) (A : Tr Nat) (N i0 : Nat) (st : Nat → DSt) (mk : Nat → Blk) (L : Nat → Prop) (c i : Nat) : Hf := fun b =>
  if i0 ≤ b ∧ IsMk all N st (b - i0) ∧ L (b - i0) ∧ Um all A N st c (b - i0) ∧ ancBit A i (b - i0) = false then some (mk (b - i0)) else none
structure Inv (E : Env) (all : Array Oper) (A : Tr Nat) (N i0 : Nat) (st : Nat → DSt) (val : Nat → AV) (mk : Nat → Blk) (γ0 : Gm) (f0 : Hf) (w0 : World) (L : Nat → Prop) (c : Nat) (γ : Gm) (a : Act) (w : World) : Prop where
  closed : ∀ j, L j → ∀ i, ancBit A j i = true → L i
  bound : ∀ j, L j → j < all.size
  cle : c ≤ all.size
  stage : ∀ e, IsAct all N st e → (L e ↔ e < c)
  defers : a.defers = []
  size : a.tmps.size = N
  glob : Glob E.ng γ
  wr : ∀ t w o, all[w]? = some o → o.dst = some t → L w → VRel γ (val w) (a.tmps.getD t undef)
  un : ∀ t, (∀ w o, all[w]? = some o → o.dst = some t → ¬ L w) → ∀ v, (st 0).T.get t = some v → VRel γ v (a.tmps.getD t undef)
  stp : Stp γ0 f0 w0 γ (Uf all A N i0 st mk L c) (st c).H.nx w
  keep : ∀ b, b < i0 → γ b = γ0 b
  fresh : ∀ j, j < all.size → ¬ L j → γ (i0 + j) = none
  empty : ∀ j, j < all.size → Um all A N st c j → (st c).H.m.get (i0 + j) = none
  nx : i0 + all.size ≤ (st c).H.nx
section
variable {P : Program} {E : Env} (hE : EnvOk P E) {call : CallF} (hc : CallOk P E.ng call)
variable {all : Array Oper} {A : Tr Nat} {N i0 : Nat} {st : Nat → DSt} {val : Nat → AV} {mk : Nat → Blk} (hp : Pass E call all A N i0 st val mk)
variable {γ0 : Gm} {f0 : Hf} {w0 : World} {L : Nat → Prop} {c : Nat} {γ : Gm} {a : Act} {w : World}
theorem Inv.agree (hp : Pass E call all A N i0 st val mk) (hv : Inv E all A N i0 st val mk γ0 f0 w0 L c γ a w) {i : Nat} {o : Oper} (ho : all[i]? = some o) (hL : ¬ L i) (hanc : ∀ j, ancBit A i j = true → L j) {t : Nat} (ht : t ∈ o.looksAt all) {v : AV} (hTv : (st i).T.get t = some v) : VRel γ v (a.tmps.getD t undef) := by
  have hlt : i < all.size := (Array.getElem?_eq_some_iff.1 ho).1
  obtain ⟨h1, h2⟩ := hp.tlook i (by omega) t
  by_cases hex : ∃ (w : Nat) (o' : Oper), all[w]? = some o' ∧ o'.dst = some t
  · obtain ⟨wi, o', hw, hd⟩ := hex
    rcases Nat.lt_trichotomy wi i with h | h | h
    · rw [h1 wi o' hw hd h] at hTv
      cases hTv
      refine hv.wr t wi o' hw hd ?_
      rcases hp.static.pair wi i o' o h hw ho with hap | ⟨hb, _⟩
      · exact ((Oper.apart_spec hap).1 t hd ht).elim
      · exact hanc wi hb
    · subst h
      rw [h2 (fun w2 o2 hw2 hd2 => by have := hp.writer hw2 hw hd2 hd; omega)] at hTv
      exact hv.un t (fun w2 o2 hw2 hd2 => by have := hp.writer hw2 hw hd2 hd; rw [this]; exact hL) v hTv
    · rw [h2 (fun w2 o2 hw2 hd2 => by have := hp.writer hw2 hw hd2 hd; omega)] at hTv
      refine hv.un t (fun w2 o2 hw2 hd2 hL2 => ?_) v hTv
      have := hp.writer hw2 hw hd2 hd
      subst this
      rcases hp.static.pair i w2 o o' h ho hw with hap | ⟨hb, _⟩
      · exact (Oper.apart_spec hap).2.2 t hd ht
      · exact hL (hv.closed w2 hL2 i hb)
  · rw [h2 (fun w2 o2 hw2 hd2 => (hex ⟨w2, o2, hw2, hd2⟩).elim)] at hTv
    exact hv.un t (fun w2 o2 hw2 hd2 => (hex ⟨w2, o2, hw2, hd2⟩).elim) v hTv
theorem Inv.rho (hp : Pass E call all A N i0 st val mk) (hv : Inv E all A N i0 st val mk γ0 f0 w0 L c γ a w) {i : Nat} {o : Oper} (ho : all[i]? = some o) (hL : ¬ L i) (hanc : ∀ j, ancBit A i j = true → L j) (x : Operand) (v : AV)
    (hq : evoR E.ng (st i).T (o.looksAt all) x = some v) : VRel γ v (a.eval x) := by
  cases x with
  | tmp t =>
    simp only [evoR] at hq
    obtain ⟨hb, hq⟩ := bif_some hq
    have ht : t ∈ o.looksAt all := by
      obtain ⟨u, hu, he⟩ := List.any_eq_true.1 hb
      rw [← beq_eq he]; exact hu
    exact hv.agree hp ho hL hanc ht hq
  | const V => exact ofVal_ok γ hq
  | global g =>
    simp only [evoR, evo] at hq
    obtain ⟨hb, hq⟩ := bif_some hq
    cases hq
    exact .ptr 0 (hv.glob g (Nat.le_of_ble_eq_true hb))
  | func f => simp only [evoR, evo, Option.some.injEq] at hq; subst hq; exact .fn f .nil
theorem Inv.want (hp : Pass E call all A N i0 st val mk) (hv : Inv E all A N i0 st val mk γ0 f0 w0 L c γ a w) {i : Nat} {o : Oper} (ho : all[i]? = some o) (hL : ¬ L i) (hanc : ∀ j, ancBit A i j = true → L j) : Region.wanted o (yielded all a.tmps) = wantedA all N (st i).T o := by
  unfold Region.wanted wantedA
  cases hg : o.guard with
  | none => rfl
  | some p =>
    obtain ⟨j, want⟩ := p
    simp only
    have hy : yielded all a.tmps j = yieldA all N (st i).T j := by
      unfold yielded yieldA
      cases hoj : all[j]? with
      | none => rfl
      | some oj =>
        simp only [Option.bind_some]
        cases hd : oj.dst with
        | none => rfl
        | some d =>
          simp only [Option.bind_some]
          have hmem : d ∈ o.looksAt all := by
            unfold Oper.looksAt
            rw [hg]
            simp [hoj, hd]
          obtain ⟨x, hx⟩ := Option.isSome_iff_exists.1 (known_at (hp.step i o ho).1.1 hg oj d hoj hd)
          have ht := hv.agree hp ho hL hanc hmem hx
          have hsz := hv.size
          cases hb : Nat.blt d N with
          | true =>
            have hlt' : d < a.tmps.size := by rw [hsz]; exact Nat.le_of_ble_eq_true hb
            rw [Array.getElem?_eq_getElem hlt']
            have e : a.tmps.getD d undef = a.tmps[d] := by simp [Array.getD, hlt']
            rw [e] at ht
            simp only [cond_true]
            rw [hx]
            exact yield_known ht
          | false =>
            have hge : a.tmps.size ≤ d := by
              rw [hsz]
              rcases Nat.lt_or_ge d N with h' | h'
              · have : Nat.blt d N = true := Nat.ble_eq_true_of_le h'
                rw [this] at hb; cases hb
              · exact h'
            rw [Array.getElem?_eq_none hge]
            rfl
    rw [hy]
    cases yieldA all N (st i).T j with
    | none => rfl
    | some b => cases want <;> cases b <;> rfl
theorem Inv.put (hp : Pass E call all A N i0 st val mk) (hv : Inv E all A N i0 st val mk γ0 f0 w0 L c γ a w) {i : Nat} {o : Oper} (ho : all[i]? = some o) (hL : ¬ L i) {γ' : Gm} (hle : γ.le γ') {V : Value} (hV : VRel γ' (val i) V) :
    (a.put o.dst V).defers = [] ∧ (a.put o.dst V).tmps.size = N ∧ Glob E.ng γ' ∧
    (∀ t w o', all[w]? = some o' → o'.dst = some t → (L w ∨ w = i) → VRel γ' (val w) ((a.put o.dst V).tmps.getD t undef)) ∧
    (∀ t, (∀ w o', all[w]? = some o' → o'.dst = some t → ¬ (L w ∨ w = i)) → ∀ v, (st 0).T.get t = some v → VRel γ' v ((a.put o.dst V).tmps.getD t undef)) := by
  have hput := (hp.step i o ho).1.2
  have hget : ∀ t, (a.put o.dst V).tmps.getD t undef = if o.dst = some t then V else a.tmps.getD t undef := by
    intro t
    cases hd : o.dst with
    | none => simp [Act.put]
    | some d =>
      rw [hd] at hput
      simp only [putA] at hput
      obtain ⟨hb, _⟩ := bif_some hput
      have hlt : d < a.tmps.size := by rw [hv.size]; exact Nat.le_of_ble_eq_true hb
      by_cases e : d = t
      · subst e
        simp [Act.put, Array.getD, hlt]
      · have := Act.eval_put (a := a) (dst := some d) (v := V) (x := .tmp t) (by intro d' hd'; cases hd'; intro h; cases h; exact e rfl)
        have h2 : ¬ (some d = some t) := by intro h; cases h; exact e rfl
        rw [if_neg h2]
        exact this
  have hdef : (a.put o.dst V).defers = a.defers := by cases o.dst <;> rfl
  have hsz : (a.put o.dst V).tmps.size = a.tmps.size := by cases o.dst <;> simp [Act.put]
  refine ⟨by rw [hdef]; exact hv.defers, by rw [hsz]; exact hv.size, fun g hg => hle.nm _ _ (hv.glob g hg), ?_, ?_⟩
  · intro t wi o' hw hd hLw
    rw [hget t]
    by_cases e : wi = i
    · subst e
      rw [ho] at hw
      cases hw
      rw [if_pos hd]
      exact hV
    · have hne : ¬ (o.dst = some t) := fun h => e (hp.writer hw ho hd h)
      rw [if_neg hne]
      exact (hv.wr t wi o' hw hd (hLw.resolve_right e)).mono hle
  · intro t hno v hTv
    rw [hget t]
    have hne : ¬ (o.dst = some t) := fun h => hno i o ho h (.inr rfl)
    rw [if_neg hne]
    exact (hv.un t (fun w2 o2 h1 h2 h3 => hno w2 o2 h1 h2 (.inl h3)) v hTv).mono hle
theorem Inv.sub (hv : Inv E all A N i0 st val mk γ0 f0 w0 L c γ a w) : ∀ b k, (st c).H.m.get b = some k → Uf all A N i0 st mk L c b = some k := by
  intro b k hb
  unfold Uf
  split
  · rename_i h
    obtain ⟨h1, h2, h3, h4⟩ := h
    have := hv.empty (b - i0) (hv.bound _ h3) h4
    rw [show i0 + (b - i0) = b by omega, hb] at this
    cases this
  · exact hb
theorem Inv.quietStep (hp : Pass E call all A N i0 st val mk) (hv : Inv E all A N i0 st val mk γ0 f0 w0 L c γ a w) {i : Nat} {o : Oper} (ho : all[i]? = some o) (hL : ¬ L i) (hanc : ∀ j, ancBit A i j = true → L j) (hna : ¬ IsAct all N st i) (hnm : ¬ IsMk all N st i) {V : Value} (hV : VRel γ (val i) V) :
    Inv E all A N i0 st val mk γ0 f0 w0 (fun j => L j ∨ j = i) c γ (a.put o.dst V) w := by
  obtain ⟨p1, p2, p3, p4, p5⟩ := hv.put hp ho hL (Gm.le_refl γ) hV
  have hlt : i < all.size := (Array.getElem?_eq_some_iff.1 ho).1
  refine ⟨?_, ?_, hv.cle, ?_, p1, p2, p3, p4, p5, ?_, hv.keep, ?_, hv.empty, hv.nx⟩
  · rintro j (hj | rfl) i' hb
    · exact .inl (hv.closed j hj i' hb)
    · exact .inl (hanc i' hb)
  · rintro j (hj | rfl)
    · exact hv.bound j hj
    · exact hlt
  · intro e he
    have : e ≠ i := by intro h; rw [h] at he; exact hna he
    rw [← hv.stage e he]
    exact ⟨fun h => h.resolve_right this, .inl⟩
  · have : Uf all A N i0 st mk (fun j => L j ∨ j = i) c = Uf all A N i0 st mk L c := by
      funext b
      unfold Uf
      have hiff : (i0 ≤ b ∧ IsMk all N st (b - i0) ∧ (L (b - i0) ∨ b - i0 = i) ∧ Um all A N st c (b - i0)) ↔ (i0 ≤ b ∧ IsMk all N st (b - i0) ∧ L (b - i0) ∧ Um all A N st c (b - i0)) := by
        constructor
        · rintro ⟨h1, h2, h3, h4⟩
          refine ⟨h1, h2, h3.resolve_right (fun e => ?_), h4⟩
          rw [e] at h2; exact hnm h2
        · rintro ⟨h1, h2, h3, h4⟩; exact ⟨h1, h2, .inl h3, h4⟩
      by_cases hcnd : i0 ≤ b ∧ IsMk all N st (b - i0) ∧ L (b - i0) ∧ Um all A N st c (b - i0)
      · rw [if_pos (hiff.2 hcnd), if_pos hcnd]
      · rw [if_neg (fun h => hcnd (hiff.1 h)), if_neg hcnd]
    rw [this]
    exact hv.stp
  · intro j hj hnL
    exact hv.fresh j hj (fun h => hnL (.inl h))
end
section
variable {P : Program} {E : Env} (hE : EnvOk P E) {call : CallF} (hc : CallOk P E.ng call)
variable {all : Array Oper} {A : Tr Nat} {N i0 : Nat} {st : Nat → DSt} {val : Nat → AV} {mk : Nat → Blk} (hp : Pass E call all A N i0 st val mk)
variable {γ0 : Gm} {f0 : Hf} {w0 : World} {L : Nat → Prop} {c : Nat} {γ : Gm} {a : Act} {w : World}
include hE hc hp
theorem Inv.step (hv : Inv E all A N i0 st val mk γ0 f0 w0 L c γ a w) {i : Nat} {o : Oper} (ho : all[i]? = some o) (hL : ¬ L i) (hanc : ∀ j, ancBit A i j = true → L j) {K : Act → World → Prop} {Q : Exit → Act → World → Prop}
    (hK : ∀ c' γ' a' w', Inv E all A N i0 st val mk γ0 f0 w0 (fun j => L j ∨ j = i) c' γ' a' w' → K a' w') : wpOp P all Q i K a w := by
  have hlt : i < all.size := (Array.getElem?_eq_some_iff.1 ho).1
  have uniq : ∀ o', all[i]? = some o' → o' = o := fun o' h' => by rw [ho] at h'; exact (Option.some.inj h').symm
  unfold wpOp
  simp only [ho]
  rw [hv.want hp ho hL hanc]
  have hrel : HRel γ (st c).H.m.get (st c).H.nx w := hv.stp.rel.sub hv.sub
  obtain ⟨hput, g | g | g | g⟩ := hp.step i o ho
  · -- skipped
    have hna : ¬ IsAct all N st i := by rintro ⟨o', h1, h2, h3⟩; rw [uniq o' h1, g.1] at h2; cases h2
    have hnm : ¬ IsMk all N st i := by rintro ⟨o', h1, h2, h3⟩; rw [uniq o' h1, g.1] at h2; cases h2
    rw [g.1]
    simp only [Bool.false_eq_true, if_false]
    exact hK c γ _ w (hv.quietStep hp ho hL hanc hna hnm (by rw [g.2.1]; exact .tup .nil))
  · -- quiet
    have hna : ¬ IsAct all N st i := by rintro ⟨o', h1, h2, h3⟩; rw [uniq o' h1, g.2.1] at h3; cases h3
    have hnm : ¬ IsMk all N st i := by rintro ⟨o', h1, h2, h3⟩; rw [uniq o' h1, g.2.1] at h3; cases h3
    rw [g.1]
    simp only [if_true]
    have hsee := hp.sees ho g.1 g.2.1 hv.cle
      (fun e he h1 h2 => by
        cases hb : ancBit A i e with
        | false => rfl
        | true => have := (hv.stage e he).1 (hanc e hb); omega)
      (fun e he h1 h2 => by
        cases hb : ancBit A e i with
        | false => rfl
        | true => exact (hL (hv.closed e ((hv.stage e he).2 h2) i hb)).elim)
    have hsee2 : ∃ m, HRel γ m.get (st c).H.nx w ∧ SeeP E all o (st i).T (val i) m := by
      rcases hsee with hsee | ⟨hno, m, l, hm, hsee⟩
      · exact ⟨_, hrel, hsee⟩
      · refine ⟨m, hv.stp.rel.sub (fun b k hb => ?_), hsee⟩
        have no : ∀ e, ¬ IsAct all N st e := noAct_ok hno
        have hH : (st i).H = (st c).H := by
          rcases Nat.le_total c i with h | h
          · exact hp.stillTo (by omega) h (fun e _ _ => no e)
          · exact (hp.stillTo hv.cle h (fun e _ _ => no e)).symm
        have hpend := hp.pendOk i (by omega)
        obtain ⟨m1, m2, m3⟩ := merge_ok A i _ _ _ _ hm (hp.pendUniq i (by omega))
        by_cases hx : ∃ j k', (j, b, k') ∈ (st i).pend ∧ ancBit A i j = true
        · obtain ⟨j, k', hx1, hx2⟩ := hx
          have e1 := m1 j b k' hx1 hx2
          rw [hb] at e1
          cases e1
          obtain ⟨q1, q2, q3, q4, q5⟩ := (hpend j b k).1 hx1
          unfold Uf
          have e2 : b - i0 = j := by omega
          rw [if_pos ⟨by omega, by rw [e2]; exact q1, by rw [e2]; exact hanc j hx2, fun e _ he => (no e he).elim⟩, e2, q5]
        · have e1 := m2 b (fun j k' h' => by
            cases hb2 : ancBit A i j with
            | false => rfl
            | true => exact (hx ⟨j, k', h', hb2⟩).elim)
          rw [hb, hH] at e1
          exact hv.sub b k e1.symm
    obtain ⟨mm, hrel2, u, ms, s1, s2, s3⟩ := hsee2
    obtain ⟨V, h1, h2⟩ := evS_ok (P := P) hE.ti hE.lz hrel2 (hv.rho hp ho hL hanc) s1 s2
    left
    unfold Oper.wp
    rw [h1, Oper.upon_value]
    exact hK c γ _ w (hv.quietStep hp ho hL hanc hna hnm (s3 γ V h2))
  · -- a new block
    have hmk : IsMk all N st i := ⟨o, ho, g.1, g.2.1⟩
    have hna : ¬ IsAct all N st i := by rintro ⟨o', h1, h2, h3⟩; rw [uniq o' h1, g.2.1] at h3; cases h3
    rw [g.1]
    simp only [if_true]
    have hfr := hv.fresh i hlt hL
    have hnx := hv.nx
    obtain ⟨V, w', h1, h2, h3⟩ := evA_ok (P := P) hE.ti hv.stp.rel (hv.rho hp ho hL hanc) (i := i0 + i) (nx' := (st c).H.nx) hfr (by omega) (Nat.le_refl _) g.2.2.1
    left
    unfold Oper.wp
    rw [h1, Oper.upon_value]
    obtain ⟨p1, p2, p3, p4, p5⟩ := hv.put hp ho hL h2.le h3
    refine hK c _ _ w' ⟨?_, ?_, hv.cle, ?_, p1, p2, p3, p4, p5, ?_, ?_, ?_, hv.empty, hv.nx⟩
    · rintro j (hj | rfl) i' hb
      · exact .inl (hv.closed j hj i' hb)
      · exact .inl (hanc i' hb)
    · rintro j (hj | rfl)
      · exact hv.bound j hj
      · exact hlt
    · intro e he
      have : e ≠ i := by intro h; rw [h] at he; exact hna he
      rw [← hv.stage e he]
      exact ⟨fun h => h.resolve_right this, .inl⟩
    · have hum : Um all A N st c i := by
        intro e he hae
        cases hb : ancBit A e i with
        | false => rfl
        | true => exact (hL (hv.closed e ((hv.stage e hae).2 he) i hb)).elim
      have : Uf all A N i0 st mk (fun j => L j ∨ j = i) c = upd (Uf all A N i0 st mk L c) (i0 + i) (some (mk i)) := by
        funext b
        by_cases e : b = i0 + i
        · subst e
          rw [upd_same]
          unfold Uf
          rw [if_pos ⟨by omega, by rw [Nat.add_sub_cancel_left]; exact hmk, by rw [Nat.add_sub_cancel_left]; exact .inr rfl, by rw [Nat.add_sub_cancel_left]; exact hum⟩, Nat.add_sub_cancel_left]
        · rw [upd_other _ _ e]
          unfold Uf
          have hiff : (i0 ≤ b ∧ IsMk all N st (b - i0) ∧ (L (b - i0) ∨ b - i0 = i) ∧ Um all A N st c (b - i0)) ↔ (i0 ≤ b ∧ IsMk all N st (b - i0) ∧ L (b - i0) ∧ Um all A N st c (b - i0)) := by
            constructor
            · rintro ⟨h1, h2, h3, h4⟩
              exact ⟨h1, h2, h3.resolve_right (fun e2 => e (by omega)), h4⟩
            · rintro ⟨h1, h2, h3, h4⟩; exact ⟨h1, h2, .inl h3, h4⟩
          by_cases hcnd : i0 ≤ b ∧ IsMk all N st (b - i0) ∧ L (b - i0) ∧ Um all A N st c (b - i0)
          · rw [if_pos (hiff.2 hcnd), if_pos hcnd]
          · rw [if_neg (fun h => hcnd (hiff.1 h)), if_neg hcnd]
      rw [this]
      exact hv.stp.trans h2
    · intro b hb
      rw [Gm.put_other _ _ (by omega)]
      exact hv.keep b hb
    · intro j hj hnL
      rw [Gm.put_other _ _ (by intro h; exact hnL (.inr (by omega)))]
      exact hv.fresh j hj (fun h => hnL (.inl h))
  · -- an act
    have hact : IsAct all N st i := ⟨o, ho, g.1, g.2.1⟩
    have hnm : ¬ IsMk all N st i := by rintro ⟨o', h1, h2, h3⟩; rw [uniq o' h1, g.2.1] at h3; cases h3
    rw [g.1]
    simp only [if_true]
    obtain ⟨m, hm, tp, ms, u, H', hev, hmH, hH', himp⟩ := g.2.2.2.1
    have hbef := hp.before (L := L) hv.closed i hact hanc
    have hci : c ≤ i := by
      rcases Nat.lt_or_ge i c with h | h
      · exact (hL ((hv.stage i hact).2 h)).elim
      · exact h
    have hno : ∀ e, c ≤ e → e < i → ¬ IsAct all N st e := by
      intro e h1 h2 h3
      have := (hv.stage e h3).1 (hbef e h2 h3)
      omega
    have hH : (st i).H = (st c).H := hp.stillTo (by omega) hci hno
    have hUm : ∀ j, Um all A N st i j ↔ Um all A N st c j := by
      intro j
      constructor
      · intro h e he hae; exact h e (by omega) hae
      · intro h e he hae
        rcases Nat.lt_or_ge e c with h' | h'
        · exact h e h' hae
        · exact (hno e h' he hae).elim
    have hpend := hp.pendOk i (by omega)
    obtain ⟨m1, m2, m3⟩ := merge_ok A i _ _ _ _ hm (hp.pendUniq i (by omega))
    have hbk : ∀ a b, ancBit A a b = true → b < a := hp.ancLt
    -- what stays behind
    generalize hpdef : Pf all A N i0 st mk L c i = p
    have hpPos : ∀ b, (i0 ≤ b ∧ IsMk all N st (b - i0) ∧ L (b - i0) ∧ Um all A N st c (b - i0) ∧ ancBit A i (b - i0) = false) → p b = some (mk (b - i0)) := by
      intro b h
      rw [← hpdef]; unfold Pf; rw [if_pos h]
    have hpNeg : ∀ b, ¬ (i0 ≤ b ∧ IsMk all N st (b - i0) ∧ L (b - i0) ∧ Um all A N st c (b - i0) ∧ ancBit A i (b - i0) = false) → p b = none := by
      intro b h
      rw [← hpdef]; unfold Pf; rw [if_neg h]
    have hnoP : ∀ j, ancBit A i j = false → m.get (i0 + j) = (st c).H.m.get (i0 + j) := by
      intro j hb
      rw [m2 (i0 + j) (fun j' k' h' => by
        obtain ⟨_, _, _, q, _⟩ := (hpend j' (i0 + j) k').1 h'
        have : j' = j := by omega
        rw [this]; exact hb), hH]
    have hU : Uf all A N i0 st mk L c = orH p m.get := by
      funext b
      by_cases hcond : i0 ≤ b ∧ IsMk all N st (b - i0) ∧ L (b - i0) ∧ Um all A N st c (b - i0)
      · obtain ⟨q1, q2, q3, q4⟩ := hcond
        have e1 : Uf all A N i0 st mk L c b = some (mk (b - i0)) := by unfold Uf; rw [if_pos ⟨q1, q2, q3, q4⟩]
        rw [e1]
        cases hb : ancBit A i (b - i0) with
        | true =>
          have hpn : p b = none := hpNeg b (by rintro ⟨_, _, _, _, h⟩; rw [hb] at h; cases h)
          rw [orH_none hpn]
          have := m1 (b - i0) (i0 + (b - i0)) (mk (b - i0)) ((hpend _ _ _).2 ⟨q2, hbk _ _ hb, (hUm _).2 q4, rfl, rfl⟩) hb
          rw [show i0 + (b - i0) = b by omega] at this
          exact this.symm
        | false =>
          rw [orH_some (hpPos b ⟨q1, q2, q3, q4, hb⟩)]
      · have e1 : Uf all A N i0 st mk L c b = (st c).H.m.get b := by unfold Uf; rw [if_neg hcond]
        have hpn : p b = none := hpNeg b (by rintro ⟨h1, h2, h3, h4, _⟩; exact hcond ⟨h1, h2, h3, h4⟩)
        rw [e1, orH_none hpn]
        rw [m2 b (fun j' k' h' => by
          obtain ⟨r1, r2, r3, r4, r5⟩ := (hpend j' b k').1 h'
          cases hb : ancBit A i j' with
          | false => rfl
          | true =>
            exfalso
            apply hcond
            have : b - i0 = j' := by omega
            rw [this]
            exact ⟨by omega, r1, hanc j' hb, (hUm j').1 r3⟩), hH]
    have hpOk : ∀ b k, p b = some k → k.own = true ∧ m.get b = none := by
      intro b k hb
      by_cases h : i0 ≤ b ∧ IsMk all N st (b - i0) ∧ L (b - i0) ∧ Um all A N st c (b - i0) ∧ ancBit A i (b - i0) = false
      · rw [hpPos b h] at hb
        cases hb
        obtain ⟨q1, q2, q3, q4, q5⟩ := h
        obtain ⟨o', ho', hr'⟩ := hp.mkR q2
        refine ⟨evA_own hr'.2.2.1, ?_⟩
        have := hnoP (b - i0) q5
        rw [show i0 + (b - i0) = b by omega] at this
        rw [this]
        have := hv.empty (b - i0) (hv.bound _ q3) q4
        rw [show i0 + (b - i0) = b by omega] at this
        exact this
      · rw [hpNeg b h] at hb; cases hb
    have hrelU : HRel γ (orH p m.get) (st c).H.nx w := by rw [← hU]; exact hv.stp.rel
    have hrelm : HRel γ m.get (st i).H.nx w := by
      rw [hH]
      refine hrelU.sub (fun b k hb => ?_)
      cases hpb : p b with
      | none => rw [orH_none hpb]; exact hb
      | some k' => rw [(hpOk b k' hpb).2] at hb; cases hb
    left
    refine evAct_ok hE hc (H := ⟨m, (st i).H.nx, tp, ms⟩) hrelm (hv.rho hp ho hL hanc) hv.glob hev hmH ?_
    intro V w' γ' hV hrun
    have hV := himp γ' V hV
    have hHm : H'.m = (st (i + 1)).H.m := by rw [hH']
    have hHn : H'.nx = (st (i + 1)).H.nx := by rw [hH']
    have hfr := HRel.frame hrelU hpOk hrun.stp
    rw [← hU, hHm, hHn] at hfr
    obtain ⟨p1, p2, p3, p4, p5⟩ := hv.put hp ho hL hrun.stp.le hV
    have hnx := hv.nx
    have hkeep : ∀ b, b < (st c).H.nx → γ' b = γ b := by
      intro b hb
      have := hrun.keep b (by rw [hH]; exact hb)
      exact this
    refine hK (i + 1) γ' _ w' ⟨?_, ?_, by omega, ?_, p1, p2, p3, p4, p5, ?_, ?_, ?_, ?_, ?_⟩
    · rintro j (hj | rfl) i' hb
      · exact .inl (hv.closed j hj i' hb)
      · exact .inl (hanc i' hb)
    · rintro j (hj | rfl)
      · exact hv.bound j hj
      · exact hlt
    · intro e he
      constructor
      · rintro (h | rfl)
        · rcases Nat.lt_or_ge e (i + 1) with h' | h'
          · exact h'
          · exfalso
            have := hp.before (L := L) hv.closed e he (hv.closed e h) i (by omega) hact
            exact hL this
        · omega
      · intro h
        by_cases e1 : e = i
        · exact .inr e1
        · exact .inl (hbef e (by omega) he)
    · have : Uf all A N i0 st mk (fun j => L j ∨ j = i) (i + 1) = orH p (st (i + 1)).H.m.get := by
        funext b
        have hiff : (i0 ≤ b ∧ IsMk all N st (b - i0) ∧ (L (b - i0) ∨ b - i0 = i) ∧ Um all A N st (i + 1) (b - i0)) ↔ (i0 ≤ b ∧ IsMk all N st (b - i0) ∧ L (b - i0) ∧ Um all A N st c (b - i0) ∧ ancBit A i (b - i0) = false) := by
          constructor
          · rintro ⟨h1, h2, h3, h4⟩
            refine ⟨h1, h2, h3.resolve_right (fun e => by rw [e] at h2; exact hnm h2), (hUm _).1 (fun e he hae => h4 e (by omega) hae), h4 i (by omega) hact⟩
          · rintro ⟨h1, h2, h3, h4, h5⟩
            refine ⟨h1, h2, .inl h3, fun e he hae => ?_⟩
            by_cases e1 : e = i
            · rw [e1]; exact h5
            · exact (hUm _).2 h4 e (by omega) hae
        by_cases hcond : i0 ≤ b ∧ IsMk all N st (b - i0) ∧ L (b - i0) ∧ Um all A N st c (b - i0) ∧ ancBit A i (b - i0) = false
        · rw [orH_some (hpPos b hcond)]
          unfold Uf
          rw [if_pos (hiff.2 hcond)]
        · rw [orH_none (hpNeg b hcond)]
          unfold Uf
          rw [if_neg (fun h => hcond (hiff.1 h))]
      rw [this]
      exact hv.stp.trans hfr
    · intro b hb
      rw [hkeep b (by omega)]
      exact hv.keep b hb
    · intro j hj hnL
      rw [hkeep (i0 + j) (by omega)]
      exact hv.fresh j hj (fun h => hnL (.inl h))
    · intro j hj hum
      cases hg : (st (i + 1)).H.m.get (i0 + j) with
      | none => rfl
      | some k =>
        exfalso
        rw [← hHm] at hg
        obtain ⟨B, x, cs, ex, r1, _⟩ := hrun.stp.rel.blk _ _ hg
        have hk' := hkeep (i0 + j) (by omega)
        rw [r1] at hk'
        rcases hrun.stp.dom _ _ hg with ⟨k', hk2⟩ | hn
        · have hk3 : m.get (i0 + j) = some k' := hk2
          rw [hnoP j (hum i (by omega) hact), hv.empty j hj (fun e he hae => hum e (by omega) hae)] at hk3
          cases hk3
        · rw [hn] at hk'; cases hk'
    · have h1 := hrun.nx
      have h2 : (st c).H.nx ≤ (st (i + 1)).H.nx := by rw [← hH, ← hHn]; exact h1
      omega
end
end Go.QfSy

namespace Go.QfSy
def unlisted (n : Nat) (listed : Array Bool) : Nat := ((List.range n).filter fun i => !listed.getD i false).length
theorem unlisted_set {n i : Nat} {listed : Array Bool} (hi : i < n) (hs : listed.size = n) (h : listed.getD i false = false) : unlisted n (listed.setIfInBounds i true) + 1 = unlisted n listed := by
  unfold unlisted
  have key : ∀ (l : List Nat), l.Nodup → (i ∈ l → ((l.filter fun j => !(listed.setIfInBounds i true).getD j false).length + 1 = (l.filter fun j => !listed.getD j false).length)) ∧ (i ∉ l → (l.filter fun j => !(listed.setIfInBounds i true).getD j false).length = (l.filter fun j => !listed.getD j false).length) := by
    intro l
    induction l with
    | nil => intro _; exact ⟨by simp, by simp⟩
    | cons j l ih =>
      intro hnd
      obtain ⟨hj, hnd'⟩ := List.nodup_cons.1 hnd
      obtain ⟨ih1, ih2⟩ := ih hnd'
      have hset : (listed.setIfInBounds i true).getD i false = true := by simp [Array.getD, hs, hi]
      refine ⟨fun hm => ?_, fun hm => ?_⟩
      · by_cases e : j = i
        · subst e
          have := ih2 hj
          simp only [List.filter_cons, hset, Bool.not_true, Bool.false_eq_true, if_false, h, Bool.not_false, if_true, List.length_cons]
          omega
        · have hne := getD_set_ne (listed := listed) false (fun h => e h.symm : i ≠ j)
          have hm' : i ∈ l := by
            rcases List.mem_cons.1 hm with rfl | hm
            · exact (e rfl).elim
            · exact hm
          have := ih1 hm'
          simp only [List.filter_cons, hne]
          split
          · simp only [List.length_cons]; omega
          · exact this
      · have e : j ≠ i := by intro e; exact hm (by simp [e])
        have hne := getD_set_ne (listed := listed) false (fun h => e h.symm : i ≠ j)
        have := ih2 (fun h => hm (by simp [h]))
        simp only [List.filter_cons, hne]
        split
        · simp only [List.length_cons]; omega
        · exact this
  exact (key (List.range n) List.nodup_range).1 (by simp [hi])
theorem unlisted_zero {n : Nat} {listed : Array Bool} (h : unlisted n listed = 0) : ∀ i, i < n → listed.getD i false = true := by
  intro i hi
  unfold unlisted at h
  have h' := List.eq_nil_of_length_eq_zero h
  rw [List.filter_eq_nil_iff] at h'
  have := h' i (by simp [hi])
  simpa using this
section
variable {P : Program} {E : Env} (hE : EnvOk P E) {call : CallF} (hc : CallOk P E.ng call)
include hE hc
theorem Inv.any {all : Array Oper} {A : Tr Nat} {N i0 : Nat} {st : Nat → DSt} {val : Nat → AV} {mk : Nat → Blk} (hp : Pass E call all A N i0 st val mk) {γ0 : Gm} {f0 : Hf} {w0 : World} {Q : Exit → Act → World → Prop}
    (hQ : ∀ L c γ a w, Inv E all A N i0 st val mk γ0 f0 w0 L c γ a w → (∀ i, i < all.size → L i) → Q .normal a w) :
    ∀ (fuel : Nat) (listed : Array Bool) (c : Nat) (γ : Gm) (a : Act) (w : World), listed.size = all.size → unlisted all.size listed ≤ fuel → Inv E all A N i0 st val mk γ0 f0 w0 (fun i => listed.getD i false = true) c γ a w → wpAny P .any all Q fuel listed a w := by
  intro fuel
  have done : ∀ (listed : Array Bool) (c : Nat) (γ : Gm) (a : Act) (w : World), listed.size = all.size → Inv E all A N i0 st val mk γ0 f0 w0 (fun i => listed.getD i false = true) c γ a w → Region.ready .any all listed = [] → Q .normal a w := by
    intro listed c γ a w hs hv hr
    refine hQ _ c γ a w hv ?_
    intro i
    induction i using Nat.strongRecOn with
    | _ i ih =>
      intro hi
      cases hb : listed.getD i false with
      | true => rfl
      | false =>
        exfalso
        have : i ∈ Region.ready .any all listed := by
          rw [mem_ready]
          refine ⟨?_, all[i], by simp [hi], fun e he hbd => ?_⟩
          · have hlt : i < listed.size := by omega
            simp [Array.getD, hlt] at hb ⊢
            exact hb
          · have hlt := hp.static.back i all[i] (by simp [hi]) e he hbd
            exact ih e.on hlt (by omega)
        rw [hr] at this
        cases this
  induction fuel with
  | zero =>
    intro listed c γ a w hs hu hv
    have hall := unlisted_zero (show unlisted all.size listed = 0 by omega)
    have hr : Region.ready .any all listed = [] := by
      cases hrd : Region.ready .any all listed with
      | nil => rfl
      | cons i l =>
        exfalso
        have hm : i ∈ Region.ready .any all listed := by rw [hrd]; simp
        obtain ⟨h1, o, ho, _⟩ := mem_ready.1 hm
        have hlt : i < all.size := (Array.getElem?_eq_some_iff.1 ho).1
        have h2 := hall i hlt
        have hlt' : i < listed.size := by omega
        simp [Array.getD, hlt'] at h1 h2
        rw [h1] at h2
        cases h2
    exact ⟨hr, done listed c γ a w hs hv hr⟩
  | succ fuel ih =>
    intro listed c γ a w hs hu hv
    refine ⟨done listed c γ a w hs hv, fun i hi => ?_⟩
    obtain ⟨h1, o, ho, hed⟩ := mem_ready.1 hi
    have hlt : i < all.size := (Array.getElem?_eq_some_iff.1 ho).1
    have hlt' : i < listed.size := by omega
    have h1' : listed.getD i false = false := by
      simp [Array.getD, hlt'] at h1 ⊢
      exact h1
    have hanc : ∀ j, ancBit A i j = true → listed.getD j false = true := by
      intro j hb
      obtain ⟨o', ho', e, he, hbd, hor⟩ := hp.static.anc j i hb
      rw [ho] at ho'
      cases ho'
      have hL := hed e he hbd
      rcases hor with rfl | hor
      · exact hL
      · exact hv.closed e.on hL j hor
    refine hv.step hE hc hp ho (by simp [h1']) hanc ?_
    intro c' γ' a' w' hv'
    refine ih (listed.setIfInBounds i true) c' γ' a' w' (by simp [hs]) ?_ ?_
    · have := unlisted_set hlt hs h1'
      omega
    · have hfun : (fun j => listed.getD j false = true ∨ j = i) = (fun j => (listed.setIfInBounds i true).getD j false = true) := by
        funext j
        apply propext
        by_cases e : j = i
        · subst e
          simp [Array.getD, hlt']
        · rw [getD_set_ne (listed := listed) false (fun h => e h.symm : i ≠ j)]
          simp [e]
      rw [← hfun]
      exact hv'
omit hE in
theorem dStep_ms {all : Array Oper} {A : Tr Nat} {N i0 i : Nat} {o : Oper} {s s' : DSt} (h : dStep E call all A N i0 o i s = some s') : ∀ p ∈ s.ms, p ∈ s'.ms := by
  intro p hp
  unfold dStep at h
  replace h := (bif_some h).2
  cases hw : wantedA all N s.T o with
  | true =>
    simp only [hw, cond_true] at h
    split at h
    · split at h
      · cases h
      · split at h
        · cases h
        · split at h
          · cases h
          · split at h
            · cases h
            · cases h; simp [hp]
    · split at h
      · cases h
      · split at h
        · cases h
        · cases h; exact hp
    · replace h := (bif_some h).2
      split at h
      · cases h
      · split at h
        · cases h
        · rename_i v H' hv
          have := evAct_ms hc hv p hp
          split at h
          · cases h
          · split at h
            · cases h
            · cases h; simp [this]
  | false =>
    simp only [hw, cond_false] at h
    split at h
    · cases h
    · cases h; exact hp
omit hE in
theorem evDrawGo_ms {all : Array Oper} {A : Tr Nat} {N i0 : Nat} : ∀ (l : List Oper) (i : Nat) (s s' : DSt), evDrawGo E call all A N i0 l i s = some s' → ∀ p ∈ s.ms, p ∈ s'.ms := by
  intro l
  induction l with
  | nil => intro i s s' h p hp; simp only [evDrawGo, Option.some.injEq] at h; subst h; exact hp
  | cons o l ih =>
    intro i s s' h p hp
    simp only [evDrawGo] at h
    split at h
    · cases h
    · rename_i s1 h1
      exact ih _ _ _ h p (dStep_ms hc h1 p hp)
omit hE in
theorem evDraw_ms {all : Array Oper} {N : Nat} {T T' : Tr AV} {H H' : Hs} (hq : evDraw E call all N T H = some (T', H')) : ∀ p ∈ H.ms, p ∈ H'.ms := by
  intro p hp
  unfold evDraw at hq
  replace hq := (bif_some hq).2
  split at hq
  · cases hq
  · rename_i s hgo
    split at hq
    · cases hq
    · cases hq
      exact evDrawGo_ms hc _ _ _ _ hgo p hp
theorem evDraw_sch {all : Array Oper} {N : Nat} {T T' : Tr AV} {H H' : Hs} (hq : evDraw E call all N T H = some (T', H')) (hm : ∀ p ∈ H'.ms, p) {γ : Gm} {a : Act} {w : World} (hf : FRel γ E.ng T N a) (hr : HRel γ H.m.get H.nx w) {Q : Exit → Act → World → Prop}
    (hQ : ∀ a' w' γ', FRel γ' E.ng T' N a' → RunR γ H w γ' H' w' → Q .normal a' w') : ∀ q, wpOps P all Q (Region.schedule (P.follows .mixedOrders) all q) a { w with drawn := w.drawn + 1 } := by
  unfold evDraw at hq
  obtain ⟨hord, hq⟩ := bif_some hq
  have hS := static_of hord
  split at hq
  · cases hq
  · rename_i s hgo
    split at hq
    · cases hq
    · rename_i mF hmF
      cases hq
      obtain ⟨st, h0, hn, hstep⟩ := states_of _ _ _ _ hgo
      rw [Array.length_toList] at hn
      have hgrow : ∀ d i : Nat, i + d = all.size → ∀ p ∈ (st i).ms, p ∈ (st all.size).ms := by
        intro d
        induction d with
        | zero => intro i hi p hp; rw [← hi]; exact hp
        | succ d ih =>
          intro i hi p hp
          have hlt : i < all.size := by omega
          have hs := hstep i all[i] (by simp [hlt])
          exact ih (i + 1) (by omega) p (dStep_ms hc hs p hp)
      have hmst : ∀ i : Nat, i < all.size → ∀ p ∈ (st (i + 1)).ms, p := by
        intro i hi p hp
        exact hm p (by have := hgrow (all.size - (i + 1)) (i + 1) (by omega) p hp; rw [hn] at this; exact this)
      have hex : ∀ i : Nat, ∃ p : AV × Blk, ∀ o, all[i]? = some o → StepR E call all (ancs all.toList) N H.nx st i o p.1 p.2 := by
        intro i
        cases ho : all[i]? with
        | none => exact ⟨(.nilp, ⟨.plain [], 0, 0, false, false⟩), fun o h => by cases h⟩
        | some o =>
          have := hstep i o (by simpa using ho)
          rw [Nat.zero_add] at this
          obtain ⟨v, kb, hs⟩ := stepR_of E call all (ancs all.toList) N H.nx st i o this (hmst i (Array.getElem?_eq_some_iff.1 ho).1)
          exact ⟨(v, kb), fun o' h => by cases h; exact hs⟩
      obtain ⟨vk, hvk⟩ := Classical.axiomOfChoice hex
      have hp : Pass E call all (ancs all.toList) N H.nx st (fun i => (vk i).1) (fun i => (vk i).2) :=
        ⟨hS, by rw [h0], by rw [h0], by rw [h0], fun i o ho => hvk i o ho⟩
      intro q
      simp only [Region.schedule, hE.mixed, Bool.true_or, if_true]
      refine wpAny_sound all.size q _ a _ ?_
      have hr1 : HRel γ H.m.get H.nx { w with drawn := w.drawn + 1 } := hr.heap rfl
      have hnone : ∀ b, H.nx ≤ b → H.m.get b = none := by
        intro b hb
        cases hg : H.m.get b with
        | none => rfl
        | some k =>
          obtain ⟨B, x, cs, ex, g1, _⟩ := hr.blk b k hg
          rw [hr.fresh b hb] at g1
          cases g1
      have hL0 : ∀ i, ¬ ((Array.replicate all.size false).getD i false = true) := by
        intro i
        by_cases hi : i < all.size
        · simp [Array.getD, hi]
        · simp [Array.getD, hi]
      have hinv : Inv E all (ancs all.toList) N H.nx st (fun i => (vk i).1) (fun i => (vk i).2) γ H.m.get { w with drawn := w.drawn + 1 } (fun i => (Array.replicate all.size false).getD i false = true) 0 γ a { w with drawn := w.drawn + 1 } := by
        have hH0 : (st 0).H = ⟨H.m, H.nx + all.size⟩ := by rw [h0]
        have hT0 : (st 0).T = T := by rw [h0]
        refine ⟨fun j hj => (hL0 j hj).elim, fun j hj => (hL0 j hj).elim, Nat.zero_le _, fun e _ => ⟨fun h => (hL0 e h).elim, fun h => by omega⟩, hf.defers, hf.size, hf.glob, fun t wi o h1 h2 h3 => (hL0 wi h3).elim, fun t _ v hv => by rw [hT0] at hv; exact hf.tmp t v hv, ?_, fun _ _ => rfl, fun j hj _ => hr.fresh _ (by omega), fun j hj _ => by rw [hH0]; exact hnone _ (by omega), by rw [hH0]; exact Nat.le_refl _⟩
        have hU : Uf all (ancs all.toList) N H.nx st (fun i => (vk i).2) (fun i => (Array.replicate all.size false).getD i false = true) 0 = H.m.get := by
          funext b
          unfold Uf
          rw [if_neg (by rintro ⟨_, _, h, _⟩; exact hL0 _ h), hH0]
        rw [hU, hH0]
        exact Stp.refl (hr1.nx_mono (Nat.le_add_right _ _))
      refine Inv.any hE hc hp ?_ all.size _ 0 γ a _ (by simp) ?_ hinv
      · -- all have come up
        intro L c γ' a' w' hv hall
        have hcn : ∀ e, c ≤ e → e < all.size → ¬ IsAct all N st e := by
          intro e h1 h2 h3
          have := (hv.stage e h3).1 (hall e h2)
          omega
        have hHn : (st all.size).H = (st c).H := hp.stillTo (Nat.le_refl _) hv.cle hcn
        have hUm : ∀ j, Um all (ancs all.toList) N st all.size j ↔ Um all (ancs all.toList) N st c j := by
          intro j
          constructor
          · intro h e he hae; exact h e (by have := hv.cle; omega) hae
          · intro h e he hae
            rcases Nat.lt_or_ge e c with h' | h'
            · exact h e h' hae
            · exact (hcn e h' he hae).elim
        have hsz : ∀ j, IsMk all N st j → j < all.size := by
          rintro j ⟨o, ho, _⟩
          exact (Array.getElem?_eq_some_iff.1 ho).1
        obtain ⟨m1, m2⟩ := mergeAll_ok _ _ _ hmF (by rw [← hn]; exact hp.pendUniq all.size (Nat.le_refl _))
        have hpend := hp.pendOk all.size (Nat.le_refl _)
        rw [hn] at hpend
        have hU : Uf all (ancs all.toList) N H.nx st (fun i => (vk i).2) L c = mF.get := by
          funext b
          unfold Uf
          by_cases hcond : H.nx ≤ b ∧ IsMk all N st (b - H.nx) ∧ L (b - H.nx) ∧ Um all (ancs all.toList) N st c (b - H.nx)
          · rw [if_pos hcond]
            obtain ⟨q1, q2, q3, q4⟩ := hcond
            have := m1 (b - H.nx) b _ ((hpend _ _ _).2 ⟨q2, hsz _ q2, (hUm _).2 q4, by omega, rfl⟩)
            exact this.symm
          · rw [if_neg hcond, m2 b, ← hHn, hn]
            intro j k hmem
            obtain ⟨q1, q2, q3, q4, q5⟩ := (hpend _ _ _).1 hmem
            apply hcond
            have : b - H.nx = j := by omega
            rw [this]
            exact ⟨by omega, q1, hall j q2, (hUm j).1 q3⟩
        have hstp := hv.stp
        rw [hU] at hstp
        have hnx : (st c).H.nx = s.H.nx := by rw [← hHn, hn]
        rw [hnx] at hstp
        refine hQ a' w' γ' ⟨hv.defers, hv.size, fun t v hTv => ?_, hv.glob⟩ ⟨⟨hstp.le, hstp.rel, hstp.size, hstp.os, hstp.tape, hstp.output, hstp.frame, hstp.own, hstp.ro, hstp.dom, hstp.fzn⟩, ?_, hv.keep⟩
        · obtain ⟨t1, t2⟩ := hp.tlook all.size (Nat.le_refl _) t
          rw [hn] at t1 t2
          by_cases hex2 : ∃ (wi : Nat) (o' : Oper), all[wi]? = some o' ∧ o'.dst = some t
          · obtain ⟨wi, o', hw, hd⟩ := hex2
            have hlt : wi < all.size := (Array.getElem?_eq_some_iff.1 hw).1
            rw [t1 wi o' hw hd hlt] at hTv
            cases hTv
            exact hv.wr t wi o' hw hd (hall wi hlt)
          · rw [t2 (fun w2 o2 hw2 hd2 => (hex2 ⟨w2, o2, hw2, hd2⟩).elim)] at hTv
            exact hv.un t (fun w2 o2 hw2 hd2 => (hex2 ⟨w2, o2, hw2, hd2⟩).elim) v hTv
        · have := hv.nx
          rw [hnx] at this
          show H.nx ≤ s.H.nx
          omega
      · unfold unlisted
        have := List.length_filter_le (fun i => !(Array.replicate all.size false).getD i false) (List.range all.size)
        simpa using this
theorem evDraw_ok {id : Nat} {all : Array Oper} {N : Nat} {T T' : Tr AV} {H H' : Hs} (hq : evDraw E call all N T H = some (T', H')) (hm : ∀ p ∈ H'.ms, p) {γ : Gm} {a : Act} {w : World} (hf : FRel γ E.ng T N a) (hr : HRel γ H.m.get H.nx w) {Q : Exit → Act → World → Prop}
    (hQ : ∀ a' w' γ', FRel γ' E.ng T' N a' → RunR γ H w γ' H' w' → Q .normal a' w') : (Code.region id all true).wp P Q a w :=
  wp_region_draw (evDraw_sch hE hc hq hm hf hr hQ)
def AEx.den : AEx → Exit
  | .normal => .normal
  | .exit id => .exit id
  | .ret => .ret
end
def weaker (γ : Gm) (f f1 : Hf) : Prop := ∀ b k, f1 b = some k → ∃ k', f b = some k' ∧ k.elem = k'.elem ∧ k.sz = k'.sz ∧ k.opn = k'.opn ∧ k.own = k'.own ∧ (∀ cs, VsRel γ k'.cells cs → VsRel γ k.cells cs) ∧ (k.own = false → k' = k)
theorem HRel.weak {γ : Gm} {f f1 : Hf} {nx : Nat} {w : World} (h : HRel γ f nx w) (hw : weaker γ f f1) : HRel γ f1 nx w := by
  refine ⟨?_, ?_, h.fresh, h.fzr, ?_⟩
  · intro b k hb
    obtain ⟨k', h1, h2, h3, h4, h5, h6, _⟩ := hw b k hb
    obtain ⟨B, x, cs, ex, g1, g2, g3, g4, g5⟩ := h.blk b k' h1
    exact ⟨B, x, cs, ex, g1, by rw [h2]; exact g2, h6 _ g3, by rw [h3]; exact g4, by rw [h4]; exact g5⟩
  · intro b b' k k' B x x' q1 q2 q3 q4
    obtain ⟨_, r1, _⟩ := hw b k q1
    obtain ⟨_, r2, _⟩ := hw b' k' q2
    exact h.inj _ _ _ _ _ _ _ r1 r2 q3 q4
  · intro b k B x hb ho hg
    obtain ⟨k', h1, _, _, _, h5, _⟩ := hw b k hb
    exact h.fzo b k' B x h1 (by rw [← h5]; exact ho) hg
theorem OwnImg.weak {γ : Gm} {f f1 : Hf} (hw : weaker γ f f1) {B : Nat} (h : OwnImg γ f1 B) : OwnImg γ f B := by
  obtain ⟨b, k, x, h1, h2, h3⟩ := h
  obtain ⟨k', r1, _, _, _, r5, _⟩ := hw b k h1
  exact ⟨b, k', x, r1, by rw [← r5]; exact h2, h3⟩
theorem Stp.weak {γ γ' : Gm} {f f1 f' : Hf} {nx : Nat} {w w' : World} (h : Stp γ f1 w γ' f' nx w') (hw : weaker γ f f1) : Stp γ f w γ' f' nx w' :=
  ⟨h.le, h.rel, h.size, h.os, h.tape, h.output, fun k hk hn => h.frame k hk (fun ho => hn (ho.weak hw)), fun k hk ho => (h.own k hk ho).weak hw,
   fun b k hb ho => by
     have h1 := h.ro b k hb ho
     obtain ⟨k', r1, _, _, _, _, _, r7⟩ := hw b k h1
     rw [r7 ho] at r1
     exact r1,
   fun b k hb => (h.dom b k hb).imp (fun ⟨k', hk'⟩ => by obtain ⟨k'', r1, _⟩ := hw b k' hk'; exact ⟨k'', r1⟩) id,
   fun B x hB => (h.fzn B x hB).imp id (Or.imp id (OwnImg.weak hw))⟩
theorem trOf_get {α : Type} : ∀ (l : List (Nat × α)) (i : Nat) (v : α), okNames l = true → (trOf l).get i = some v → (i, v) ∈ l
  | [], i, v, _, h => by simp [trOf, Tr.get] at h
  | (j, u) :: l, i, v, hn, h => by
    simp only [okNames, List.all_cons, Bool.and_eq_true] at hn
    have hj := Nat.le_of_ble_eq_true hn.1
    simp only [trOf] at h
    rw [Tr.get_setF 40 _ j i _ (by simp only [Tr.top] at hj; omega)] at h
    by_cases e : i = j
    · rw [if_pos e] at h
      cases h
      simp [e]
    · rw [if_neg e] at h
      exact List.mem_cons_of_mem _ (trOf_get l i v hn.2 h)
theorem subT_ok {T : Tr AV} : ∀ (l : List (Nat × AV)) (ms : List Prop), subT T l = some ms → (∀ p ∈ ms, p) → ∀ t v, (t, v) ∈ l → ∃ u, T.get t = some u ∧ Imp u v
  | [], ms, h, hm, t, v, ht => by simp at ht
  | (t0, v0) :: l, ms, h, hm, t, v, ht => by
    simp only [subT] at h
    split at h
    · cases h
    · rename_i u hu
      split at h
      · cases h
      · rename_i m1 h1
        split at h
        · cases h
        · rename_i m2 h2
          cases h
          obtain ⟨hm1, hm2⟩ := split2 hm
          rcases List.mem_cons.1 ht with e | ht
          · cases e; exact ⟨u, hu, sameS_ok h1 hm1⟩
          · exact subT_ok l m2 h2 hm2 t v ht
theorem sameView_ok {V V' : View} {ms : List Prop} (h : sameView V V' = some ms) (hm : ∀ p ∈ ms, p) : ∀ γ cs, VsRel γ V.cells cs → VsRel γ V'.cells cs := by
  unfold sameView at h
  split at h
  · exact sameSs_ok h hm
  · cases h; have := all_one hm; subst this; exact fun _ _ h => h
  · obtain ⟨hk, h'⟩ := bif_some h
    have hk := of_decide_eq_true hk
    clear h; subst hk; cases h'
    have := all_one hm; subst this; exact fun _ _ h => h
  · obtain ⟨hk, h'⟩ := bif_some h
    obtain ⟨hk1, hk2⟩ := and_split hk
    have hk1 := of_decide_eq_true hk1
    have hk2 := beq_eq hk2
    clear h; subst hk1 hk2; cases h'
    obtain ⟨e1, e2⟩ := all_one hm; subst e1 e2; exact fun _ _ h => h
  · cases h
theorem sameB_ok {k k' : Blk} {ms : List Prop} (h : sameB k k' = some ms) (hm : ∀ p ∈ ms, p) : k'.elem = k.elem ∧ k'.sz = k.sz ∧ k'.opn = k.opn ∧ k'.own = k.own ∧ (∀ γ cs, VsRel γ k.cells cs → VsRel γ k'.cells cs) ∧ (k'.own = false → k = k') := by
  unfold sameB at h
  have hb := (bif_some h).1
  replace h := (bif_some h).2
  simp only [Bool.and_eq_true, beq_iff_eq] at hb
  obtain ⟨⟨⟨a1, a2⟩, h3⟩, h4⟩ := hb
  replace a1 := beq_eq a1
  replace a2 := beq_eq a2
  cases ho : k'.own with
  | true =>
    rw [ho] at h
    exact ⟨a1.symm, a2.symm, h3.symm, by rw [h4, ho], sameView_ok h hm, fun h => by cases h⟩
  | false =>
    rw [ho] at h
    simp only [cond_false] at h
    split at h
    · rename_i cs cs' e1 e2
      have e := beqVs_eq (bif_some h).1
      have hk : k = k' := by
        obtain ⟨v1, b1, c1, d1, o1⟩ := k
        obtain ⟨v2, b2, c2, d2, o2⟩ := k'
        simp only at e1 e2 a1 a2 h3 h4
        rw [e1, e2, a1, a2, h3, h4, e]
      subst hk
      exact ⟨rfl, rfl, rfl, ho.symm, fun _ _ h => h, fun _ => rfl⟩
    · cases h
theorem subM_ok {m : Tr Blk} : ∀ (l : List (Nat × Blk)) (ms : List Prop), subM m l = some ms → (∀ p ∈ ms, p) → ∀ b k, (b, k) ∈ l → ∃ k', m.get b = some k' ∧ k.elem = k'.elem ∧ k.sz = k'.sz ∧ k.opn = k'.opn ∧ k.own = k'.own ∧ (∀ γ cs, VsRel γ k'.cells cs → VsRel γ k.cells cs) ∧ (k.own = false → k' = k)
  | [], ms, h, hm, b, k, hb => by simp at hb
  | (b0, k0) :: l, ms, h, hm, b, k, hb => by
    simp only [subM] at h
    split at h
    · cases h
    · rename_i k' hk'
      split at h
      · cases h
      · rename_i m1 h1
        split at h
        · cases h
        · rename_i m2 h2
          cases h
          obtain ⟨hm1, hm2⟩ := split2 hm
          rcases List.mem_cons.1 hb with e | hb
          · cases e
            obtain ⟨r1, r2, r3, r4, r5, r6⟩ := sameB_ok h1 hm1
            exact ⟨k', hk', r1, r2, r3, r4, r5, r6⟩
          · exact subM_ok l m2 h2 hm2 b k hb
def AnnOk (P : Program) (ng N : Nat) (b : Code) (A : Ann) : Prop :=
  ∀ d, (match A.test with | none => d = true | some c => c = d) → ∀ γ a w, FRel γ ng (trOf A.pre.T) N a → HRel γ (trOf A.pre.m).get A.pre.nx w →
    (Code.loop b).wp P (fun x a' w' => x = (A.post d).1.den ∧ ∃ γ', FRel γ' ng (trOf (A.post d).2.T) N a' ∧ RunR γ ⟨trOf A.pre.m, A.pre.nx, [], []⟩ w γ' ⟨trOf (A.post d).2.m, (A.post d).2.nx, [], []⟩ w') a w
def LoOk (P : Program) (ng N : Nat) (lo : List Nat → Option Ann) (c0 : Code) : Prop := ∀ p A b, lo p = some A → subC p.reverse c0 = some (.loop b) → AnnOk P ng N b A
theorem noLo_ok (P : Program) (ng N : Nat) (c0 : Code) : LoOk P ng N noLo c0 := by intro p A b h; cases h
theorem Ann.run_ms {A : Ann} {T T' : Tr AV} {H H' : Hs} {e : AEx} (h : A.run T H = some (e, T', H')) : ∀ p ∈ H.ms, p ∈ H'.ms := by
  intro p hp
  unfold Ann.run at h
  replace h := (bif_some h).2
  split at h
  · cases h
  · split at h
    · cases h
    · rename_i m1 _ m2 _
      cases ht : A.test with
      | none =>
        rw [ht] at h
        simp only at h
        replace h := (bif_some h).2
        cases h; simp [hp]
      | some b =>
        rw [ht] at h
        have ak := ask_ms H b
        simp only at h
        replace h := (bif_some h).2
        cases h
        have : p ∈ (H.ask b).2.ms := by rw [ak]; simp [hp]
        simp [this]
theorem Ann.run_ok {P : Program} {ng N : Nat} {b : Code} {A : Ann} (hA : AnnOk P ng N b A) {T T' : Tr AV} {H H' : Hs} {e : AEx} (h : A.run T H = some (e, T', H')) (hm : ∀ p ∈ H'.ms, p) {γ : Gm} {a : Act} {w : World} (hf : FRel γ ng T N a) (hr : HRel γ H.m.get H.nx w) :
    (Code.loop b).wp P (fun x a' w' => x = e.den ∧ ∃ γ', FRel γ' ng T' N a' ∧ RunR γ H w γ' H' w') a w := by
  unfold Ann.run at h
  have hnx := Nat.le_of_ble_eq_true (bif_some h).1
  replace h := (bif_some h).2
  split at h
  · cases h
  · rename_i m1 h1
    split at h
    · cases h
    · rename_i m2 h2
      have key : ∀ (d : Bool) (H1 : Hs), H1.m = H.m → H1.nx = H.nx → ((∀ p ∈ H1.ms, p) → match A.test with | none => d = true | some c => c = d) →
          (bif okNames (A.post d).2.T && okNames (A.post d).2.m && okNames A.pre.T && okNames A.pre.m then some ((A.post d).1, trOf (A.post d).2.T, (⟨trOf (A.post d).2.m, (A.post d).2.nx, H1.tp, m1 ++ m2 ++ H1.ms⟩ : Hs)) else none) = some (e, T', H') →
          (Code.loop b).wp P (fun x a' w' => x = e.den ∧ ∃ γ', FRel γ' ng T' N a' ∧ RunR γ H w γ' H' w') a w := by
        intro d H1 e1 e2 hd hh
        obtain ⟨hok, hh⟩ := bif_some hh
        cases hh
        obtain ⟨hm12, hmH⟩ := split2 hm
        obtain ⟨hm1, hm2⟩ := split2 hm12
        obtain ⟨hok, o4⟩ := and_split hok
        obtain ⟨hok, o3⟩ := and_split hok
        have hw : weaker γ H.m.get (trOf A.pre.m).get := by
          intro c k hk
          obtain ⟨k', r1, r2, r3, r4, r5, r6, r7⟩ := subM_ok _ _ h2 hm2 c k (trOf_get _ _ _ o4 hk)
          exact ⟨k', r1, r2, r3, r4, r5, r6 γ, r7⟩
        have hf' : FRel γ ng (trOf A.pre.T) N a := ⟨hf.defers, hf.size, fun t v hv => by
          obtain ⟨u, q1, q2⟩ := subT_ok _ _ h1 hm1 t v (trOf_get _ _ _ o3 hv)
          exact q2 γ _ (hf.tmp t u q1), hf.glob⟩
        refine wp_mono (hA d (hd hmH) γ a w hf' ((hr.weak hw).nx_mono hnx)) ?_
        rintro x a' w' ⟨rfl, γ', g1, g2⟩
        refine ⟨rfl, γ', g1, g2.stp.weak hw, Nat.le_trans hnx g2.nx, fun c hc => g2.keep c (Nat.lt_of_lt_of_le hc hnx)⟩
      cases ht : A.test with
      | none =>
        rw [ht] at h key
        exact key true H rfl rfl (fun _ => rfl) h
      | some c =>
        rw [ht] at h key
        exact key (H.ask c).1 (H.ask c).2 (ask_m _ _) (ask_nx _ _) (fun hms => hms (Dec c (H.ask c).1) (by rw [ask_ms]; simp)) h
theorem subC_append : ∀ (p q : List Nat) (c : Code), subC (p ++ q) c = (subC p c).bind (subC q)
  | [], q, c => by cases c <;> rfl
  | i :: p, q, c => by
    have ih := subC_append p q
    match i with
    | 0 => cases c <;> first | (simp only [List.cons_append, subC]; exact ih _) | rfl
    | 1 => cases c <;> first | (simp only [List.cons_append, subC]; exact ih _) | rfl
    | n + 2 => cases c <;> rfl
section
variable {P : Program} {E : Env} (hE : EnvOk P E) {call : CallF} (hc : CallOk P E.ng call) {lo : List Nat → Option Ann} {c0 : Code} {N : Nat} (hlo : LoOk P E.ng N lo c0)
include hc in
theorem evCode_ms {N : Nat} : ∀ (n : Nat) (p : List Nat) (c : Code) (T T' : Tr AV) (H H' : Hs) (e : AEx), evCode E call lo N n p c T H = some (e, T', H') → ∀ q ∈ H.ms, q ∈ H'.ms := by
  intro n
  induction n with
  | zero => intro p c T T' H H' e h; simp [evCode] at h
  | succ n ih =>
    intro p c T T' H H' e h q hq
    cases c with
    | skip => simp only [evCode, Option.some.injEq, Prod.mk.injEq] at h; obtain ⟨_, _, rfl⟩ := h; exact hq
    | label l => simp only [evCode, Option.some.injEq, Prod.mk.injEq] at h; obtain ⟨_, _, rfl⟩ := h; exact hq
    | exit id => simp only [evCode, Option.some.injEq, Prod.mk.injEq] at h; obtain ⟨_, _, rfl⟩ := h; exact hq
    | ret => simp only [evCode, Option.some.injEq, Prod.mk.injEq] at h; obtain ⟨_, _, rfl⟩ := h; exact hq
    | region id ops draw =>
      cases draw with
      | false =>
        simp only [evCode] at h
        split at h
        · cases h
        · rename_i T1 H1 h1
          cases h
          exact evOps_ms hc _ _ _ _ _ h1 q hq
      | true =>
        simp only [evCode] at h
        split at h
        · cases h
        · rename_i T1 H1 h1
          cases h
          exact evDraw_ms hc h1 q hq
    | seq x y =>
      simp only [evCode] at h
      split at h
      · rename_i T1 H1 h1
        exact ih _ _ _ _ _ _ _ h q (ih _ _ _ _ _ _ _ h1 q hq)
      · exact ih _ _ _ _ _ _ _ h q hq
    | cond x y z =>
      simp only [evCode] at h
      split at h
      · exact ih _ _ _ _ _ _ _ h q hq
      · exact ih _ _ _ _ _ _ _ h q hq
      · rename_i u hu
        have ak := ask_ms H u
        generalize H.ask u = r at h ak
        obtain ⟨d, H1⟩ := r
        have h1 : q ∈ H1.ms := by rw [show H1.ms = _ from ak]; simp [hq]
        cases d with
        | true => exact ih _ _ _ _ _ _ _ h q h1
        | false => exact ih _ _ _ _ _ _ _ h q h1
      · cases h
    | block id b =>
      simp only [evCode] at h
      split at h
      · rename_i j T1 H1 h1
        cases hj : Nat.beq j id with
        | true => simp only [hj, cond_true, Option.some.injEq, Prod.mk.injEq] at h; obtain ⟨_, _, rfl⟩ := h; exact ih _ _ _ _ _ _ _ h1 q hq
        | false => simp only [hj, cond_false, Option.some.injEq, Prod.mk.injEq] at h; obtain ⟨_, _, rfl⟩ := h; exact ih _ _ _ _ _ _ _ h1 q hq
      · exact ih _ _ _ _ _ _ _ h q hq
    | loop b =>
      simp only [evCode] at h
      split at h
      · exact Ann.run_ms h q hq
      · split at h
        · rename_i T1 H1 h1
          exact ih _ _ _ _ _ _ _ h q (ih _ _ _ _ _ _ _ h1 q hq)
        · exact ih _ _ _ _ _ _ _ h q hq
    | scope b => simp only [evCode] at h; exact ih _ _ _ _ _ _ _ h q hq
    | rangeFunc f ps x y => simp [evCode] at h
    | goto l => simp [evCode] at h
    | refuse s => simp [evCode] at h
include hE hc hlo
theorem evCode_both : ∀ (n : Nat),
    (∀ (p : List Nat) (c : Code) (T T' : Tr AV) (H H' : Hs) (e : AEx), subC p.reverse c0 = some c → evCode E call lo N n p c T H = some (e, T', H') → (∀ q ∈ H'.ms, q) → ∀ (γ : Gm) (a : Act) (w : World), FRel γ E.ng T N a → HRel γ H.m.get H.nx w →
      c.wp P (fun x a' w' => x = AEx.den e ∧ ∃ γ', FRel γ' E.ng T' N a' ∧ RunR γ H w γ' H' w') a w) ∧
    (∀ (p : List Nat) (b : Code) (T T' : Tr AV) (H H' : Hs) (e : AEx), subC p.reverse c0 = some (.loop b) → lo p = none → evCode E call lo N n p (.loop b) T H = some (e, T', H') → (∀ q ∈ H'.ms, q) → ∀ (γ : Gm) (a : Act) (w : World), FRel γ E.ng T N a → HRel γ H.m.get H.nx w →
      ∀ (bf : Frame) (k : List Item) (cs : List Frame), ∃ x a' w', (x = AEx.den e ∧ ∃ γ', FRel γ' E.ng T' N a' ∧ RunR γ H w γ' H' w') ∧ Arrives P (lone (bf.at a (.code b :: .inLoop b :: k)) cs w) bf k cs x a' w') := by
  intro n
  induction n with
  | zero => exact ⟨fun p c T T' H H' e _ h => by simp [evCode] at h, fun p c T T' H H' e _ _ h => by simp [evCode] at h⟩
  | succ n ihb =>
    obtain ⟨ih, ihl⟩ := ihb
    have snoc : ∀ (p : List Nat) (i : Nat) (c c' : Code), subC p.reverse c0 = some c → subC [i] c = some c' → subC (i :: p).reverse c0 = some c' := by
      intro p i c c' h1 h2
      rw [List.reverse_cons, subC_append, h1]
      exact h2
    have hloop : ∀ (p : List Nat) (b : Code) (T T' : Tr AV) (H H' : Hs) (e : AEx), subC p.reverse c0 = some (.loop b) → lo p = none → evCode E call lo N (n + 1) p (.loop b) T H = some (e, T', H') → (∀ q ∈ H'.ms, q) → ∀ (γ : Gm) (a : Act) (w : World), FRel γ E.ng T N a → HRel γ H.m.get H.nx w →
      ∀ (bf : Frame) (k : List Item) (cs : List Frame), ∃ x a' w', (x = AEx.den e ∧ ∃ γ', FRel γ' E.ng T' N a' ∧ RunR γ H w γ' H' w') ∧ Arrives P (lone (bf.at a (.code b :: .inLoop b :: k)) cs w) bf k cs x a' w' := by
      intro p b T T' H H' e hp hlp h hm γ a w hf hr bf k cs
      have hpb : subC (0 :: p).reverse c0 = some b := snoc p 0 _ _ hp (by cases b <;> rfl)
      simp only [evCode, hlp] at h
      split at h
      · rename_i T1 H1 h1
        obtain ⟨x1, a1, w1, ⟨rfl, γ1, hf1, hrun1⟩, harr⟩ := ih (0 :: p) b T T1 H H1 .normal hpb h1 (fun q hq => hm q (evCode_ms hc _ _ _ _ _ _ _ _ h q hq)) γ a w hf hr bf (.inLoop b :: k) cs
        obtain ⟨x2, a2, w2, ⟨rfl, γ2, hf2, hrun2⟩, harr2⟩ := ihl p b T1 T' H1 H' e hp hlp h hm γ1 a1 w1 hf1 hrun1.stp.rel bf k cs
        exact ⟨_, a2, w2, ⟨rfl, γ2, hf2, hrun1.trans hrun2⟩, .of_steps (Steps.trans harr (.one step_inLoop)) harr2⟩
      · rename_i hne
        obtain ⟨x1, a1, w1, ⟨rfl, hx⟩, harr⟩ := ih (0 :: p) b T T' H H' e hpb h hm γ a w hf hr bf (.inLoop b :: k) cs
        refine ⟨_, a1, w1, ⟨rfl, hx⟩, ?_⟩
        cases e with
        | normal => exact (hne T' H' h).elim
        | exit j => exact .pass (x := .inLoop b) rfl (fun _ _ => .inl (by simp [AEx.den])) harr
        | ret => exact .pass (x := .inLoop b) rfl (fun _ _ => .inl (by simp [AEx.den])) harr
    refine ⟨?_, hloop⟩
    intro p c T T' H H' e hp h hm γ a w hf hr
    cases c with
    | skip =>
      simp only [evCode, Option.some.injEq, Prod.mk.injEq] at h
      obtain ⟨rfl, rfl, rfl⟩ := h
      exact wp_skip ⟨rfl, γ, hf, RunR.refl hr⟩
    | label l =>
      simp only [evCode, Option.some.injEq, Prod.mk.injEq] at h
      obtain ⟨rfl, rfl, rfl⟩ := h
      exact wp_label ⟨rfl, γ, hf, RunR.refl hr⟩
    | exit id =>
      simp only [evCode, Option.some.injEq, Prod.mk.injEq] at h
      obtain ⟨rfl, rfl, rfl⟩ := h
      exact wp_exit ⟨rfl, γ, hf, RunR.refl hr⟩
    | ret =>
      simp only [evCode, Option.some.injEq, Prod.mk.injEq] at h
      obtain ⟨rfl, rfl, rfl⟩ := h
      exact wp_ret ⟨rfl, γ, hf, RunR.refl hr⟩
    | region id ops draw =>
      cases draw with
      | false =>
        simp only [evCode] at h
        split at h
        · cases h
        · rename_i T1 H1 h1
          cases h
          exact wp_region (evOps_ok hE hc ops.toList (List.range ops.size) (range_all ops) T T' H H' h1 hm γ a w hf hr (fun a' w' γ' h1 h2 => ⟨rfl, γ', h1, h2⟩))
      | true =>
        simp only [evCode] at h
        split at h
        · cases h
        · rename_i T1 H1 h1
          cases h
          exact evDraw_ok hE hc h1 hm hf hr (fun a' w' γ' h1 h2 => ⟨rfl, γ', h1, h2⟩)
    | seq x y =>
      simp only [evCode] at h
      split at h
      · rename_i T1 H1 h1
        refine wp_seq (wp_mono (ih (0 :: p) x T T1 H H1 .normal (snoc p 0 _ _ hp (by cases x <;> rfl)) h1 (fun q hq => hm q (evCode_ms hc _ _ _ _ _ _ _ _ h q hq)) γ a w hf hr) ?_)
        rintro x' a' w' ⟨rfl, γ', hf', hrun⟩
        refine wp_mono (ih (1 :: p) y T1 T' H1 H' e (snoc p 1 _ _ hp (by cases y <;> rfl)) h hm γ' a' w' hf' hrun.stp.rel) ?_
        rintro x'' a'' w'' ⟨rfl, γ'', hf'', hrun'⟩
        exact ⟨rfl, γ'', hf'', hrun.trans hrun'⟩
      · rename_i hne
        refine wp_seq (wp_mono (ih (0 :: p) x T T' H H' e (snoc p 0 _ _ hp (by cases x <;> rfl)) h hm γ a w hf hr) ?_)
        rintro x' a' w' ⟨rfl, hx⟩
        cases e with
        | normal => exact (hne T' H' h).elim
        | exit id => exact ⟨rfl, hx⟩
        | ret => exact ⟨rfl, hx⟩
    | cond x y z =>
      simp only [evCode] at h
      split at h
      · rename_i hx
        have hv := evo_ok hf _ _ hx
        generalize hX : a.eval x = X at hv
        cases hv
        exact wp_cond_true hX (ih (0 :: p) y T T' H H' e (snoc p 0 _ _ hp (by cases y <;> rfl)) h hm γ a w hf hr)
      · rename_i hx
        have hv := evo_ok hf _ _ hx
        generalize hX : a.eval x = X at hv
        cases hv
        exact wp_cond_false hX (ih (1 :: p) z T T' H H' e (snoc p 1 _ _ hp (by cases z <;> rfl)) h hm γ a w hf hr)
      · rename_i u hx
        have hv := evo_ok hf _ _ hx
        generalize hX : a.eval x = X at hv
        cases hv
        have ak := ask_ms H u
        have am := ask_m H u
        have an := ask_nx H u
        generalize H.ask u = r at h ak am an
        obtain ⟨d, H1⟩ := r
        have hr1 : HRel γ H1.m.get H1.nx w := by rw [show H1.m = _ from am, show H1.nx = _ from an]; exact hr
        have back : ∀ {γ' : Gm} {w' : World}, RunR γ H1 w γ' H' w' → RunR γ H w γ' H' w' := by
          intro γ' w' hR
          refine ⟨?_, ?_, fun b hb => hR.keep b (by rw [show H1.nx = _ from an]; exact hb)⟩
          · have := hR.stp; rw [show H1.m = _ from am] at this; exact this
          · have := hR.nx; rw [show H1.nx = _ from an] at this; exact this
        have hu : u = d := hm (Dec u d) (by
          cases d with
          | true => exact evCode_ms hc _ _ _ _ _ _ _ _ h _ (by rw [show H1.ms = _ from ak]; simp)
          | false => exact evCode_ms hc _ _ _ _ _ _ _ _ h _ (by rw [show H1.ms = _ from ak]; simp))
        subst hu
        cases u with
        | true =>
          refine wp_cond_true hX (wp_mono (ih (0 :: p) y T T' H1 H' e (snoc p 0 _ _ hp (by cases y <;> rfl)) h hm γ a w hf hr1) ?_)
          rintro x' a' w' ⟨rfl, γ', g1, g2⟩
          exact ⟨rfl, γ', g1, back g2⟩
        | false =>
          refine wp_cond_false hX (wp_mono (ih (1 :: p) z T T' H1 H' e (snoc p 1 _ _ hp (by cases z <;> rfl)) h hm γ a w hf hr1) ?_)
          rintro x' a' w' ⟨rfl, γ', g1, g2⟩
          exact ⟨rfl, γ', g1, back g2⟩
      · cases h
    | block id b =>
      simp only [evCode] at h
      split at h
      · rename_i j T1 H1 h1
        cases hj : Nat.beq j id with
        | true =>
          simp only [hj, cond_true, Option.some.injEq, Prod.mk.injEq] at h
          obtain ⟨rfl, rfl, rfl⟩ := h
          refine wp_block (wp_mono (ih (0 :: p) b T T1 H H1 (.exit j) (snoc p 0 _ _ hp (by cases b <;> rfl)) h1 hm γ a w hf hr) ?_)
          rintro x' a' w' ⟨rfl, hx⟩
          show (if j = id then _ else _)
          rw [if_pos (beq_eq hj)]
          exact ⟨rfl, hx⟩
        | false =>
          simp only [hj, cond_false, Option.some.injEq, Prod.mk.injEq] at h
          obtain ⟨rfl, rfl, rfl⟩ := h
          refine wp_block (wp_mono (ih (0 :: p) b T T1 H H1 (.exit j) (snoc p 0 _ _ hp (by cases b <;> rfl)) h1 hm γ a w hf hr) ?_)
          rintro x' a' w' ⟨rfl, hx⟩
          show (if j = id then _ else _)
          rw [if_neg (beq_ne hj)]
          exact ⟨rfl, hx⟩
      · rename_i hne
        refine wp_block (wp_mono (ih (0 :: p) b T T' H H' e (snoc p 0 _ _ hp (by cases b <;> rfl)) h hm γ a w hf hr) ?_)
        rintro x' a' w' ⟨rfl, hx⟩
        cases e with
        | normal => exact ⟨rfl, hx⟩
        | exit j => exact (hne j T' H' h).elim
        | ret => exact ⟨rfl, hx⟩
    | loop b =>
      cases hlp : lo p with
      | some A =>
        simp only [evCode, hlp] at h
        exact Ann.run_ok (hlo p A b hlp hp) h hm hf hr
      | none =>
        intro bf k cs
        obtain ⟨x, a', w', hx, harr⟩ := hloop p b T T' H H' e hp hlp h hm γ a w hf hr bf k cs
        exact ⟨x, a', w', hx, .of_steps (.one step_loop) harr⟩
    | scope b =>
      simp only [evCode] at h
      refine wp_scope_straight (wp_mono (ih (0 :: p) b T T' H H' e (snoc p 0 _ _ hp (by cases b <;> rfl)) h hm γ a w hf hr) ?_)
      rintro x' a' w' ⟨rfl, hx⟩
      cases e <;> exact ⟨rfl, hx⟩
    | rangeFunc f ps x y => simp [evCode] at h
    | goto l => simp [evCode] at h
    | refuse s => simp [evCode] at h
end
theorem resA_ok {P : Program} {ti : Tr TypeInfo} (ht : TabOk P ti) {γ : Gm} {ng N nx : Nat} {T : Tr AV} {a : Act} {m : Tr Blk} {w : World} (hf : FRel γ ng T N a) (hr : HRel γ m.get nx w) : ∀ (l : List ResultVar) (vs : List AV), resA ti T m l = some vs →
    ∃ Vs, (l.mapM (fun | ResultVar.tmp t => pure (a.tmps.getD t undef) | ResultVar.cell ad t => do loadVar t (← asAddr (a.tmps.getD ad undef)) : ResultVar → Sem Value)).run P w = .ok Vs w ∧ VsRel γ vs Vs := by
  intro l
  induction l with
  | nil =>
    intro vs h
    simp only [resA, Option.some.injEq] at h
    subst h
    exact ⟨[], rfl, .nil⟩
  | cons r l ih =>
    intro vs h
    cases r with
    | tmp t =>
      simp only [resA] at h
      split at h
      · cases h
      · rename_i v hTv
        split at h
        · cases h
        · rename_i us hus
          cases h
          obtain ⟨Vs, h1, h2⟩ := ih us hus
          refine ⟨a.tmps.getD t undef :: Vs, ?_, .cons (hf.tmp t v hTv) h2⟩
          rw [List.mapM_cons]
          simp only [Sem.run_bind, Sem.run_pure, Result.andThen_ok, h1]
    | cell ad t =>
      simp only [resA] at h
      split at h
      · cases h
      · rename_i x hTx
        split at h
        · cases h
        · rename_i v hv
          split at h
          · cases h
          · rename_i us hus
            cases h
            obtain ⟨Vs, h1, h2⟩ := ih us hus
            obtain ⟨V, adr, g1, g2, g3⟩ := qLoad_ok (P := P) ht hr (hf.tmp ad x hTx) hv
            have hadr : (asAddr (a.tmps.getD ad undef)).run P w = .ok adr w := by rw [g1]; rfl
            refine ⟨V :: Vs, ?_, .cons g3 h2⟩
            rw [List.mapM_cons]
            simp only [Sem.run_bind, hadr, Sem.run_pure, Result.andThen_ok, g2, h1]
theorem tupA_ok {γ : Gm} {vs : List AV} {Vs : List Value} (h : VsRel γ vs Vs) : VRel γ (tupA vs) (if hs : Vs.toArray.size = 1 then Vs.toArray[0] else .tuple Vs.toArray) := by
  cases h with
  | nil => exact .tup .nil
  | cons hv ht =>
    cases ht with
    | nil => exact hv
    | cons hv' ht' =>
      rename_i v V v2 V2 vs' Vs'
      have : ¬ ((V :: V2 :: Vs').toArray.size = 1) := by simp
      rw [dif_neg this]
      exact .tup (.cons hv (.cons hv' ht'))
theorem args_get {γ : Gm} {args : List AV} {Args : List Value} (h : VsRel γ args Args) (hl : args.length < 1000000) (n t : Nat) {v : AV} (hv : (Tr.ofList args).get t = some v) : VRel γ v ((Args.toArray ++ Array.replicate n undef).getD t undef) := by
  rw [Tr.get_ofList args hl] at hv
  rcases h.get t with ⟨h1, h2⟩ | ⟨u, U, h1, h2, h3⟩
  · rw [h1] at hv; cases hv
  · rw [h1] at hv
    cases hv
    have hlt : t < Args.length := by
      rcases Nat.lt_or_ge t Args.length with h' | h'
      · exact h'
      · rw [List.getElem?_eq_none h'] at h2; cases h2
    have : (Args.toArray ++ Array.replicate n undef).getD t undef = U := by
      simp only [Array.getD_eq_getD_getElem?]
      rw [Array.getElem?_append_left (by simpa using hlt)]
      simp [h2]
    rw [this]
    exact h3
theorem bodyF_ok {P : Program} {E : Env} (hE : EnvOk P E) {call : CallF} (hcall : CallOk P E.ng call) {lo : List Nat → Option Ann} {f : Nat} {args : List AV} (hlo : ∀ fn c, P.funcs[f]? = some fn → fn.body = some c → LoOk P E.ng (Nat.max args.length fn.ntmps) lo c) {H H' : Hs} {v : AV} (h : bodyF E call lo f args H = some (v, H')) :
    (∀ p ∈ H.ms, p ∈ H'.ms) ∧ ((∀ p ∈ H'.ms, p) → ∀ γ w Args, HRel γ H.m.get H.nx w → VsRel γ args Args → Glob E.ng γ →
    (∃ fn, P.funcs[f]? = some fn ∧ fn.body.isSome = true) ∧
    Calls P f Args.toArray w fun e w' => ∃ V γ', e = .returned V ∧ VRel γ' v V ∧ RunR γ H w γ' H' w') := by
  unfold bodyF at h
  split at h
  · cases h
  · rename_i fn hfn
    rw [hE.fs f] at hfn
    split at h
    · cases h
    · rename_i c hc
      cases hlen : Nat.blt args.length 1000 with
      | false => simp [hlen] at h
      | true =>
        have hlen' : args.length < 1000 := Nat.le_of_ble_eq_true hlen
        simp only [hlen, Bool.not_true, cond_false] at h
        split at h
        · cases h
        · rename_i ex T H1 hne hcode
          split at h
          · cases h
          · rename_i vs hvs
            cases h
            refine ⟨evCode_ms hcall _ _ _ _ _ _ _ _ hcode, fun hm γ w Args hr hA hg => ?_⟩
            refine ⟨⟨fn, hfn, by rw [hc]; rfl⟩, ?_⟩
            have hl := hA.length
            have hN : (Args.toArray ++ Array.replicate (fn.ntmps - Args.toArray.size) undef).size = Nat.max args.length fn.ntmps := by
              simp only [Array.size_append, List.size_toArray, Array.size_replicate, hl]
              show _ = max args.length fn.ntmps
              omega
            refine calls_of_wp hfn hc ?_
            have hf : FRel γ E.ng (Tr.ofList args) (Nat.max args.length fn.ntmps) { tmps := Args.toArray ++ Array.replicate (fn.ntmps - Args.toArray.size) undef, defers := [] } :=
              ⟨rfl, hN, fun t v hv => args_get hA (by omega) _ t hv, hg⟩
            refine wp_mono ((evCode_both hE hcall (hlo fn c hfn hc) _).1 [] c _ T H H' ex (by cases c <;> rfl) hcode hm γ _ w hf hr) ?_
            rintro x a' w' ⟨rfl, γ', hf', hrun⟩
            obtain ⟨Vs, h1, h2⟩ := resA_ok (P := P) hE.ti hf' hrun.stp.rel fn.results.toList vs hvs
            have hres : (results fn a'.tmps).run P w' = .ok (if hs : Vs.toArray.size = 1 then Vs.toArray[0] else .tuple Vs.toArray) w' := by
              unfold results
              rw [Array.mapM_eq_mapM_toList]
              simp only [Sem.run_bind, Sem.run_map, Sem.run_pure]
              exact congrArg (fun r : Result (List Value) => (r.andThen fun a w' => Result.ok a.toArray w').andThen fun a w' => Result.ok (if h : a.size = 1 then a[0] else Value.tuple a) w') h1
            have hpost : ∃ V, (results fn a'.tmps).run P w' = .ok V w' ∧ ∃ V' γ'', Ending.returned V = .returned V' ∧ VRel γ'' (tupA vs) V' ∧ RunR γ H w γ'' H' w' := ⟨_, hres, _, γ', rfl, tupA_ok h2, hrun⟩
            cases ex with
            | normal => exact ⟨hf'.defers, hpost⟩
            | ret => exact ⟨hf'.defers, hpost⟩
            | exit id => exact (hne id rfl).elim
        · cases h
theorem callF_ok {P : Program} {E : Env} (hE : EnvOk P E) {orc : CallF} (ho : CallOk P E.ng orc) : ∀ n, CallOk P E.ng (callF E orc n) := by
  intro n
  induction n with
  | zero => intro f args H v H' h; simp [callF] at h
  | succ n ih =>
    intro f args H v H' h
    simp only [callF] at h
    split at h
    · rename_i r hr'
      cases h
      exact ho f args H v H' hr'
    · exact bodyF_ok hE ih (fun _ _ _ _ => noLo_ok _ _ _ _) h
end Go.QfSy

