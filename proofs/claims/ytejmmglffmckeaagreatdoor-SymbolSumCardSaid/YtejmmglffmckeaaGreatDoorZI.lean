/- append and copy: that they do what was said. -/
import Derived.Test.YtejmmglffmckeaaGreatDoorZH
set_option linter.unusedSimpArgs false
set_option linter.unusedVariables false
namespace Go.QfSy

theorem Stp.weaken {γ γ' : Gm} {f f1 f' : Hf} {nx' : Nat} {w w' : World} (h : Stp γ f1 w γ' f' nx' w') (hsub : ∀ b k, f1 b = some k → f b = some k) (hs : ∀ k, OwnImg γ f1 k → OwnImg γ f k) : Stp γ f w γ' f' nx' w' :=
  ⟨h.le, h.rel, h.size, h.os, h.tape, h.output, fun k hk hn => h.frame k hk (fun ho => hn (hs k ho)), fun k hk ho => hs k (h.own k hk ho), fun b k hb ho => hsub b k (h.ro b k hb ho), fun b k hb => (h.dom b k hb).imp (fun ⟨k', hk'⟩ => ⟨k', hsub b k' hk'⟩) id, fun B x hB => (h.fzn B x hB).imp id (Or.imp id (hs B))⟩

theorem OwnImg.sub {γ : Gm} {f f1 : Hf} (hs : ∀ b k, f1 b = some k → f b = some k) {k : Nat} (h : OwnImg γ f1 k) : OwnImg γ f k := by
  obtain ⟨b, kk, x, h1, h2, h3⟩ := h
  exact ⟨b, kk, x, hs _ _ h1, h2, h3⟩

section
variable {P : Program} {ti : Tr TypeInfo}

theorem grown_ok {γ : Gm} {f f1 : Hf} {nx : Nat} {w : World} (hr : HRel γ f nx w) (hsub : ∀ b k, f1 b = some k → f b = some k) {i nx' : Nat} (hi : γ i = none) (hi' : i < nx') (hn : nx ≤ nx')
    {t0 e z n m sCap : Nat} {inf : TypeInfo} {Z : Value} {ts : Array TypeId} {args : Array Value} {base : Option Addr} {X : Value} {zeros : Bool} {olds vs : List AV} {Olds news : List Value}
    (ht0 : ts[0]? = some t0) (ha0 : args[0]? = some (.slice base m sCap)) (ha1 : args[1]? = some X) (hu : P.underlying t0 = some (.slice e)) (hinf : P.info? e = some inf) (hsz : inf.size = z) (hz0 : inf.zero = some Z) (hZ : Z.cells.size = z)
    (hz : (srcZ ts).run P w = .ok zeros w) (hN : (srcN e zeros X).run P w = .ok n w) (hA : (srcA z e zeros n X).run P w.drew = .ok news.toArray w.drew) (hO : (Builtin.firstCells z m (.slice base m sCap)).run P w.drew = .ok Olds.toArray w.drew)
    (hroom : sCap < m + n) (h63 : m + n ≤ 1000000000) (hb : (m + n) * inf.bytes ≤ 140737488355328) (hol : VsRel γ olds Olds) (hvs : VsRel γ vs news) :
    ∃ V γ' w', (append2 ts args).run P w = .ok V w' ∧ Stp γ f w γ' (upd f1 i (some ⟨.plain (olds ++ vs), e, z, true, true⟩)) nx' w' ∧ VRel γ' (.slc i 0 (m + n) (m + n)) V ∧ ∀ j, j ≠ i → γ' j = γ j := by
  have hrun := run_append2_grow (P := P) w ht0 ha0 ha1 hu hinf hsz hz0 hz hN hA hO hroom (by omega) hb
  have hge := grownCap_ge w (m + n) sCap e
  have hstp := (hr.sub hsub).new i nx' hi hi' hn (hol.append hvs) (ex := (Builtin.zeroCells Z.cells (grownCap w (m + n) sCap e - (m + n))).toList) e z true (grownCap w (m + n) sCap e - (m + n)) (by simp [size_zeroCells, hZ]) (by simp) (w1 := w.drew) rfl rfl rfl rfl
  refine ⟨_, γ.put i (some (w.heap.size, grownCap w (m + n) sCap e - (m + n))), _, hrun, ?_, ?_, fun j hj => Gm.put_other _ _ hj⟩
  · have := hstp.weaken hsub (fun k => OwnImg.sub hsub (k := k))
    have e1 : ((Olds ++ news) ++ (Builtin.zeroCells Z.cells (grownCap w (m + n) sCap e - (m + n))).toList).toArray = (Olds.toArray ++ news.toArray ++ Builtin.zeroCells Z.cells (grownCap w (m + n) sCap e - (m + n))) := by
      apply Array.ext'
      simp
    rw [e1] at this
    exact this
  · have hv : VRel (γ.put i (some (w.heap.size, grownCap w (m + n) sCap e - (m + n)))) (.slc i 0 (m + n) (m + n)) (.slice (some ⟨w.heap.size, 0, none⟩) (m + n) ((m + n) + (grownCap w (m + n) sCap e - (m + n)))) := .slc 0 (m + n) (m + n) (Gm.put_same _ _ _)
    rwa [show (m + n) + (grownCap w (m + n) sCap e - (m + n)) = grownCap w (m + n) sCap e by omega] at hv

theorem eApp_ok (ht : TabOk P ti) {γ : Gm} {h h' : Tr Blk} {nx : Nat} {w : World} (hr : HRel γ h.get nx w) {i nx' : Nat} (hi : γ i = none) (hi' : i < nx') (hn : nx ≤ nx') {t0 t1 : Nat} {s x v : AV} {S X : Value} (hs : VRel γ s S) (hx : VRel γ x X)
    (hq : eApp ti h i t0 t1 s x = some (v, h')) {ts : Array TypeId} {args : Array Value} (ty : TypeId) (ht0 : ts[0]? = some t0) (ht1 : ts[1]? = some t1) (ha0 : args[0]? = some S) (ha1 : args[1]? = some X) :
    ∃ V γ' w', (Builtin.append_ ts ty args).run P w = .ok V w' ∧ Stp γ h.get w γ' h'.get nx' w' ∧ VRel γ' v V ∧ ∀ j, j ≠ i → γ' j = γ j := by
  rw [append2_eq]
  unfold eApp at hq
  split at hq
  case h_2 => cases hq
  rename_i e hd
  have hu : P.underlying t0 = some (.slice e) := und_ok ht hd
  split at hq
  case h_2 => cases hq
  rename_i z by_ zs hz hby hzs
  obtain ⟨inf, Z, g1, g2, g3⟩ := zeroA_ok (P := P) (γ := γ) ht hzs
  obtain ⟨inf', q1, q2⟩ := info_of_szT ht hz
  rw [g1] at q1
  cases q1
  have hbytes : inf.bytes = by_ := bytes_ok ht hby g1
  split at hq
  · cases hq
  rename_i n vs hsrc
  obtain ⟨zeros, news, c1, c2, c3, c4, c5⟩ := srcV_ok ht hr hz hx hsrc ht1
  have c3w := c3 w rfl
  have c3d := c3 w.drew rfl
  cases hzl : (!Nat.beq zs.length z || !vs.all AV.one) with
  | true => simp [hzl] at hq
  | false =>
    simp only [hzl, cond_false] at hq
    have hzl' : zs.length = z ∧ vs.all AV.one = true := by
      cases a1 : Nat.beq zs.length z with
      | false => rw [a1] at hzl; simp at hzl
      | true =>
        rw [a1] at hzl
        exact ⟨beq_eq a1, by simpa using hzl⟩
    obtain ⟨hzl1, hone⟩ := hzl'
    have hZ : Z.cells.size = z := by have := g3.length; simp at this; omega
    -- what growing gives
    have grown : ∀ (olds : List AV) (m : Nat) (h1 : Tr Blk) (base : Option Addr) (sCap : Nat) (Olds : List Value), (bif Nat.ble (m + n) 1000000000 && Nat.ble ((m + n) * by_) 140737488355328 then
            match h1.set i (some ⟨.plain (olds ++ vs), e, z, true, true⟩) with
            | none => none
            | some h' => some (AV.slc i 0 (m + n) (m + n), h')
          else none) = some (v, h') → (∀ b k, h1.get b = some k → h.get b = some k) → S = .slice base m sCap → (Builtin.firstCells z m (.slice base m sCap)).run P w.drew = .ok Olds.toArray w.drew → sCap < m + n → VsRel γ olds Olds →
        ∃ V γ' w', (append2 ts args).run P w = .ok V w' ∧ Stp γ h.get w γ' h'.get nx' w' ∧ VRel γ' v V ∧ ∀ j, j ≠ i → γ' j = γ j := by
      intro olds m h1 base sCap Olds hg hsub hS hO hroom hol
      cases hb : (Nat.ble (m + n) 1000000000 && Nat.ble ((m + n) * by_) 140737488355328) with
      | false => simp [hb] at hg
      | true =>
        simp only [hb, cond_true] at hg
        obtain ⟨b1, b2⟩ := and_split hb
        split at hg
        · cases hg
        · rename_i h2 hset
          cases hg
          rw [get_set_upd hset]
          exact grown_ok hr hsub hi hi' hn ht0 (by rw [ha0, hS]) ha1 hu g1 q2 g2 hZ c1 c2 c3d hO hroom (Nat.le_of_ble_eq_true b1) (by rw [hbytes]; exact Nat.le_of_ble_eq_true b2) hol c4
    have still : n = 0 → ∀ (base : Option Addr) (c : Nat), S = .slice base 0 c → (append2 ts args).run P w = .ok (.slice base 0 c) w := by
      intro h0 base c hS
      subst h0
      have hnews : news = [] := List.eq_nil_of_length_eq_zero (by simpa using c5)
      subst hnews
      have := run_append2_room (P := P) w ht0 (by rw [ha0, hS]) ha1 hu g1 q2 c1 c2 c3w (sLen := 0) (sCap := c) (base := base) (by omega)
      rw [this]
      cases base <;> simp [storeCells]
    have stay : HRel γ h.get nx' w := hr.nx_mono hn
    split at hq
    · -- nil
      cases hb : Nat.beq n 0 with
      | true =>
        simp only [hb, cond_true, Option.some.injEq, Prod.mk.injEq] at hq
        obtain ⟨rfl, rfl⟩ := hq
        cases hs
        exact ⟨_, γ, w, still (beq_eq hb) none 0 rfl, Stp.refl stay, .nils, fun _ _ => rfl⟩
      | false =>
        simp only [hb, cond_false] at hq
        have h0 := beq_ne hb
        cases hs
        exact grown [] 0 h none 0 [] hq (fun _ _ h => h) rfl (by simp [Builtin.firstCells]) (by omega) .nil
    · -- an empty slice without capacity
      cases hb : Nat.beq n 0 with
      | true =>
        simp only [hb, cond_true, Option.some.injEq, Prod.mk.injEq] at hq
        obtain ⟨rfl, rfl⟩ := hq
        cases hs
        exact ⟨_, γ, w, still (beq_eq hb) _ 0 rfl, Stp.refl stay, .zer _, fun _ _ => rfl⟩
      | false =>
        simp only [hb, cond_false] at hq
        have h0 := beq_ne hb
        cases hs
        exact grown [] 0 h _ 0 [] hq (fun _ _ h => h) rfl (by simp [Builtin.firstCells, loadCells, loadCellsFrom]) (by omega) .nil
    · cases hb : Nat.beq n 0 with
      | true =>
        simp only [hb, cond_true, Option.some.injEq, Prod.mk.injEq] at hq
        obtain ⟨rfl, rfl⟩ := hq
        cases hs
        exact ⟨_, γ, w, still (beq_eq hb) _ _ rfl, Stp.refl stay, .emp _ _, fun _ _ => rfl⟩
      | false => simp [hb] at hq
    · rename_i b o m c
      cases hs with
      | slc _ _ _ hg =>
        rename_i B x
        split at hq
        · cases hq
        · rename_i k hk
          cases hle : Nat.ble (m + n) c with
          | true =>
            simp only [hle, cond_true] at hq
            have hle := Nat.le_of_ble_eq_true hle
            split at hq
            · cases hq
            · rename_i h2 hst
              cases hq
              obtain ⟨w', s1, s2⟩ := storeN_ok hr hg c4 hst P
              refine ⟨_, γ, w', ?_, ⟨s2.le, s2.rel.nx_mono hn, s2.size, s2.os, s2.tape, s2.output, s2.frame, s2.own, s2.ro, s2.dom, s2.fzn⟩, .slc o (m + n) c hg, fun _ _ => rfl⟩
              rw [run_append2_room (P := P) w ht0 ha0 ha1 hu g1 q2 c1 c2 c3w (by omega)]
              simp only [addr_add, s1, Result.andThen_ok]
          | false =>
            simp only [hle, cond_false] at hq
            have hle : c < m + n := by
              rcases Nat.lt_or_ge c (m + n) with h' | h'
              · exact h'
              · rw [Nat.ble_eq_true_of_le h'] at hle; cases hle
            cases hop : k.opn with
            | false =>
              simp only [hop, Bool.not_false, cond_true] at hq
              have hx0 : x = 0 := by
                obtain ⟨B', x', cs, ex, p1, p2, p3, p4, p5⟩ := hr.blk b k hk
                rw [hg] at p1; cases p1; exact p5 hop
              subst hx0
              cases hl : Nat.ble (o + m * z) k.cells.length with
              | false => simp [hl] at hq
              | true =>
                simp only [hl, cond_true] at hq
                obtain ⟨Vs, p1, p2, p3⟩ := hr.load hk hg o (m * z) (Nat.le_of_ble_eq_true hl)
                refine grown _ m h _ _ Vs hq (fun _ _ h => h) rfl ?_ (by omega) p1
                exact run_firstCells_some (P := P) w.drew z m _ _ _ Vs p2 (fun j u hu => by simpa using p3 j u hu)
            | true =>
              simp only [hop, Bool.not_true, cond_false] at hq
              cases hc : (Nat.beq o 0 && Nat.beq k.cells.length (c * z) && k.own && Nat.beq k.sz z && Nat.beq k.elem e && Nat.ble m c) with
              | false => simp [hc] at hq
              | true =>
                simp only [hc, cond_true] at hq
                simp only [Bool.and_eq_true] at hc
                obtain ⟨⟨⟨⟨⟨d1, d2⟩, d3⟩, d4⟩, d5⟩, d6⟩ := hc
                have d1 := beq_eq d1
                have d2 := beq_eq d2
                have d4 := beq_eq d4
                have d5 := beq_eq d5
                have d6 := Nat.le_of_ble_eq_true d6
                subst d1
                split at hq
                · cases hq
                · rename_i h1 hkill
                  have hget1 := get_set_upd hkill
                  have hsub : ∀ b' k', h1.get b' = some k' → h.get b' = some k' := by
                    intro b' k' hb'
                    rw [hget1] at hb'
                    by_cases e1 : b' = b
                    · subst e1; rw [upd_same] at hb'; cases hb'
                    · rw [upd_other _ _ e1] at hb'; exact hb'
                  obtain ⟨B', x', cs, ex, p1, p2, p3, p4, p5⟩ := hr.blk b k hk
                  rw [hg] at p1
                  cases p1
                  have hcl := p3.length
                  have hmz : m * z ≤ c * z := Nat.mul_le_mul_right _ d6
                  by_cases hroom : m + n ≤ c + x
                  · -- at its place
                    cases hb : (Nat.ble (m + n) 1000000000 && Nat.ble ((m + n) * by_) 140737488355328) with
                    | false => simp [hb] at hq
                    | true =>
                      simp only [hb, cond_true] at hq
                      split at hq
                      · cases hq
                      · rename_i h2 hset
                        cases hq
                        have hnl := c4.length
                        have hfit : (m + n) * z ≤ (c + x) * z := Nat.mul_le_mul_right _ hroom
                        have htot : (cs ++ ex).length = (c + x) * z := by
                          rw [List.length_append, hcl, d2, p4, d4, Nat.add_mul]
                        have hst := run_storeCells_at P B (m * z) k.elem news 0 (cs ++ ex).toArray w p2 (by
                          simp only [List.size_toArray]
                          rw [htot, c5, Nat.add_zero, ← Nat.add_mul]; exact hfit) (c4.ones hone)
                        have hrun := run_append2_room (P := P) w ht0 ha0 ha1 hu g1 q2 c1 c2 c3w hroom
                        simp only [addr_add, Nat.zero_add, hst, Result.andThen_ok] at hrun
                        have hren := hr.rename hk d3 hg i nx' hi hi' hn (vs := k.cells.take (m * z) ++ vs) (Vs := cs.take (m * z) ++ news) (ex := (cs ++ ex).drop ((m + n) * z)) ((p3.take (m * z)).append c4) (c + x - (m + n)) (by
                          rw [List.length_drop, htot, d4, ← Nat.sub_mul])
                        refine ⟨_, γ.put i (some (B, c + x - (m + n))), _, hrun, ?_, ?_, fun j hj => Gm.put_other _ _ hj⟩
                        · rw [get_set_upd hset, hget1]
                          rw [d4, d5] at hren
                          have e3 : (cs ++ ex).take (m * z + 0) ++ news ++ (cs ++ ex).drop (m * z + 0 + news.length) = (cs.take (m * z) ++ news) ++ (cs ++ ex).drop ((m + n) * z) := by
                            simp only [Nat.add_zero, c5, ← Nat.add_mul]
                            rw [List.take_append_of_le_length (by omega)]
                          rw [e3]
                          exact hren
                        · have hv : VRel (γ.put i (some (B, c + x - (m + n)))) (.slc i 0 (m + n) (m + n)) (.slice (some ⟨B, 0, none⟩) (m + n) ((m + n) + (c + x - (m + n)))) := .slc 0 (m + n) (m + n) (Gm.put_same _ _ _)
                          rwa [show (m + n) + (c + x - (m + n)) = c + x by omega] at hv
                  · -- anew
                    obtain ⟨Vs, r1, r2, r3⟩ := hr.load hk hg 0 (m * z) (by omega)
                    rw [List.drop_zero] at r1
                    refine grown _ m h1 _ _ Vs hq hsub rfl ?_ (by omega) r1
                    exact run_firstCells_some (P := P) w.drew z m _ _ _ Vs r2 (fun j u hu => by simpa using r3 j u hu)
    · cases hq

/- copy -/
def eCopy (ti : Tr TypeInfo) (h : Tr Blk) (t0 : Nat) (d x : AV) : Option (AV × Tr Blk) :=
  match und ti t0 with
  | some (.slice e) => match szT ti e with
    | none => none
    | some z => match d with
      | .slc b o dn _ => match x with
        | .slc b2 o2 n _ => match h.get b2 with
          | none => none
          | some k =>
            let c := Nat.min n dn
            bif Nat.ble (o2 + c * z) k.cells.length then
              match storeN h b o ((k.cells.drop o2).take (c * z)) with
              | none => none
              | some h' => some (.int .i64 c, h')
            else none
        | .nils => some (.int .i64 0, h)
        | .emp => some (.int .i64 0, h)
        | .zer => some (.int .i64 0, h)
        | .str s => bif Nat.beq z 1 then
            let c := Nat.min s.size dn
            match storeN h b o (((s.extract 0 c).data.toList).map fun u => .int .u8 u.toNat) with
            | none => none
            | some h' => some (.int .i64 c, h')
          else none
        | _ => none
      | _ => none
  | _ => none

theorem eCopy_ok (ht : TabOk P ti) {γ : Gm} {h h' : Tr Blk} {nx : Nat} {w : World} (hr : HRel γ h.get nx w) {t0 : Nat} {d x v : AV} {D X : Value} (hd : VRel γ d D) (hx : VRel γ x X)
    (hq : eCopy ti h t0 d x = some (v, h')) {ts : Array TypeId} {args : Array Value} (ty : TypeId) (ht0 : ts[0]? = some t0) (ha0 : args[0]? = some D) (ha1 : args[1]? = some X) :
    ∃ V w', (Builtin.copy_ ts ty args).run P w = .ok V w' ∧ Stp γ h.get w γ h'.get nx w' ∧ VRel γ v V := by
  unfold eCopy at hq
  split at hq
  case h_2 => cases hq
  rename_i e hu
  split at hq
  · cases hq
  rename_i z hz
  split at hq
  case h_2 => cases hq
  rename_i b o dn dc
  cases hd with
  | slc _ _ _ hg =>
    rename_i B xx
    split at hq
    · rename_i b2 o2 n c2
      cases hx with
      | slc _ _ _ hg2 =>
        split at hq
        · cases hq
        · rename_i k hk
          cases hl : Nat.ble (o2 + Nat.min n dn * z) k.cells.length with
          | false => simp [hl] at hq
          | true =>
            simp only [hl, cond_true] at hq
            split at hq
            · cases hq
            · rename_i h2 hst
              cases hq
              obtain ⟨Vs, p1, p2, p3⟩ := hr.load hk hg2 o2 (Nat.min n dn * z) (Nat.le_of_ble_eq_true hl)
              obtain ⟨w', s1, s2⟩ := storeN_ok hr hg p1 hst P
              refine ⟨_, w', ?_, s2, .int _ _⟩
              have hf := fun cap => run_firstCells_some (P := P) w z (Nat.min n dn) _ n cap Vs p2 p3
              simp only [Builtin.copy_, ht0, ha0, ha1, Sem.run_bind, run_und ht hu, Result.andThen_ok, Builtin.lenOf, Sem.run_pure, run_sizeOf ht hz, hf, s1, goInt]
    · cases hq
      cases hx
      refine ⟨_, w, ?_, Stp.refl hr, .int _ _⟩
      have : Nat.min 0 dn = 0 := Nat.zero_min dn
      simp [Builtin.copy_, ht0, ha0, ha1, run_und ht hu, Builtin.lenOf, run_sizeOf ht hz, this, Builtin.firstCells, storeCells, goInt]
    · cases hq
      cases hx
      rename_i a cc
      refine ⟨_, w, ?_, Stp.refl hr, .int _ _⟩
      have : Nat.min 0 dn = 0 := Nat.zero_min dn
      cases a <;> simp [Builtin.copy_, ht0, ha0, ha1, run_und ht hu, Builtin.lenOf, run_sizeOf ht hz, this, Builtin.firstCells, storeCells, goInt, loadCells, loadCellsFrom]
    · cases hq
      cases hx
      refine ⟨_, w, ?_, Stp.refl hr, .int _ _⟩
      have : Nat.min 0 dn = 0 := Nat.zero_min dn
      simp [Builtin.copy_, ht0, ha0, ha1, run_und ht hu, Builtin.lenOf, run_sizeOf ht hz, this, Builtin.firstCells, storeCells, goInt, loadCells, loadCellsFrom]
    · rename_i s
      cases hx
      cases hb : Nat.beq z 1 with
      | false => simp [hb] at hq
      | true =>
        simp only [hb, cond_true] at hq
        split at hq
        · cases hq
        · rename_i h2 hst
          cases hq
          obtain ⟨w', s1, s2⟩ := storeN_ok hr hg (map_bytes γ _) hst P
          refine ⟨_, w', ?_, s2, .int _ _⟩
          simp only [Builtin.copy_, ht0, ha0, ha1, Sem.run_bind, run_und ht hu, Result.andThen_ok, Builtin.lenOf, Sem.run_pure, run_sizeOf ht hz, Builtin.firstCells, Array.toList_map, s1, goInt]
    · cases hq
end

end Go.QfSy
