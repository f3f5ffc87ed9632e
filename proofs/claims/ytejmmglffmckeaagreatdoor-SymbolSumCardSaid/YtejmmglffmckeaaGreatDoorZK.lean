/- A run of the abstract machine is a run of the model: operations, and regions in the order of the text. -/
import Derived.Test.YtejmmglffmckeaaGreatDoorZJ
import Derived.Scope
set_option linter.unusedSimpArgs false
set_option linter.unusedVariables false
namespace Go.QfSy

structure EnvOk (P : Program) (E : Env) : Prop where
  ti : TabOk P E.ti
  fs : ∀ f, E.fs.get f = P.funcs[f]?
  lz : LiesOk P E.lz
  noesc : ∀ x w, (callFunc E.noesc #[x]).run P w = .ok (.value x) w
  names : ∀ (f : Nat) (fn : Func), P.funcs[f]? = some fn → (fn.name == "runtime.NumGoroutine") = false
  mixed : P.follows .mixedOrders = true

def Glob (ng : Nat) (γ : Gm) : Prop := ∀ g, g < ng → γ g = some (g, 0)

structure FRel (γ : Gm) (ng : Nat) (T : Tr AV) (N : Nat) (a : Act) : Prop where
  defers : a.defers = []
  size : a.tmps.size = N
  tmp : ∀ t v, T.get t = some v → VRel γ v (a.tmps.getD t undef)
  glob : Glob ng γ

structure RunR (γ : Gm) (H : Hs) (w : World) (γ' : Gm) (H' : Hs) (w' : World) : Prop where
  stp : Stp γ H.m.get w γ' H'.m.get H'.nx w'
  nx : H.nx ≤ H'.nx
  keep : ∀ b, b < H.nx → γ' b = γ b

theorem RunR.refl {γ : Gm} {H : Hs} {w : World} (h : HRel γ H.m.get H.nx w) : RunR γ H w γ H w := ⟨Stp.refl h, Nat.le_refl _, fun _ _ => rfl⟩
theorem RunR.trans {γ γ1 γ2 : Gm} {H H1 H2 : Hs} {w w1 w2 : World} (h : RunR γ H w γ1 H1 w1) (k : RunR γ1 H1 w1 γ2 H2 w2) : RunR γ H w γ2 H2 w2 :=
  ⟨h.stp.trans k.stp, Nat.le_trans h.nx k.nx, fun b hb => (k.keep b (Nat.lt_of_lt_of_le hb h.nx)).trans (h.keep b hb)⟩

theorem FRel.mono {γ γ' : Gm} {ng : Nat} {T : Tr AV} {N : Nat} {a : Act} (h : FRel γ ng T N a) (hg : γ.le γ') : FRel γ' ng T N a :=
  ⟨h.defers, h.size, fun t v hv => (h.tmp t v hv).mono hg, fun g hb => hg.nm _ _ (h.glob g hb)⟩

def CallOk (P : Program) (ng : Nat) (call : CallF) : Prop :=
  ∀ f args H v H', call f args H = some (v, H') → (∀ p ∈ H.ms, p ∈ H'.ms) ∧ ((∀ p ∈ H'.ms, p) → ∀ γ w Args, HRel γ H.m.get H.nx w → VsRel γ args Args → Glob ng γ →
    (∃ fn, P.funcs[f]? = some fn ∧ fn.body.isSome = true) ∧
    Calls P f Args.toArray w fun e w' => ∃ V γ', e = .returned V ∧ VRel γ' v V ∧ RunR γ H w γ' H' w')

theorem evo_ok {γ : Gm} {ng : Nat} {T : Tr AV} {N : Nat} {a : Act} (h : FRel γ ng T N a) (x : Operand) (v : AV) (hq : evo ng T x = some v) : VRel γ v (a.eval x) := by
  cases x with
  | tmp t => exact h.tmp t v hq
  | const V => exact ofVal_ok γ hq
  | global g =>
    simp only [evo] at hq
    cases hb : Nat.blt g ng with
    | false => simp [hb] at hq
    | true =>
      simp only [hb, cond_true, Option.some.injEq] at hq
      subst hq
      exact .ptr 0 (h.glob g (Nat.le_of_ble_eq_true hb))
  | func f => simp only [evo, Option.some.injEq] at hq; subst hq; exact .fn f .nil

theorem put_ok {γ : Gm} {ng : Nat} {T T' : Tr AV} {N : Nat} {a : Act} (h : FRel γ ng T N a) {dst : Option Nat} {v : AV} {V : Value} (hv : VRel γ v V) (hq : putA N T dst v = some T') : FRel γ ng T' N (a.put dst V) := by
  cases dst with
  | none => simp only [putA, Option.some.injEq] at hq; subst hq; exact h
  | some d =>
    simp only [putA] at hq
    cases hb : Nat.blt d N with
    | false => simp [hb] at hq
    | true =>
      simp only [hb, cond_true] at hq
      have hd : d < N := Nat.le_of_ble_eq_true hb
      refine ⟨h.defers, by simp [Act.put, h.size], fun t u hu => ?_, h.glob⟩
      rw [Tr.get_set hq t] at hu
      have hsz := h.size
      by_cases e : t = d
      · subst e
        rw [if_pos rfl] at hu
        cases hu
        simp only [Act.put]
        have : (a.tmps.setIfInBounds t V).getD t undef = V := by
          simp [Array.getD, hsz, hd]
        rw [this]; exact hv
      · rw [if_neg e] at hu
        have : (a.put (some d) V).tmps.getD t undef = a.tmps.getD t undef := by
          have := Act.eval_put (a := a) (dst := some d) (v := V) (x := .tmp t) (by intro d' hd'; cases hd'; intro h; cases h; exact e rfl)
          exact this
        rw [this]; exact h.tmp t u hu

/- what a known place yields -/
theorem yield_known {γ : Gm} {X : Value} {x : AV} (ht : VRel γ x X) : (match (some X : Option Value) with | some (.bool b) => some b | _ => none) = (match (some x : Option AV) with | some (.bool b) => some b | some (.vbool b) => some b | _ => none) := by
  cases ht with
  | ro h => cases h <;> rfl
  | _ => rfl

theorem yieldA_ok {γ : Gm} {ng : Nat} {T : Tr AV} {N : Nat} {a : Act} (h : FRel γ ng T N a) (ops : Array Oper) (j : Nat) (hk : ∀ oj d, ops[j]? = some oj → oj.dst = some d → (T.get d).isSome = true) : yielded ops a.tmps j = yieldA ops N T j := by
  unfold yielded yieldA
  cases ho : ops[j]? with
  | none => rfl
  | some o =>
    simp only [Option.bind_some]
    cases hd : o.dst with
    | none => rfl
    | some d =>
      simp only [Option.bind_some]
      have hsz := h.size
      obtain ⟨x, hx⟩ := Option.isSome_iff_exists.1 (hk o d ho hd)
      have ht := h.tmp d x hx
      cases hb : Nat.blt d N with
      | true =>
        have hlt : d < N := Nat.le_of_ble_eq_true hb
        have hlt' : d < a.tmps.size := by rw [hsz]; exact hlt
        rw [Array.getElem?_eq_getElem hlt']
        have e : a.tmps.getD d undef = a.tmps[d] := by simp [Array.getD, hlt']
        rw [e] at ht
        simp only [cond_true]
        rw [hx]
        exact yield_known ht
      | false =>
        have hge : N ≤ d := by
          rcases Nat.lt_or_ge d N with h' | h'
          · have : Nat.blt d N = true := Nat.ble_eq_true_of_le h'
            rw [this] at hb; cases hb
          · exact h'
        have hge' : a.tmps.size ≤ d := by rw [hsz]; exact hge
        rw [Array.getElem?_eq_none hge']
        rfl

theorem known_at {ops : Array Oper} {T : Tr AV} {o : Oper} (hk : knownG ops T o = true) {j : Nat} {want : Bool} (hg : o.guard = some (j, want)) : ∀ oj d, ops[j]? = some oj → oj.dst = some d → (T.get d).isSome = true := by
  intro oj d h1 h2
  unfold knownG at hk
  rw [hg] at hk
  simp only [h1, h2] at hk
  cases hT : T.get d with
  | none => rw [hT] at hk; cases hk
  | some v => rfl

theorem wantedA_ok {γ : Gm} {ng : Nat} {T : Tr AV} {N : Nat} {a : Act} (h : FRel γ ng T N a) (ops : Array Oper) (o : Oper) (hk : knownG ops T o = true) : Region.wanted o (yielded ops a.tmps) = wantedA ops N T o := by
  unfold Region.wanted wantedA
  cases hg : o.guard with
  | none => rfl
  | some p =>
    obtain ⟨j, want⟩ := p
    simp only [yieldA_ok h ops j (known_at hk hg)]
    cases yieldA ops N T j with
    | none => rfl
    | some b => cases want <;> cases b <;> rfl

/- one value says no more than another -/
def Imp (v u : AV) : Prop := ∀ γ V, VRel γ v V → VRel γ u V
theorem Imp.refl (v : AV) : Imp v v := fun _ _ h => h
theorem forceV_ok {g : Bool} {v u : AV} {tp tp' : List Bool} {ms : List Prop} (h : forceV g v tp = (u, tp', ms)) (hm : ∀ p ∈ ms, p) : Imp v u := by
  unfold forceV at h
  split at h
  · rename_i b
    cases g with
    | true =>
      simp only [cond_true] at h
      split at h
      · cases h
        have : b = true := all_one hm
        subst this
        intro γ V hV
        cases hV; exact .bool _
      · cases h
        have := show Dec b _ from all_one hm
        unfold Dec at this
        subst this
        intro γ V hV
        cases hV; exact .bool _
    | false => cases h; exact Imp.refl _
  · cases h; exact Imp.refl _

/- strings over blocks -/
theorem bytesA_ok {γ : Gm} {vs : List AV} {Vs : List Value} (h : VsRel γ vs Vs) {bs : List UInt8} (hq : bytesA vs = some bs) : Vs = bs.map (fun b => Value.int .u8 b.toNat) := by
  induction vs generalizing Vs bs with
  | nil => cases h; simp [bytesA] at hq; subst hq; rfl
  | cons v vs ih =>
    cases h with
    | cons hv ht =>
      cases v <;> try (simp [bytesA] at hq; done)
      rename_i k n
      cases k <;> try (simp [bytesA] at hq; done)
      simp only [bytesA] at hq
      split at hq
      · cases hq
      · rename_i us hus
        cases hb : (decide (0 ≤ n) && decide (n < 256)) with
        | false => simp [hb] at hq
        | true =>
          simp only [hb, cond_true, Option.some.injEq] at hq
          subst hq
          simp only [Bool.and_eq_true, decide_eq_true_eq] at hb
          cases hv
          rw [ih ht hus]
          simp only [List.map_cons]
          congr 1
          have : (n.toNat.toUInt8).toNat = n.toNat := by
            simp [Nat.toUInt8, UInt8.toNat_ofNat']
            omega
          rw [this]
          congr 1
          omega

theorem freeze_stp {γ : Gm} {f : Hf} {nx : Nat} {w : World} (hr : HRel γ f nx w) {b : Nat} {k : Blk} (hb : f b = some k) (hown : k.own = true) {B x : Nat} (hg : γ b = some (B, x)) (o n : Nat) : Stp γ f w γ (upd f b none) nx (w.freeze ⟨B, o, none⟩ n) := by
  have hfzB : γ.fz B = none := hr.fzo b k B x hb hown hg
  have hheap : ∀ i, i ≠ B → (w.freeze ⟨B, o, none⟩ n).heap[i]? = w.heap[i]? := by
    intro i hi
    unfold World.freeze
    split
    · rfl
    · simp only [Array.getElem?_modify]
      rw [if_neg (fun e => hi e.symm)]
  have hsz : (w.freeze ⟨B, o, none⟩ n).heap.size = w.heap.size := by
    unfold World.freeze
    split
    · rfl
    · simp
  have hold : ∀ c kc, upd f b none c = some kc → f c = some kc ∧ c ≠ b := by
    intro c kc hc
    by_cases e : c = b
    · subst e; rw [upd_same] at hc; cases hc
    · rw [upd_other f _ e] at hc; exact ⟨hc, e⟩
  have hos : (w.freeze ⟨B, o, none⟩ n).os = w.os ∧ (w.freeze ⟨B, o, none⟩ n).tape = w.tape ∧ (w.freeze ⟨B, o, none⟩ n).output = w.output := by
    unfold World.freeze
    split <;> exact ⟨rfl, rfl, rfl⟩
  refine ⟨Gm.le_refl γ, ⟨?_, ?_, hr.fresh, ?_, ?_⟩, by rw [hsz]; omega, hos.1, hos.2.1, hos.2.2, ?_, ?_, ?_, ?_, fun _ _ h => .inl h⟩
  · intro c kc hc
    obtain ⟨h1, h2⟩ := hold c kc hc
    obtain ⟨B2, x2, cs2, ex2, q1, q2, q3⟩ := hr.blk c kc h1
    refine ⟨B2, x2, cs2, ex2, q1, ?_, q3⟩
    rw [hheap B2 (fun e2 => h2 (hr.inj c b kc k B x2 x h1 hb (by rw [← e2]; exact q1) hg))]
    exact q2
  · intro c c' kc kc' B1 y y' q1 q2 q3 q4
    exact hr.inj _ _ _ _ _ _ _ (hold _ _ q1).1 (hold _ _ q2).1 q3 q4
  · intro B' y hB'
    rw [hheap B' (fun e => by rw [e, hfzB] at hB'; cases hB')]
    exact hr.fzr B' y hB'
  · intro c kc B' y hc ho hg'
    exact hr.fzo c kc B' y (hold _ _ hc).1 ho hg'
  · intro i hi hni
    exact hheap i (fun e => hni (e ▸ ⟨b, k, x, hb, hown, hg⟩))
  · intro i hi ⟨c, kc, y, q1, q2, q3⟩
    exact ⟨c, kc, y, (hold _ _ q1).1, q2, q3⟩
  · intro c kc hc ho
    exact (hold _ _ hc).1
  · intro c kc hc
    exact .inl ⟨kc, (hold _ _ hc).1⟩

theorem eStr_ok {P : Program} {ti : Tr TypeInfo} (ht : TabOk P ti) {γ : Gm} {h h' : Tr Blk} {nx : Nat} {w : World} (hr : HRel γ h.get nx w) {pt it ty : Nat} {p n v : AV} {X Y : Value} (hx : VRel γ p X) (hy : VRel γ n Y) (hq : eStr ti h pt p n = some (v, h')) :
    ∃ V w', (Builtin.unsafeString_ #[pt, it] ty #[X, Y]).run P w = .ok V w' ∧ Stp γ h.get w γ h'.get nx w' ∧ VRel γ v V := by
  unfold eStr at hq
  split at hq
  · cases hy
    split at hq
    · cases hq; cases hx
      exact ⟨_, w, Lib.run_unsafeString_none w pt it ty none, Stp.refl hr, .str _⟩
    · cases hq
      cases hx
      exact ⟨_, w, Lib.run_unsafeString_none w pt it ty _, Stp.refl hr, .str _⟩
    · cases hq
  · rename_i l hl0
    cases hy
    split at hq
    · rename_i b
      cases hx with
      | ptr _ hg =>
        rename_i B x
        split at hq
        · rename_i e hd
          split at hq
          · rename_i hs
            split at hq
            · cases hq
            · rename_i k hk
              cases hb : (k.own && Nat.beq k.elem e && decide (0 < l) && decide (l ≤ 1000000000) && Nat.ble l.toNat k.cells.length) with
              | false => simp [hb] at hq
              | true =>
                simp only [hb, cond_true] at hq
                simp only [Bool.and_eq_true, decide_eq_true_eq] at hb
                obtain ⟨⟨⟨⟨b1, b2⟩, b3⟩, b4⟩, b5⟩ := hb
                have b2 := beq_eq b2
                have b5 := Nat.le_of_ble_eq_true b5
                split at hq
                · cases hq
                · rename_i bs hbs
                  split at hq
                  · cases hq
                  · rename_i h2 hset
                    cases hq
                    obtain ⟨Vs, p1, p2, p3⟩ := hr.load hk hg 0 l.toNat (by omega)
                    rw [List.drop_zero] at p1
                    have hVs := bytesA_ok p1 hbs
                    have hbl : bs.length = l.toNat := by rw [← p2, hVs]; simp
                    obtain ⟨inf, i1, i2⟩ := info_of_szT ht hs
                    obtain ⟨B', x', cs, ex, g1, g2, g3, g4, g5⟩ := hr.blk b k hk
                    rw [hg] at g1
                    cases g1
                    have hcl := g3.length
                    have hrun := Lib.run_unsafeString_row (P := P) w pt it ty e (und_ok ht hd) (by simp [Program.cellsOf, i1, i2]) B (cs ++ ex).length (by simp [World.shape?, g2, b2]) bs (by intro e0; rw [e0] at hbl; simp at hbl; omega) (by simp; omega) (by omega) (fun j u hu => by
                      refine p3 j _ ?_
                      rw [hVs, List.getElem?_map, hu]; rfl)
                    have hl2 : (bs.length : Int) = l := by omega
                    rw [hl2] at hrun
                    refine ⟨_, _, hrun, ?_, .str _⟩
                    rw [get_set_upd hset]
                    exact freeze_stp hr hk b1 hg 0 _
          · cases hq
        · cases hq
    · cases hq
  · cases hq

/- what must hold is never forgotten -/
theorem sApp_ms {ti : Tr TypeInfo} {conT t0 t1 : Nat} {u y v : AV} {H H' : Hs} (hq : sApp ti conT t0 t1 u y H = some (v, H')) : ∀ p ∈ H.ms, p ∈ H'.ms := by
  intro p hp
  unfold sApp at hq
  split at hq
  case h_2 => cases hq
  split at hq
  case h_2 => cases hq
  rename_i e hd _ _ _ z by_ zs hz hby hzs
  cases hzl : (!(Nat.beq zs.length z && Nat.ble by_ 1000)) with
  | true => rw [hzl] at hq; cases hq
  | false =>
    rw [hzl] at hq
    simp only [cond_false] at hq
    split at hq
    · cases hq
    rename_i n V ms hsrc
    have ak := ask_ms H (Nat.beq n 0)
    have asked : ∀ (u' : AV), (bif isRo y then
            (match H.ask (Nat.beq n 0) with
            | (true, H1) => some (u', ({ H1 with nx := H1.nx + 1, ms := ms ++ H1.ms } : Hs))
            | (false, H1) => (match H1.m.set H1.nx (some ⟨V, e, z, true, true⟩) with
              | none => none
              | some m => some (AV.lo H1.nx n, ({ H1 with m := m, nx := H1.nx + 1, ms := (0 < n ∧ n ≤ 1000000) :: (ms ++ H1.ms) } : Hs))))
          else (match H.m.set H.nx (some ⟨V, e, z, true, true⟩) with
              | none => none
              | some m => some (AV.lo H.nx n, ({ H with m := m, nx := H.nx + 1, ms := (0 < n ∧ n ≤ 1000000) :: (ms ++ H.ms) } : Hs)))) = some (v, H') → p ∈ H'.ms := by
      intro u' hh
      cases hro : isRo y with
      | false =>
        rw [hro] at hh
        simp only [cond_false] at hh
        split at hh
        · cases hh
        · cases hh; simp [hp]
      | true =>
        rw [hro] at hh
        simp only [cond_true] at hh
        generalize hak : H.ask (Nat.beq n 0) = r at hh ak
        obtain ⟨d, H1⟩ := r
        have h1 : p ∈ H1.ms := by rw [show H1.ms = _ from ak]; simp [hp]
        cases d with
        | true => cases hh; simp [h1]
        | false =>
          simp only at hh
          split at hh
          · cases hh
          · cases hh; simp [h1]
    split at hq
    · split at hq
      · cases hq
      · split at hq
        · cases hq
        · replace hq := (bif_some hq).2
          split at hq
          · cases hq
          · split at hq
            · cases hq
            · cases hq; simp [hp]
    · exact asked _ hq
    · exact asked _ hq
    · cases hq

theorem eApp2_ms {E : Env} {t0 t1 : Nat} {u y v : AV} {H H' : Hs} (hq : eApp2 E t0 t1 u y H = some (v, H')) : ∀ p ∈ H.ms, p ∈ H'.ms := by
  unfold eApp2 at hq
  split at hq
  · rename_i r hr
    cases hq
    split at hr
    · exact sApp_ms hr
    · exact sApp_ms hr
    · exact sApp_ms (bif_some hr).2
    · cases hr
  · split at hq
    · cases hq
    · cases hq; exact fun p hp => hp

theorem eStore2_ms {E : Env} {t : Nat} {u y : AV} {H H' : Hs} (hq : eStore2 E t u y H = some H') : ∀ p ∈ H.ms, p ∈ H'.ms := by
  unfold eStore2 at hq
  split at hq
  · split at hq
    · cases hq
    · cases hq; exact fun p hp => by simp [hp]
  · split at hq
    · cases hq
    · cases hq; exact fun p hp => hp

section
variable {P : Program} {E : Env} (hE : EnvOk P E) {call : CallF} (hc : CallOk P E.ng call)

include hc in
theorem evAct_ms {op : Op} {H H' : Hs} {v : AV} {ρ : Operand → Option AV} (hq : evAct E call ρ op H = some (v, H')) : ∀ p ∈ H.ms, p ∈ H'.ms := by
  unfold evAct at hq
  split at hq
  · split at hq
    · cases hq
    · split at hq
      · cases hq
      · split at hq
        · cases hq
        · rename_i h1; cases hq; exact eStore2_ms h1
  · split at hq
    · cases hq
    · split at hq
      · cases hq
      · exact eApp2_ms hq
  · split at hq
    · cases hq
    · split at hq
      · cases hq
      · split at hq
        · cases hq
        · cases hq; exact fun p hp => hp
  · split at hq
    · cases hq
    · split at hq
      · cases hq
      · split at hq
        · cases hq
        · cases hq; exact fun p hp => hp
  · split at hq
    · split at hq
      · cases hq
      · rename_i g caps hf _ vs hvs
        cases hne : Nat.beq g E.noesc with
        | true =>
          simp only [hne, cond_true] at hq
          split at hq
          · cases hq; exact fun p hp => hp
          · cases hq
        | false =>
          simp only [hne, cond_false] at hq
          exact (hc _ _ _ _ _ hq).1
    · cases hq
  · cases hq

include hc in
theorem evOne_ms {op : Op} {ty : Nat} {H H' : Hs} {v : AV} {ρ : Operand → Option AV} (hq : evOne E call ρ op ty H = some (v, H')) : ∀ p ∈ H.ms, p ∈ H'.ms := by
  unfold evOne at hq
  split at hq
  · split at hq
    · cases hq
    · cases hq; exact fun p hp => by simp [Hs.must, hp]
  · split at hq
    · cases hq
    · split at hq
      · cases hq
      · cases hq; exact fun p hp => hp
  · exact evAct_ms hc hq

include hc in
theorem evOps_ms {all : Array Oper} {N : Nat} : ∀ (l : List Oper) (T T' : Tr AV) (H H' : Hs), evOps E call all N l T H = some (T', H') → ∀ p ∈ H.ms, p ∈ H'.ms := by
  intro l
  induction l with
  | nil => intro T T' H H' hq p hp; simp only [evOps, Option.some.injEq, Prod.mk.injEq] at hq; obtain ⟨rfl, rfl⟩ := hq; exact hp
  | cons o l ih =>
    intro T T' H H' hq p hp
    simp only [evOps] at hq
    replace hq := (bif_some hq).2
    cases hw : wantedA all N T o with
    | true =>
      simp only [hw, cond_true] at hq
      split at hq
      · cases hq
      · rename_i v H1 hone
        split at hq
        · cases hq
        · exact ih _ _ _ _ hq p (by simp [evOne_ms hc hone p hp])
    | false =>
      simp only [hw, cond_false] at hq
      split at hq
      · cases hq
      · exact ih _ _ _ _ hq p hp
end

section
variable {P : Program} {E : Env} (hE : EnvOk P E) {call : CallF} (hc : CallOk P E.ng call)
include hE hc

theorem evAct_ok {o : Oper} {H H' : Hs} {v : AV} {ρ : Operand → Option AV} {γ : Gm} {w : World} {a : Act} (hr : HRel γ H.m.get H.nx w) (hρ : ∀ x v, ρ x = some v → VRel γ v (a.eval x)) (hgl : Glob E.ng γ) (hq : evAct E call ρ o.op H = some (v, H')) (hm : ∀ p ∈ H'.ms, p)
    {K : Act → World → Prop} {Q : Exit → Act → World → Prop} (hK : ∀ V w' γ', VRel γ' v V → RunR γ H w γ' H' w' → K (a.put o.dst V) w') : o.wp P a w K Q := by
  obtain ⟨dst, op, ty, pos, after, guard⟩ := o
  simp only at hq hK
  have val : ∀ V w', (execOp a.eval ⟨dst, op, ty, pos, after, guard⟩).run P w = .ok (.value V) w' → K (a.put dst V) w' → Oper.wp P ⟨dst, op, ty, pos, after, guard⟩ a w K Q := by
    intro V w' h1 h2
    unfold Oper.wp
    rw [h1, Oper.upon_value]
    exact h2
  unfold evAct at hq
  split at hq
  · rename_i t x y
    split at hq
    · cases hq
    · rename_i u hu
      split at hq
      · cases hq
      · rename_i z hz
        split at hq
        · cases hq
        · rename_i H1 hst
          cases hq
          have hst' : ∃ w', (Instr.storeAt t (a.eval x) (a.eval y)).run P w = .ok () w' ∧ Stp γ H.m.get w γ H'.m.get H.nx w' ∧ H'.nx = H.nx := by
            unfold eStore2 at hst
            split at hst
            · split at hst
              · cases hst
              · rename_i m ms hss
                cases hst
                obtain ⟨w', h1, h2⟩ := sStore_ok (P := P) hE.ti hr (hρ _ _ hu) (hρ _ _ hz) hss (fun p hp => hm p (by simp [hp]))
                exact ⟨w', h1, h2, rfl⟩
            · split at hst
              · cases hst
              · rename_i m hss
                cases hst
                obtain ⟨w', h1, h2⟩ := eStore_ok (P := P) hE.ti hr (hρ _ _ hu) (hρ _ _ hz) hss
                exact ⟨w', h1, h2, rfl⟩
          obtain ⟨w', h1, h2, h3⟩ := hst'
          have hx : (execOp a.eval ⟨dst, .store t x y, ty, pos, after, guard⟩).run P w = .ok .skip w' := by simp [execOp, h1]
          unfold Oper.wp
          rw [hx, Oper.upon_skip]
          exact hK undef w' γ (.tup .nil) ⟨by rw [h3]; exact h2, by rw [h3]; exact Nat.le_refl _, fun _ _ => rfl⟩
  · rename_i s x t0 t1
    split at hq
    · cases hq
    · rename_i u hu
      split at hq
      · cases hq
      · rename_i z hz
        have happ : ∃ V γ' w', (Builtin.append_ #[t0, t1] ty #[a.eval s, a.eval x]).run P w = .ok V w' ∧ Stp γ H.m.get w γ' H'.m.get H'.nx w' ∧ VRel γ' v V ∧ (∀ j, j ≠ H.nx → γ' j = γ j) ∧ H'.nx = H.nx + 1 := by
          unfold eApp2 at hq
          have key : sApp E.ti E.conT t0 t1 u z H = some (v, H') → ∃ V γ' w', (Builtin.append_ #[t0, t1] ty #[a.eval s, a.eval x]).run P w = .ok V w' ∧ Stp γ H.m.get w γ' H'.m.get H'.nx w' ∧ VRel γ' v V ∧ (∀ j, j ≠ H.nx → γ' j = γ j) ∧ H'.nx = H.nx + 1 := fun hs =>
            sApp_ok (P := P) hE.ti hr (hρ _ _ hu) (hρ _ _ hz) hs hm ty (ts := #[t0, t1]) (args := #[a.eval s, a.eval x]) (by simp) (by simp) (by simp) (by simp)
          split at hq
          · rename_i r hr'
            cases hq
            split at hr'
            · exact key hr'
            · exact key hr'
            · exact key (bif_some hr').2
            · cases hr'
          · split at hq
            · cases hq
            · rename_i v' m hmm
              cases hq
              obtain ⟨V, γ', w', h1, h2, h3, h4⟩ := eApp_ok (P := P) hE.ti hr (i := H.nx) (nx' := H.nx + 1) (hr.fresh _ (Nat.le_refl _)) (by omega) (by omega) (hρ _ _ hu) (hρ _ _ hz) hmm (ts := #[t0, t1]) (args := #[a.eval s, a.eval x]) ty (by simp) (by simp) (by simp) (by simp)
              exact ⟨V, γ', w', h1, h2, h3, h4, rfl⟩
        obtain ⟨V, γ', w', h1, h2, h3, h4, h5⟩ := happ
        refine val V w' ?_ (hK V w' γ' h3 ⟨h2, by omega, fun b hb => h4 b (by omega)⟩)
        simp [execOp, resolve, invoke, builtin, h1]
  · rename_i d x t0 ts
    split at hq
    · cases hq
    · rename_i u hu
      split at hq
      · cases hq
      · rename_i z hz
        split at hq
        · cases hq
        · rename_i v' m hmm
          cases hq
          obtain ⟨V, w', h1, h2, h3⟩ := eCopy_ok (P := P) hE.ti hr (hρ _ _ hu) (hρ _ _ hz) hmm (ts := ⟨t0 :: ts⟩) (args := #[a.eval d, a.eval x]) ty (by simp) (by simp) (by simp)
          refine val V w' ?_ (hK V w' γ h3 ⟨h2, Nat.le_refl _, fun _ _ => rfl⟩)
          simp [execOp, resolve, invoke, builtin, h1]
  · rename_i p n pt it
    split at hq
    · cases hq
    · rename_i u hu
      split at hq
      · cases hq
      · rename_i z hz
        split at hq
        · cases hq
        · rename_i v' m hmm
          cases hq
          obtain ⟨V, w', h1, h2, h3⟩ := eStr_ok (P := P) (it := it) (ty := ty) hE.ti hr (hρ _ _ hu) (hρ _ _ hz) hmm
          refine val V w' ?_ (hK V w' γ h3 ⟨h2, Nat.le_refl _, fun _ _ => rfl⟩)
          simp [execOp, resolve, invoke, builtin, h1]
  · rename_i f args ts
    split at hq
    · rename_i g caps hf
      split at hq
      · cases hq
      · rename_i vs hvs
        have hV := evs_ok hρ hvs
        have hF := hρ _ _ hf
        generalize hFv : a.eval f = Fv at hF
        cases hF with
        | fn _ hcaps =>
          rename_i Caps
          cases hne : Nat.beq g E.noesc with
          | true =>
            simp only [hne, cond_true] at hq
            have hg := beq_eq hne
            split at hq
            · rename_i v0
              cases hq
              have hlen := hV.length
              simp only [List.length_map, List.length_cons, List.length_nil, Nat.zero_add] at hlen
              obtain ⟨a0, rfl⟩ := List.length_eq_one_iff.1 hlen
              cases hcaps
              simp only [List.map_cons, List.map_nil] at hV
              cases hV with
              | cons hv _ =>
                refine val (a.eval a0) w ?_ (hK _ w γ hv (RunR.refl hr))
                have := hE.noesc (a.eval a0) w
                rw [← hg] at this
                simp [execOp, resolve, hFv, Deferred.ofValue, invoke, this]
            · cases hq
          | false =>
            simp only [hne, cond_false] at hq
            have hcall := (hc _ _ _ _ _ hq).2 hm γ w _ hr (hV.append hcaps) hgl
            obtain ⟨⟨fn, hfn, hbody⟩, hcalls⟩ := hcall
            have hx : (execOp a.eval ⟨dst, .call ⟨.value f, ⟨args⟩, ts⟩, ty, pos, after, guard⟩).run P w = .ok (.enter g ((args.map a.eval) ++ Caps).toArray) w := by
              have hn := hE.names _ _ hfn
              have hn' : fn.name ≠ "runtime.NumGoroutine" := by intro e; rw [e] at hn; simp at hn
              have hb : fn.body ≠ none := by intro e; rw [e] at hbody; cases hbody
              simp [execOp, resolve, hFv, Deferred.ofValue, invoke, callFunc, hfn, hn', hb]
            unfold Oper.wp
            rw [hx, Oper.upon_enter]
            refine hcalls.mono ?_
            rintro e w' ⟨V, γ', rfl, h1, h2⟩
            exact hK V w' γ' h1 h2
    · cases hq
  · cases hq

theorem evOne_ok {o : Oper} {H H' : Hs} {v : AV} {ρ : Operand → Option AV} {γ : Gm} {w : World} {a : Act} (hr : HRel γ H.m.get H.nx w) (hρ : ∀ x v, ρ x = some v → VRel γ v (a.eval x)) (hgl : Glob E.ng γ) (hq : evOne E call ρ o.op o.type H = some (v, H')) (hm : ∀ p ∈ H'.ms, p)
    {K : Act → World → Prop} {Q : Exit → Act → World → Prop} (hK : ∀ V w' γ', VRel γ' v V → RunR γ H w γ' H' w' → K (a.put o.dst V) w') : o.wp P a w K Q := by
  unfold evOne at hq
  split at hq
  · split at hq
    · cases hq
    · rename_i u ms hu
      cases hq
      obtain ⟨V, h1, h2⟩ := evS_ok (P := P) hE.ti hE.lz hr hρ hu (fun p hp => hm p (by simp [Hs.must, hp]))
      unfold Oper.wp
      rw [h1, Oper.upon_value]
      exact hK V w γ h2 ⟨Stp.refl hr, Nat.le_refl _, fun _ _ => rfl⟩
  · split at hq
    · cases hq
    · rename_i k hk
      split at hq
      · cases hq
      · rename_i m hmm
        cases hq
        obtain ⟨V, w', h1, h2, h3⟩ := evA_ok (P := P) hE.ti hr hρ (i := H.nx) (nx' := H.nx + 1) (hr.fresh _ (Nat.le_refl _)) (by omega) (by omega) hk
        unfold Oper.wp
        rw [h1, Oper.upon_value]
        refine hK V w' _ h3 ⟨?_, by simp, fun b hb => Gm.put_other _ _ (by omega)⟩
        show Stp γ H.m.get w _ m.get (H.nx + 1) w'
        rw [get_set_upd hmm]
        exact h2
  · exact evAct_ok hE hc hr hρ hgl hq hm hK

/- a region in the order of the text -/
theorem evOps_ok {all : Array Oper} {N : Nat} {Q : Exit → Act → World → Prop} : ∀ (l : List Oper) (is : List Nat), is.map (fun i => all[i]?) = l.map some →
    ∀ (T T' : Tr AV) (H H' : Hs), evOps E call all N l T H = some (T', H') → (∀ p ∈ H'.ms, p) → ∀ (γ : Gm) (a : Act) (w : World), FRel γ E.ng T N a → HRel γ H.m.get H.nx w →
    (∀ a' w' γ', FRel γ' E.ng T' N a' → RunR γ H w γ' H' w' → Q .normal a' w') → wpOps P all Q is a w := by
  intro l
  induction l with
  | nil =>
    intro is his T T' H H' hq hm γ a w hf hr hQ
    simp only [List.map_nil, List.map_eq_nil_iff] at his
    subst his
    simp only [evOps, Option.some.injEq, Prod.mk.injEq] at hq
    obtain ⟨rfl, rfl⟩ := hq
    exact hQ a w γ hf (RunR.refl hr)
  | cons o l ih =>
    intro is his T T' H H' hq hm γ a w hf hr hQ
    cases is with
    | nil => simp at his
    | cons i is =>
      simp only [List.map_cons, List.cons.injEq] at his
      obtain ⟨hi, his⟩ := his
      simp only [evOps] at hq
      have hkn := (bif_some hq).1
      replace hq := (bif_some hq).2
      simp only [wpOps, hi]
      rw [wantedA_ok hf all o hkn]
      cases hw : wantedA all N T o with
      | true =>
        simp only [hw, cond_true] at hq
        simp only [if_true]
        split at hq
        · cases hq
        · rename_i v H1 hone
          split at hq
          · cases hq
          · rename_i T1 hput
            have hms := evOps_ms hc _ _ _ _ _ hq
            generalize hfo : forceV (guardsAt all o.dst) v H1.tp = r at hq hput hms
            obtain ⟨u, tp, ms⟩ := r
            refine .inl (evOne_ok hE hc hr (evo_ok hf) hf.glob hone (fun p hp => hm p (hms p (by simp [hp]))) ?_)
            intro V w' γ' hv hrun
            have hv := forceV_ok hfo (fun p hp => hm p (hms p (by simp [hp]))) γ' V hv
            refine ih is his T1 T' { H1 with tp := tp, ms := ms ++ H1.ms } H' hq hm γ' _ w' (put_ok (hf.mono hrun.stp.le) hv hput) hrun.stp.rel ?_
            intro a' w'' γ'' hf' hrun'
            exact hQ a' w'' γ'' hf' ⟨hrun.stp.trans hrun'.stp, Nat.le_trans hrun.nx hrun'.nx, fun b hb => (hrun'.keep b (Nat.lt_of_lt_of_le hb hrun.nx)).trans (hrun.keep b hb)⟩
      | false =>
        simp only [hw, cond_false] at hq
        simp only [Bool.false_eq_true, if_false]
        split at hq
        · cases hq
        · rename_i T1 hput
          exact ih is his T1 T' H H' hq hm γ _ w (put_ok hf (.tup .nil) hput) hr hQ

end

theorem range_all (all : Array Oper) : (List.range all.size).map (fun i => all[i]?) = all.toList.map some := by
  apply List.ext_getElem?
  intro i
  simp only [List.getElem?_map]
  by_cases h : i < all.size
  · simp [h]
  · simp [h, List.getElem?_eq_none (show (List.range all.size).length ≤ i by simp; omega)]

end Go.QfSy
