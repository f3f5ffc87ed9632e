/- The quiet operations on open terms, joined. -/
import Derived.Test.YtejmmglffmckeaaGreatDoorZT
set_option linter.unusedSimpArgs false
set_option linter.unusedVariables false
namespace Go.QfSy

/- a bound of a slice expression -/
def sBnd (x : Option AV) (d y : Nat) : Option (Nat × List Prop) :=
  match x with
  | none => some (d, [])
  | some v => match clr v with
    | .int _ j => some (j.toNat, [0 ≤ j ∧ j ≤ (y : Int)])
    | _ => none

theorem sBnd_ok {P : Program} {γ : Gm} {w : World} {x : Option AV} {X : Option Value} (h : OptRel γ x X) {d y r : Nat} {ms : List Prop} (hb : sBnd x d y = some (r, ms)) (hm : ∀ p ∈ ms, p) : (X = none ∧ r = d) ∨ ∃ k i, X = some (.int k i) ∧ (0 ≤ i ∧ i ≤ (y : Int)) ∧ r = i.toNat := by
  unfold sBnd at hb
  cases x with
  | none =>
    cases X with
    | none => simp at hb; exact .inl ⟨rfl, hb.1.symm⟩
    | some V => simp [OptRel] at h
  | some v =>
    cases X with
    | none => simp [OptRel] at h
    | some V =>
      have hv := VRel.clr h
      simp only at hb
      split at hb
      · rename_i k j hc
        rw [hc] at hv
        cases hv
        cases hb
        exact .inr ⟨k, j, rfl, all_one hm, rfl⟩
      · cases hb

def isZ : Option AV → Bool
  | some (.int _ j) => decide (j = 0)
  | _ => false
def isNoZ : Option AV → Bool
  | none => true
  | some (.int _ j) => decide (j = 0)
  | _ => false

def sSlice (ti : Tr TypeInfo) (t : Nat) (x : AV) (lo hi mx : Option AV) : Option (AV × List Prop) :=
  match und ti t with
  | some (.slice e) => match x with
    | .ro n sz row => match szT ti e with
      | none => none
      | some z => bif Nat.beq z sz then
          (match mx with
          | none => match sBnd hi n n with
            | none => none
            | some (h, m1) => match sBnd lo 0 h with
              | none => none
              | some (l, m2) => some (.ro (h - l) sz (fun i => row (i + l)), m1 ++ m2)
          | some _ => bif isNoZ lo && isZ hi && isZ mx then some (.z0, []) else none)
        else none
    | _ => none
  | some .string => match clr x with
    | .str s => match mx with
      | none => match sBnd hi s.size s.size with
        | none => none
        | some (h, m1) => match sBnd lo 0 h with
          | none => none
          | some (l, m2) => some (.vstr (s.extract l h), m1 ++ m2)
      | some _ => none
    | _ => none
  | _ => none

theorem isZ_ok {γ : Gm} {x : Option AV} {X : Option Value} (h : OptRel γ x X) (hz : isZ x = true) : ∃ k, X = some (.int k 0) := by
  unfold isZ at hz
  split at hz
  · rename_i k j
    have := of_decide_eq_true hz
    subst this
    cases X with
    | none => simp [OptRel] at h
    | some V => cases h; exact ⟨k, rfl⟩
  · cases hz
theorem isNoZ_ok {γ : Gm} {x : Option AV} {X : Option Value} (h : OptRel γ x X) (hz : isNoZ x = true) : X = none ∨ ∃ k, X = some (.int k 0) := by
  unfold isNoZ at hz
  split at hz
  · cases X with
    | none => exact .inl rfl
    | some V => simp [OptRel] at h
  · rename_i k j
    have := of_decide_eq_true hz
    subst this
    cases X with
    | none => simp [OptRel] at h
    | some V => cases h; exact .inr ⟨k, rfl⟩
  · cases hz

theorem split2 {m1 m2 : List Prop} (h : ∀ p ∈ m1 ++ m2, p) : (∀ p ∈ m1, p) ∧ (∀ p ∈ m2, p) := ⟨fun p hp => h p (by simp [hp]), fun p hp => h p (by simp [hp])⟩

section
variable {P : Program} {ti : Tr TypeInfo} (ht : TabOk P ti) {γ : Gm} {w : World}

theorem sBounds {sl : Bool} {lo hi : Option Value} {n c h l : Nat} (hh : (hi = none ∧ h = n) ∨ ∃ k i, hi = some (.int k i) ∧ (0 ≤ i ∧ i ≤ (n : Int)) ∧ h = i.toNat) (hl : (lo = none ∧ l = 0) ∨ ∃ k i, lo = some (.int k i) ∧ (0 ≤ i ∧ i ≤ (h : Int)) ∧ l = i.toNat) (hc : n ≤ c) :
    (Instr.sliceBounds sl n c lo hi none).run P w = .ok (l, h, c) w := by
  rcases hh with ⟨rfl, rfl⟩ | ⟨k, i, rfl, hi1, rfl⟩
  · rcases hl with ⟨rfl, rfl⟩ | ⟨k', i', rfl, hi2, rfl⟩
    · simp [Instr.sliceBounds]
    · simp [Instr.sliceBounds, Instr.sliceBound, asIntOf, hi2]
  · have e1 : 0 ≤ i ∧ i ≤ (c : Int) := ⟨hi1.1, by omega⟩
    rcases hl with ⟨rfl, rfl⟩ | ⟨k', i', rfl, hi2, rfl⟩
    · simp [Instr.sliceBounds, Instr.sliceBound, asIntOf, e1]
    · have e2 : 0 ≤ i' ∧ i' ≤ (i.toNat : Int) := hi2
      have e3 : 0 ≤ i' ∧ i' ≤ max i 0 := by omega
      simp [Instr.sliceBounds, Instr.sliceBound, asIntOf, e1, e2, e3]

include ht in
theorem sSlice_ok {t : Nat} {x v : AV} {ms : List Prop} {X : Value} (hx : VRel γ x X) {lo hi mx : Option AV} {LO HI MX : Option Value} (hl : OptRel γ lo LO) (hh : OptRel γ hi HI) (hmx : OptRel γ mx MX) (hq : sSlice ti t x lo hi mx = some (v, ms)) (hm : ∀ p ∈ ms, p) :
    ∃ V, (Instr.slice t X LO HI MX).run P w = .ok V w ∧ VRel γ v V := by
  unfold sSlice at hq
  split at hq
  · rename_i e hd
    split at hq
    · rename_i n sz row
      split at hq
      · cases hq
      · rename_i z hz
        obtain ⟨hb, hq⟩ := bif_some hq
        have hb := beq_eq hb
        subst hb
        split at hq
        · have hMX : MX = none := by
            cases MX with
            | none => rfl
            | some V => simp [OptRel] at hmx
          subst hMX
          split at hq
          · cases hq
          · rename_i h m1 h1
            split at hq
            · cases hq
            · rename_i l m2 h2
              cases hq
              obtain ⟨hm1, hm2⟩ := split2 hm
              have b1 := sBnd_ok (P := P) (w := w) hh h1 hm1
              have b2 := sBnd_ok (P := P) (w := w) hl h2 hm2
              have hhn : h ≤ n := by rcases b1 with ⟨_, rfl⟩ | ⟨_, i, _, hi, rfl⟩ <;> omega
              have hlh : l ≤ h := by rcases b2 with ⟨_, rfl⟩ | ⟨_, i, _, hi, rfl⟩ <;> omega
              cases hx with
              | ro hR =>
                cases hR with
                | sl0 _ _ a c hn =>
                  subst hn
                  refine ⟨.slice (if c = l then a else a.map (·.add (l * z))) (h - l) (c - l), ?_, ?_⟩
                  · simp [Instr.slice, run_und ht hd, sBounds b1 b2 (Nat.zero_le c), run_sizeOf ht hz]
                  · have e : h - l = 0 := by omega
                    rw [e]
                    exact .ro (.sl0 _ _ _ _ rfl)
                | sl cs hc hlen hf hrow =>
                  rename_i B o c
                  refine ⟨.slice (if c = l then some ⟨B, o, none⟩ else (some (⟨B, o, none⟩ : Addr)).map (·.add (l * z))) (h - l) (c - l), ?_, ?_⟩
                  · simp [Instr.slice, run_und ht hd, sBounds b1 b2 hc, run_sizeOf ht hz]
                  · by_cases e : c = l
                    · have e0 : h - l = 0 := by omega
                      rw [e0]
                      exact .ro (.sl0 _ _ _ _ rfl)
                    · rw [if_neg e]
                      simp only [Option.map_some, addr_add]
                      refine .ro (.sl (fun i => cs (i + l)) (by omega) (fun i hi => hlen _ (by omega)) (fun i j v hi hv => ?_) (fun i hi => hrow _ (by omega)))
                      have := hf (i + l) j v (by omega) hv
                      rwa [show o + (i + l) * z + j = o + l * z + i * z + j by rw [Nat.add_mul]; omega] at this
        · rename_i mv
          obtain ⟨hb, hq⟩ := bif_some hq
          cases hq
          obtain ⟨hb1, b3⟩ := and_split hb
          obtain ⟨b1, b2⟩ := and_split hb1
          obtain ⟨kh, rfl⟩ := isZ_ok hh b2
          obtain ⟨km, rfl⟩ := isZ_ok hmx b3
          cases hx with
          | ro hR =>
            have key : ∀ (a : Option Addr) (n c : Nat), (Instr.slice t (.slice a n c) LO (some (.int kh 0)) (some (.int km 0))).run P w = .ok (.slice a 0 0) w := by
              intro a n c
              rcases isNoZ_ok hl b1 with rfl | ⟨kl, rfl⟩
              · simp [Instr.slice, run_und ht hd, Instr.sliceBounds, Instr.sliceBound, asIntOf, run_sizeOf ht hz]
              · simp [Instr.slice, run_und ht hd, Instr.sliceBounds, Instr.sliceBound, asIntOf, run_sizeOf ht hz]
            cases hR with
            | sl0 _ _ a c hn => exact ⟨_, key _ _ _, .z0 _⟩
            | sl cs hc hlen hf hrow => exact ⟨_, key _ _ _, .z0 _⟩
    · cases hq
  · rename_i hd
    have hxc := hx.clr
    split at hq
    · rename_i s hs
      rw [hs] at hxc
      cases hxc
      split at hq
      · have hMX : MX = none := by
          cases MX with
          | none => rfl
          | some V => simp [OptRel] at hmx
        subst hMX
        split at hq
        · cases hq
        · rename_i h m1 h1
          split at hq
          · cases hq
          · rename_i l m2 h2
            cases hq
            obtain ⟨hm1, hm2⟩ := split2 hm
            have b1 := sBnd_ok (P := P) (w := w) hh h1 hm1
            have b2 := sBnd_ok (P := P) (w := w) hl h2 hm2
            refine ⟨.string (s.extract l h), ?_, .vstr _⟩
            simp [Instr.slice, run_und ht hd, sBounds b1 b2 (Nat.le_refl s.size)]
      · cases hq
    · cases hq
  · cases hq

/- numbers -/
def sBin (ti : Tr TypeInfo) (op : BinOp) (t : Nat) (xo yo : Operand) (x y : AV) : Option (AV × List Prop) :=
  match op, clr x, clr y with
  | .quo, .int k a, .int k' b => bif decide (k = k') then some (.vint k (k.wrap (a.tdiv b)), [b ≠ 0]) else none
  | .rem, .int k a, .int k' b => bif decide (k = k') then some (.vint k (a.tmod b), [b ≠ 0]) else none
  | .add, .str a, .str b => some (.vstr (a ++ b), [a.size + b.size ≤ 1000000])
  | op, u, v => match qBin ti op t xo yo u v with
    | none => none
    | some r => some (tnt r, [])

include ht in
theorem sBin_ok {op : BinOp} {t : Nat} {xo yo : Operand} {x y v : AV} {ms : List Prop} {X Y : Value} (hx : VRel γ x X) (hy : VRel γ y Y) (hq : sBin ti op t xo yo x y = some (v, ms)) (hm : ∀ p ∈ ms, p) :
    ∃ V, ((do eqGuard op t xo yo X Y; binOp op t X Y : Sem Value)).run P w = .ok V w ∧ VRel γ v V := by
  have hx := hx.clr
  have hy := hy.clr
  unfold sBin at hq
  split at hq
  · rename_i k a k' b h1 h2
    rw [h1] at hx
    rw [h2] at hy
    cases hx
    cases hy
    obtain ⟨hk, hq'⟩ := bif_some hq
    have hk := of_decide_eq_true hk
    clear hq
    subst hk
    cases hq'
    have := all_one hm
    exact ⟨.int k (k.wrap (a.tdiv b)), by simp [go_sem, binOp, Op.intDiv, this], .vint _ _⟩
  · rename_i k a k' b h1 h2
    rw [h1] at hx
    rw [h2] at hy
    cases hx
    cases hy
    obtain ⟨hk, hq'⟩ := bif_some hq
    have hk := of_decide_eq_true hk
    clear hq
    subst hk
    cases hq'
    have := all_one hm
    exact ⟨.int k (a.tmod b), by simp [go_sem, binOp, Op.intDiv, this], .vint _ _⟩
  · rename_i a b h1 h2
    rw [h1] at hx
    rw [h2] at hy
    cases hx
    cases hy
    cases hq
    have := all_one hm
    refine ⟨.string (a ++ b), ?_, .vstr _⟩
    have h3 : ¬ (((a.size + b.size : Nat) : Int) > IntKind.i64.max) := by rw [IntKind.max_i64]; omega
    have h4 : ¬ (IntKind.i64.max < (a.size : Int) + (b.size : Int)) := by rw [IntKind.max_i64]; omega
    simp [go_sem, binOp, Op.stringOp, h3, h4]
    omega
  · split at hq
    · cases hq
    · rename_i r hr
      cases hq
      obtain ⟨V, h1, h2⟩ := qBin_ok (P := P) ht w hx hy hr
      exact ⟨V, h1, h2.tnt⟩

/- a byte of a string -/
def sIndex (ti : Tr TypeInfo) (t : Nat) (x i : AV) : Option (AV × List Prop) :=
  match und ti t, clr x, clr i with
  | some .string, .str s, .int _ j => some (.vint .u8 ((s[j.toNat]?.getD 0).toNat : Int), [0 ≤ j ∧ j.toNat < s.size])
  | _, _, _ => none

include ht in
theorem sIndex_ok {t : Nat} {x i v : AV} {ms : List Prop} {X I : Value} (hx : VRel γ x X) (hi : VRel γ i I) (hq : sIndex ti t x i = some (v, ms)) (hm : ∀ p ∈ ms, p) : ∃ V, (Instr.index t X I).run P w = .ok V w ∧ VRel γ v V := by
  have hx := hx.clr
  have hi := hi.clr
  unfold sIndex at hq
  split at hq
  · rename_i s k j hd h1 h2
    rw [h1] at hx
    rw [h2] at hi
    cases hx
    cases hi
    cases hq
    obtain ⟨hj0, hj⟩ := all_one hm
    have : s[j.toNat]? = some s[j.toNat] := by simp [hj]
    exact ⟨.int .u8 s[j.toNat].toNat, by simp [Instr.index, asIntOf, run_und ht hd, hj0, this], by rw [this]; exact .vint _ _⟩
  · cases hq

/- length -/
def sLen (ti : Tr TypeInfo) (t : Nat) (x : AV) : Option AV :=
  match und ti t, x with
  | some .string, .vstr s => some (.vint .i64 s.size)
  | some (.slice _), .ro n _ _ => some (.vint .i64 n)
  | some (.slice _), .lo _ n => some (.vint .i64 n)
  | some (.slice _), .z0 => some (.int .i64 0)
  | _, _ => none

include ht in
theorem sLen_ok {t ty : Nat} {ts : Array TypeId} (hts : ts[0]? = some t) {x v : AV} {X : Value} {Xs : Array Value} (hXs : Xs[0]? = some X) (hx : VRel γ x X) (hq : sLen ti t x = some v) :
    ∃ V, (Builtin.len_ ts ty Xs).run P w = .ok V w ∧ VRel γ v V := by
  unfold sLen at hq
  split at hq
  · rename_i s hd
    cases hx; cases hq
    exact ⟨_, by simp [Builtin.len_, hts, hXs, run_und ht hd, goInt], .vint _ _⟩
  · rename_i e n _ _ hd
    cases hq
    cases hx with
    | ro h =>
      cases h with
      | sl0 _ _ a c hn => subst hn; exact ⟨_, by simp [Builtin.len_, hts, hXs, run_und ht hd, goInt], .vint _ _⟩
      | sl cs hc hlen hf hrow => exact ⟨_, by simp [Builtin.len_, hts, hXs, run_und ht hd, goInt], .vint _ _⟩
  · rename_i e n _ hd
    cases hx; cases hq
    exact ⟨_, by simp [Builtin.len_, hts, hXs, run_und ht hd, goInt], .vint _ _⟩
  · rename_i e hd
    cases hx; cases hq
    exact ⟨_, by simp [Builtin.len_, hts, hXs, run_und ht hd, goInt], .int _ _⟩
  · cases hq
end

/- the operations in which something is open; none where the closed ones serve -/
def evO1 (ti : Tr TypeInfo) (h : Tr Blk) (ρ : Operand → Option AV) (op : Op) (ty : Nat) : Option (AV × List Prop) :=
  match op with
  | .load t a => match ρ a with
    | some (.rp cs j) => sLoad ti h t (.rp cs j)
    | some (.lp b i z j) => sLoad ti h t (.lp b i z j)
    | _ => none
  | .nilCheck x => match ρ x with
    | some (.rp cs j) => some (.rp cs j, [])
    | some (.lp b i z j) => some (.lp b i z j, [])
    | _ => none
  | .binOp op t x y _ => match ρ x, ρ y with
    | some u, some v => bif isT u || isT v then sBin ti op t x y u v else none
    | _, _ => none
  | .unOp op _ x => match ρ x with
    | some u => bif isT u then (match qUn op (clr u) with | none => none | some r => some (tnt r, [])) else none
    | _ => none
  | .convert s d x => match ρ x with
    | some (.vint _ n) => match und ti s, und ti d with
      | some _, some (.int k) => some (.vint k (k.wrap n), [])
      | _, _ => none
    | some (.vstr z) => match und ti s, und ti d with
      | some _, some .string => some (.vstr z, [])
      | _, _ => none
    | _ => none
  | .slice t x lo hi mx => match ρ x with
    | some (.ro n sz row) => match evO ρ lo, evO ρ hi, evO ρ mx with
      | some l, some e, some m => sSlice ti t (.ro n sz row) l e m
      | _, _, _ => none
    | some (.vstr s) => match evO ρ lo, evO ρ hi, evO ρ mx with
      | some l, some e, some m => sSlice ti t (.vstr s) l e m
      | _, _, _ => none
    | _ => none
  | .fieldAddr s x f => match ρ x with
    | some (.rp cs j) => match sFieldAddr ti s (.rp cs j) f with
      | none => none
      | some r => some (r, [])
    | some (.lp b i z j) => match sFieldAddr ti s (.lp b i z j) f with
      | none => none
      | some r => some (r, [])
    | _ => none
  | .indexAddr t x i => match ρ x, ρ i with
    | some (.ro n sz row), some v => sIndexAddr ti t (.ro n sz row) v
    | some (.lo b n), some v => sIndexAddr ti t (.lo b n) v
    | some (.rp cs j), some v => sIndexAddr ti t (.rp cs j) v
    | some u, some (.vint k n) => sIndexAddr ti t u (.vint k n)
    | _, _ => none
  | .index t x i => match ρ x, ρ i with
    | some u, some v => bif isT u || isT v then sIndex ti t u v else none
    | _, _ => none
  | .call ⟨.builtin .len, ⟨[x]⟩, ⟨t :: _⟩⟩ => match ρ x with
    | none => none
    | some u => match sLen ti t u with
      | none => none
      | some r => some (r, [])
  | .call ⟨.builtin .min, ⟨xs⟩, ts⟩ => match evs ρ xs with
    | none => none
    | some vs => bif vs.any isT then (match intsV (vs.map clr) with
      | none => none
      | some us => match ofPure (Builtin.min_ ts ty us.toArray) with
        | none => none
        | some r => some (tnt r, [])) else none
  | .call ⟨.builtin .max, ⟨xs⟩, ts⟩ => match evs ρ xs with
    | none => none
    | some vs => bif vs.any isT then (match intsV (vs.map clr) with
      | none => none
      | some us => match ofPure (Builtin.max_ ts ty us.toArray) with
        | none => none
        | some r => some (tnt r, [])) else none
  | _ => none

def evS (ti : Tr TypeInfo) (lz : Nat → Nat → Nat → Nat → Bool) (h : Tr Blk) (ρ : Operand → Option AV) (op : Op) (ty : Nat) : Option (AV × List Prop) :=
  match evO1 ti h ρ op ty with
  | some r => some r
  | none => match evQ ti lz h ρ op ty with
    | none => none
    | some v => some (v, [])

theorem VsRel.clr {γ : Gm} {vs : List AV} {Vs : List Value} (h : VsRel γ vs Vs) : VsRel γ (vs.map clr) Vs := by
  induction vs generalizing Vs with
  | nil => cases h; exact .nil
  | cons v vs ih => cases h with | cons h t => exact .cons h.clr (ih t)

theorem evO1_ok {P : Program} {ti : Tr TypeInfo} (ht : TabOk P ti) {γ : Gm} {h : Tr Blk} {nx : Nat} {w : World} (hr : HRel γ h.get nx w) {ρ : Operand → Option AV} {R : Operand → Value} (hρ : ∀ x v, ρ x = some v → VRel γ v (R x)) {o : Oper} {v : AV} {ms : List Prop}
    (hq : evO1 ti h ρ o.op o.type = some (v, ms)) (hm : ∀ p ∈ ms, p) : ∃ V, (execOp R o).run P w = .ok (.value V) w ∧ VRel γ v V := by
  obtain ⟨dst, op, ty, pos, after, guard⟩ := o
  simp only at hq
  unfold evO1 at hq
  split at hq
  · rename_i t a
    have key : ∀ x, ρ a = some x → sLoad ti h t x = some (v, ms) → ∃ V, (execOp R ⟨dst, .load t a, ty, pos, after, guard⟩).run P w = .ok (.value V) w ∧ VRel γ v V := by
      intro x hx hs
      obtain ⟨V, ad, h1, h2, h3⟩ := sLoad_ok ht hr (hρ _ _ hx) hs hm
      exact ⟨V, by simp [execOp, Instr.loadAt, h1, Instr.sureAddr, h2], h3⟩
    split at hq
    · rename_i hx; exact key _ hx hq
    · rename_i hx; exact key _ hx hq
    · cases hq
  · rename_i x
    split at hq
    · rename_i cs j hx
      cases hq
      have h1 := hρ _ _ hx
      generalize hR : R x = X at h1
      cases h1 with
      | rp h hf => exact ⟨_, by simp [execOp, hR], .rp h hf⟩
    · rename_i b i z j hx
      cases hq
      have h1 := hρ _ _ hx
      generalize hR : R x = X at h1
      cases h1 with
      | lp _ _ _ hg => exact ⟨_, by simp [execOp, hR], .lp _ _ _ hg⟩
    · cases hq
  · rename_i op t x y p
    split at hq
    · rename_i u v' hx hy
      obtain ⟨_, hq⟩ := bif_some hq
      obtain ⟨V, h1, h2⟩ := sBin_ok (P := P) ht (w := w) (hρ _ _ hx) (hρ _ _ hy) hq hm
      refine ⟨V, ?_, h2⟩
      show ((do let r ← (do eqGuard op t x y (R x) (R y); binOp op t (R x) (R y) : Sem Value); pure (Next.value r)) : Sem Next).run P w = _
      rw [Sem.run_bind, h1]
      rfl
    · cases hq
  · rename_i op t x
    split at hq
    · rename_i u hx
      obtain ⟨_, hq⟩ := bif_some hq
      split at hq
      · cases hq
      · rename_i r hr'
        cases hq
        obtain ⟨V, h1, h2⟩ := qUn_ok (P := P) w (hρ _ _ hx).clr hr'
        exact ⟨V, by simp [execOp, h1], h2.tnt⟩
    · cases hq
  · rename_i s d x
    split at hq
    · rename_i k0 n hx
      split at hq
      · rename_i d0 k h1 h2
        cases hq
        have h3 := hρ _ _ hx
        cases hR : R x <;> rw [hR] at h3 <;> cases h3
        exact ⟨_, by simp [execOp, hR, convert, run_und ht h1, run_und ht h2, Conv.intToInt], .vint _ _⟩
      · cases hq
    · rename_i z hx
      split at hq
      · rename_i d0 h1 h2
        cases hq
        have h3 := hρ _ _ hx
        cases hR : R x <;> rw [hR] at h3 <;> cases h3
        exact ⟨_, by simp [execOp, hR, convert, run_und ht h1, run_und ht h2], .vstr _⟩
      · cases hq
    · cases hq
  · rename_i t x lo hi mx
    have key : ∀ u, ρ x = some u → (match evO ρ lo, evO ρ hi, evO ρ mx with
      | some l, some e, some m => sSlice ti t u l e m
      | _, _, _ => none) = some (v, ms) → ∃ V, (execOp R ⟨dst, .slice t x lo hi mx, ty, pos, after, guard⟩).run P w = .ok (.value V) w ∧ VRel γ v V := by
      intro u hx hs
      split at hs
      · rename_i l e m h1 h2 h3
        obtain ⟨V, g1, g2⟩ := sSlice_ok (P := P) ht (w := w) (hρ _ _ hx) (evO_ok hρ h1) (evO_ok hρ h2) (evO_ok hρ h3) hs hm
        refine ⟨V, ?_, g2⟩
        have hd : ∃ d, und ti t = some d ∧ ∀ n el, d ≠ .array n el := by
          unfold sSlice at hs
          split at hs
          · rename_i el hd; exact ⟨_, hd, by simp⟩
          · rename_i hd; exact ⟨_, hd, by simp⟩
          · cases hs
        obtain ⟨d, hd, hna⟩ := hd
        have g0 : (Instr.sliceAt t (R x) (Option.map R lo) (Option.map R hi) (Option.map R mx)).run P w = .ok V w := by
          unfold Instr.sliceAt
          simp only [Sem.run_bind, run_und ht hd, Result.andThen_ok]
          cases d <;> first | exact g1 | exact absurd rfl (hna _ _)
        simp [execOp, g0]
      · cases hs
    split at hq
    · rename_i hx; exact key _ hx hq
    · rename_i hx; exact key _ hx hq
    · cases hq
  · rename_i s x f
    have key : ∀ u, ρ x = some u → (match sFieldAddr ti s u f with
      | none => none
      | some r => some (r, [])) = some (v, ms) → ∃ V, (execOp R ⟨dst, .fieldAddr s x f, ty, pos, after, guard⟩).run P w = .ok (.value V) w ∧ VRel γ v V := by
      intro u hx hs
      split at hs
      · cases hs
      · rename_i r hr'
        cases hs
        obtain ⟨V, g1, g2⟩ := sFieldAddr_ok (P := P) ht (w := w) (hρ _ _ hx) hr'
        exact ⟨V, by simp [execOp, g1], g2⟩
    split at hq
    · rename_i hx; exact key _ hx hq
    · rename_i hx; exact key _ hx hq
    · cases hq
  · rename_i t x i
    have key : ∀ u y, ρ x = some u → ρ i = some y → sIndexAddr ti t u y = some (v, ms) → ∃ V, (execOp R ⟨dst, .indexAddr t x i, ty, pos, after, guard⟩).run P w = .ok (.value V) w ∧ VRel γ v V := by
      intro u y hx hi hs
      obtain ⟨V, g1, g2⟩ := sIndexAddr_ok (P := P) ht w (hρ _ _ hx) (hρ _ _ hi) hs hm
      exact ⟨V, by simp [execOp, g1], g2⟩
    split at hq
    · rename_i hx hi; exact key _ _ hx hi hq
    · rename_i hx hi; exact key _ _ hx hi hq
    · rename_i hx hi; exact key _ _ hx hi hq
    · rename_i hx hi; exact key _ _ (by assumption) (by assumption) hq
    · cases hq
  · rename_i t x i
    split at hq
    · rename_i u y hx hi
      obtain ⟨_, hq⟩ := bif_some hq
      obtain ⟨V, g1, g2⟩ := sIndex_ok (P := P) ht (w := w) (hρ _ _ hx) (hρ _ _ hi) hq hm
      exact ⟨V, by simp [execOp, g1], g2⟩
    · cases hq
  · rename_i x t ts
    split at hq
    · cases hq
    · rename_i u hx
      split at hq
      · cases hq
      · rename_i r hr'
        cases hq
        obtain ⟨V, g1, g2⟩ := sLen_ok (P := P) ht (w := w) (ty := ty) (ts := ⟨t :: ts⟩) (by simp) (Xs := #[R x]) (by simp) (hρ _ _ hx) hr'
        exact ⟨V, by simp [execOp, resolve, invoke, builtin, g1], g2⟩
  · rename_i xs ts
    split at hq
    · cases hq
    · rename_i vs hvs
      obtain ⟨_, hq⟩ := bif_some hq
      split at hq
      · cases hq
      · rename_i us hus
        split at hq
        · cases hq
        · rename_i r hr'
          cases hq
          have hV := intsV_ok (evs_ok hρ hvs).clr hus
          obtain ⟨V, h1, h2⟩ := ofPure_ok γ hr'
          refine ⟨V, ?_, h2.tnt⟩
          have e2 : Array.map R ⟨xs⟩ = us.toArray := by rw [← hV]; simp
          simp [execOp, resolve, invoke, builtin, e2, h1]
  · rename_i xs ts
    split at hq
    · cases hq
    · rename_i vs hvs
      obtain ⟨_, hq⟩ := bif_some hq
      split at hq
      · cases hq
      · rename_i us hus
        split at hq
        · cases hq
        · rename_i r hr'
          cases hq
          have hV := intsV_ok (evs_ok hρ hvs).clr hus
          obtain ⟨V, h1, h2⟩ := ofPure_ok γ hr'
          refine ⟨V, ?_, h2.tnt⟩
          have e2 : Array.map R ⟨xs⟩ = us.toArray := by rw [← hV]; simp
          simp [execOp, resolve, invoke, builtin, e2, h1]
  · cases hq

theorem evS_ok {P : Program} {ti : Tr TypeInfo} (ht : TabOk P ti) {lz : Nat → Nat → Nat → Nat → Bool} (hlz : LiesOk P lz) {γ : Gm} {h : Tr Blk} {nx : Nat} {w : World} (hr : HRel γ h.get nx w) {ρ : Operand → Option AV} {R : Operand → Value} (hρ : ∀ x v, ρ x = some v → VRel γ v (R x)) {o : Oper} {v : AV} {ms : List Prop}
    (hq : evS ti lz h ρ o.op o.type = some (v, ms)) (hm : ∀ p ∈ ms, p) : ∃ V, (execOp R o).run P w = .ok (.value V) w ∧ VRel γ v V := by
  unfold evS at hq
  split at hq
  · rename_i r hr'
    cases hq
    exact evO1_ok ht hr hρ hr' hm
  · split at hq
    · cases hq
    · rename_i u hu
      cases hq
      exact evQ_ok ht hlz hr hρ hu
end Go.QfSy
