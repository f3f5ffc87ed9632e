/- Loops of a function by their places; names of new lists found by themselves. -/
import Derived.Test.YtejmmglffmckeaaGreatDoorZQ
set_option linter.unusedSimpArgs false
set_option linter.unusedVariables false
namespace Go.QfSy
open Go.RowKit

mutual
def pairV : AV → AV → List (Nat × Nat)
  | .lo c _, .lo b _ => [(c, b)]
  | .ptr c _, .ptr b _ => [(c, b)]
  | .slc c _ _ _, .slc b _ _ _ => [(c, b)]
  | .lp c _ _ _, .lp b _ _ _ => [(c, b)]
  | .agg vs, .agg us => pairVs vs us
  | .tup vs, .tup us => pairVs vs us
  | .fn _ vs, .fn _ us => pairVs vs us
  | _, _ => []
def pairVs : List AV → List AV → List (Nat × Nat)
  | v :: vs, u :: us => pairV v u ++ pairVs vs us
  | _, _ => []
end
def pairT (T : Tr AV) : List (Nat × AV) → List (Nat × Nat)
  | [] => []
  | (t, v) :: l => (match T.get t with
    | none => []
    | some u => pairV v u) ++ pairT T l
def pairM (base : Nat) (m : Tr Blk) : List (Nat × Blk) → List (Nat × Nat)
  | [] => []
  | (b, k) :: l => (bif Nat.blt b base then (match m.get b with
    | none => []
    | some k' => match k.view, k'.view with
      | .plain cs, .plain cs' => pairVs cs cs'
      | _, _ => []) else []) ++ pairM base m l
def dedup (base : Nat) : List (Nat × Nat) → List (Nat × Nat) → List (Nat × Nat)
  | [], acc => acc
  | (c, b) :: l, acc => bif Nat.blt c base || acc.any (fun p => Nat.beq p.1 c) then dedup base l acc else dedup base l ((c, b) :: acc)
def autoRn (base : Nat) (x : Option (AEx × Tr AV × Hs)) (S : St) : List (Nat × Nat) := match x with
  | none => []
  | some (_, T, H) => dedup base (pairT T S.T ++ pairM base H.m S.m) []
def outA (x : Option (AEx × Tr AV × Hs)) (e : AEx) (S : St) (base : Nat) : Option (List Prop) := outS x e S base (autoRn base x S)

/- the body of the loop at a place -/
def bodyAt (fn : Func) (p : List Nat) : Code := match fn.body with
  | none => .skip
  | some c => match subC p.reverse c with
    | some (.loop b) => b
    | _ => .skip

def loL : List (List Nat × Ann) → List Nat → Option Ann
  | [], _ => none
  | (p, A) :: l, q => bif beqL p q then some A else loL l q
theorem beqL_eq : ∀ {p q : List Nat}, beqL p q = true → p = q
  | [], [], _ => rfl
  | [], _ :: _, h => by cases h
  | _ :: _, [], h => by cases h
  | a :: p, b :: q, h => by
    simp only [beqL, Bool.and_eq_true] at h
    rw [beq_eq h.1, beqL_eq h.2]
theorem loL_mem : ∀ {l : List (List Nat × Ann)} {q : List Nat} {A : Ann}, loL l q = some A → (q, A) ∈ l
  | [], _, _, h => by cases h
  | (p, B) :: l, q, A, h => by
    simp only [loL] at h
    cases hb : beqL p q with
    | true => rw [hb] at h; cases h; rw [beqL_eq hb]; exact List.mem_cons_self
    | false => rw [hb] at h; exact List.mem_cons_of_mem _ (loL_mem h)
theorem bodyAt_eq {fn : Func} {c : Code} (hc : fn.body = some c) {p : List Nat} {b : Code} (h : subC p.reverse c = some (.loop b)) : bodyAt fn p = b := by
  unfold bodyAt
  rw [hc]
  simp only [h]
theorem loL_ok {P : Program} {ng N : Nat} {fn : Func} {c : Code} (hc : fn.body = some c) {l : List (List Nat × Ann)} (h : ∀ x ∈ l, AnnOk P ng N (bodyAt fn x.1) x.2) : LoOk P ng N (loL l) c := by
  intro p A b hl hs
  have := h _ (loL_mem hl)
  rw [bodyAt_eq hc hs] at this
  exact this

def isLoop (fn : Func) (p : List Nat) : Bool := match fn.body with
  | none => false
  | some c => match subC p.reverse c with
    | some (.loop _) => true
    | _ => false
theorem isLoop_ok {fn : Func} {p : List Nat} (h : isLoop fn p = true) : ∃ c, fn.body = some c ∧ subC p.reverse c = some (.loop (bodyAt fn p)) := by
  unfold isLoop at h
  split at h
  · cases h
  · rename_i c hc
    split at h
    · rename_i b hb
      exact ⟨c, hc, by rw [bodyAt_eq hc hb]; exact hb⟩
    · cases h

/- the loop at place p of fn, out of runs of its body -/
theorem ann_of {P : Program} {E : Env} (hE : EnvOk P E) {call : CallF} (hc : CallOk P E.ng call) {fn : Func} {N : Nat} {inner : List (List Nat × Ann)} (hin : ∀ x ∈ inner, AnnOk P E.ng N (bodyAt fn x.1) x.2) {p : List Nat} (hp : isLoop fn p = true) {A : Ann} (hng : Nat.ble E.ng A.pre.nx = true)
    {ι : Type} (S : ι → St) (μ : ι → Nat) (I : Bool → ι → Prop)
    (hstart : ∀ d, TestOk A d → ∃ i ms, outA (some (.normal, trOf A.pre.T, stH A.pre [])) .normal (S i) A.pre.nx = some ms ∧ allP ms ∧ I d i)
    (hbody : ∀ d, TestOk A d → ∀ i, I d i → ∃ tp,
      (∃ j ms, outA (evCode E call (loL inner) N 100000 (0 :: p) (bodyAt fn p) (trOf (S i).T) (stH (S i) tp)) .normal (S j) A.pre.nx = some ms ∧ allP ms ∧ μ j < μ i ∧ I d j) ∨
      (∃ ms, outA (evCode E call (loL inner) N 100000 (0 :: p) (bodyAt fn p) (trOf (S i).T) (stH (S i) tp)) (A.post d).1 (A.post d).2 A.pre.nx = some ms ∧ allP ms ∧ beqE (A.post d).1 .normal = false)) : AnnOk P E.ng N (bodyAt fn p) A := by
  obtain ⟨c, h1, h2⟩ := isLoop_ok hp
  refine ann_of_body hE hc (loL_ok h1 hin) h2 hng S μ I (fun d hd => ?_) (fun d hd i hi => ?_)
  · obtain ⟨i, ms, h3, h4, h5⟩ := hstart d hd
    exact ⟨i, _, ms, h3, h4, h5⟩
  · obtain ⟨tp, h⟩ := hbody d hd i hi
    refine ⟨tp, ?_⟩
    rcases h with ⟨j, ms, h3, h4⟩ | ⟨ms, h3, h4⟩
    · exact .inl ⟨j, _, ms, h3, h4⟩
    · exact .inr ⟨_, ms, h3, h4⟩

/- a contract out of a run of the body of f with loops told -/
theorem pure_run {P : Program} {E : Env} (hE : EnvOk P E) {call : CallF} (hcall : CallOk P E.ng call) {f : Nat} {fn : Func} (hf : P.funcs[f]? = some fn) {A : List RV} {N : Nat} (hN : N = Nat.max (RV.avl A).length fn.ntmps) {l : List (List Nat × Ann)} (hl : ∀ x ∈ l, AnnOk P E.ng N (bodyAt fn x.1) x.2) {tabs : List Tb} (hg : tabs.all (fun t => Nat.blt t.g E.ng) = true) (hok : okNames (tabList tabs) = true) (hng : Nat.ble E.ng 1000 = true)
    {R : RV} {tp : List Bool} {ms : List Prop} (h : outR (bodyF E call (loL l) f (RV.avl A) ⟨trOf (tabList tabs), 1000, tp, []⟩) R = some ms) (hm : allP ms) : PureC P tabs f A R :=
  pure_of_run hE hcall (fun fn' c h1 h2 => by
    rw [hf] at h1
    cases h1
    subst hN
    exact loL_ok h2 hl) hg hok hng h hm

theorem none_ann {P : Program} {ng N : Nat} {fn : Func} : ∀ x ∈ ([] : List (List Nat × Ann)), AnnOk P ng N (bodyAt fn x.1) x.2 := fun x h => (nomatch h)
theorem one_ann {P : Program} {ng N : Nat} {fn : Func} {p : List Nat} {A : Ann} (h : AnnOk P ng N (bodyAt fn p) A) : ∀ x ∈ [(p, A)], AnnOk P ng N (bodyAt fn x.1) x.2 := fun x hx => by rw [List.mem_singleton.1 hx]; exact h
theorem cons_ann {P : Program} {ng N : Nat} {fn : Func} {p : List Nat} {A : Ann} {l : List (List Nat × Ann)} (h : AnnOk P ng N (bodyAt fn p) A) (hl : ∀ x ∈ l, AnnOk P ng N (bodyAt fn x.1) x.2) : ∀ x ∈ (p, A) :: l, AnnOk P ng N (bodyAt fn x.1) x.2 := fun x hx => by
  rcases List.mem_cons.1 hx with e | hx
  · rw [e]; exact h
  · exact hl x hx

/- a closed call that returns true -/
def isT0 : Option (AV × Hs) → Bool
  | some (.bool true, ⟨_, _, _, []⟩) => true
  | _ => false
theorem pure_true {P : Program} {E : Env} (hE : EnvOk P E) {call : CallF} (hcall : CallOk P E.ng call) {f : Nat} {A : List RV} {tabs : List Tb} (hg : tabs.all (fun t => Nat.blt t.g E.ng) = true) (hok : okNames (tabList tabs) = true) (hng : Nat.ble E.ng 1000 = true)
    (h : isT0 (bodyF E call noLo f (RV.avl A) ⟨trOf (tabList tabs), 1000, [], []⟩) = true) : PureC P tabs f A (.bool true) := by
  unfold isT0 at h
  split at h
  · rename_i m nx tp heq
    refine pure_of_run hE hcall (fun _ _ _ _ => noLo_ok _ _ _ _) hg hok hng (tp := []) (ms := [true = true]) ?_ rfl
    rw [heq]
    rfl
  · cases h

/- decisions put together -/
theorem ct {α : Type} {c : Bool} {a b : α} (h : c = true) : (bif c then a else b) = a := by rw [h]; rfl
theorem cf {α : Type} {c : Bool} {a b : α} (h : c = false) : (bif c then a else b) = b := by rw [h]; rfl
theorem dN {c v : Bool} (h : c = v) : (!c) = !v := by rw [h]
theorem dT {c v : Bool} (h : c = v) : (true == c) = v := by rw [h]; cases v <;> rfl
theorem dR {c v : Bool} (h : c = v) : (c == true) = v := by rw [h]; cases v <;> rfl
theorem dF {c v : Bool} (h : c = v) : (false == c) = !v := by rw [h]; cases v <;> rfl
theorem dG {c v : Bool} (h : c = v) : (c == false) = !v := by rw [h]; cases v <;> rfl

/- a list of constituents, read -/
def roC (L : List Con) : RV := .sl L.length 5 (fun i => (L.getD i Con.zero).rvs)
end Go.QfSy
