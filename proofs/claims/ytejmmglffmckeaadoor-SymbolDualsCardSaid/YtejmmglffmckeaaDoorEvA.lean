/- An abstract machine over values whose addresses are names: its data, and what they stand for in the model's worlds. -/
import Derived.Laws.AppendOwn
import Derived.Orders
import Derived.KernelRfl
set_option linter.unusedSimpArgs false
set_option linter.unusedVariables false
namespace Go.QfEv

/- a map from numbers -/
inductive Tr (α : Type) where
  | nil : Tr α
  | node (v : Option α) (l r : Tr α) : Tr α

namespace Tr
variable {α : Type}

def get : Tr α → Nat → Option α
  | nil, _ => none
  | node v l r, n =>
    match n with
    | 0 => v
    | m + 1 => bif Nat.beq (m % 2) 0 then l.get (m / 2) else r.get (m / 2)

def setF : Nat → Tr α → Nat → Option α → Tr α
  | 0, t, _, _ => t
  | f + 1, t, n, v =>
    match t with
    | nil =>
      match n with
      | 0 => node v nil nil
      | m + 1 => bif Nat.beq (m % 2) 0 then node none (setF f nil (m / 2) v) nil else node none nil (setF f nil (m / 2) v)
    | node u l r =>
      match n with
      | 0 => node v l r
      | m + 1 => bif Nat.beq (m % 2) 0 then node u (setF f l (m / 2) v) r else node u l (setF f r (m / 2) v)

theorem get_setF : ∀ (f : Nat) (t : Tr α) (n m : Nat) (v : Option α), n + 1 < 2 ^ f → (setF f t n v).get m = if m = n then v else t.get m
  | 0, t, n, m, v, h => by simp at h
  | f + 1, t, n, m, v, h => by
    have ih := fun (t : Tr α) (n m : Nat) (h : n + 1 < 2 ^ f) => get_setF f t n m v h
    have hb : ∀ k, k + 1 + 1 < 2 ^ (f + 1) → k / 2 + 1 < 2 ^ f := by
      intro k hk
      rw [Nat.pow_succ] at hk
      omega
    have key : ∀ a b : Nat, (Nat.beq (a % 2) 0 = Nat.beq (b % 2) 0) → (a / 2 = b / 2 ↔ a = b) := by
      intro a b hab
      have : (a % 2 = 0) ↔ (b % 2 = 0) := by
        have e : ∀ c : Nat, c = 0 ↔ Nat.beq c 0 = true := fun c => ⟨fun h => by rw [h]; rfl, Nat.eq_of_beq_eq_true⟩
        rw [e, e, hab]
      omega
    cases t with
    | nil =>
      cases n with
      | zero => cases m <;> simp [setF, get]
      | succ n =>
        simp only [setF]
        cases hn : Nat.beq (n % 2) 0 with
        | true =>
          simp only [cond_true]
          cases m with
          | zero => simp [get]
          | succ m =>
            simp only [get]
            cases hm : Nat.beq (m % 2) 0 with
            | true => simp only [cond_true, ih _ _ _ (hb _ h), key m n (by rw [hm, hn])]; simp [get]
            | false =>
              have : m ≠ n := by intro e; rw [e, hn] at hm; cases hm
              simp [get, this]
        | false =>
          simp only [cond_false]
          cases m with
          | zero => simp [get]
          | succ m =>
            simp only [get]
            cases hm : Nat.beq (m % 2) 0 with
            | false => simp only [cond_false, ih _ _ _ (hb _ h), key m n (by rw [hm, hn])]; simp [get]
            | true =>
              have : m ≠ n := by intro e; rw [e, hn] at hm; cases hm
              simp [get, this]
    | node u l r =>
      cases n with
      | zero => cases m <;> simp [setF, get]
      | succ n =>
        simp only [setF]
        cases hn : Nat.beq (n % 2) 0 with
        | true =>
          simp only [cond_true]
          cases m with
          | zero => simp [get]
          | succ m =>
            simp only [get]
            cases hm : Nat.beq (m % 2) 0 with
            | true => simp only [cond_true, ih _ _ _ (hb _ h), key m n (by rw [hm, hn])]; simp
            | false =>
              have : m ≠ n := by intro e; rw [e, hn] at hm; cases hm
              simp [this]
        | false =>
          simp only [cond_false]
          cases m with
          | zero => simp [get]
          | succ m =>
            simp only [get]
            cases hm : Nat.beq (m % 2) 0 with
            | false => simp only [cond_false, ih _ _ _ (hb _ h), key m n (by rw [hm, hn])]; simp
            | true =>
              have : m ≠ n := by intro e; rw [e, hn] at hm; cases hm
              simp [this]

def top : Nat := 1000000000

/- none where the number is too great -/
def set (t : Tr α) (n : Nat) (v : Option α) : Option (Tr α) := bif Nat.ble n top then some (setF 40 t n v) else none

theorem get_set {t t' : Tr α} {n : Nat} {v : Option α} (h : t.set n v = some t') (m : Nat) : t'.get m = if m = n then v else t.get m := by
  unfold set at h
  cases hb : Nat.ble n top with
  | false => rw [hb] at h; simp at h
  | true =>
    rw [hb] at h
    simp only [cond_true, Option.some.injEq] at h
    subst h
    apply get_setF
    have := Nat.le_of_ble_eq_true hb
    simp only [top] at this
    omega

/- of a list -/
def ofList (l : List α) : Tr α := go l 0 nil
where
  go : List α → Nat → Tr α → Tr α
    | [], _, t => t
    | x :: l, i, t => go l (i + 1) (setF 40 t i (some x))

theorem get_go (l : List α) : ∀ (i : Nat) (t : Tr α) (m : Nat), i + l.length + 1 < 2 ^ 40 → (ofList.go l i t).get m = if i ≤ m ∧ m < i + l.length then l[m - i]? else t.get m := by
  induction l with
  | nil => intro i t m _; simp only [ofList.go, List.length_nil, Nat.add_zero]; rw [if_neg (by omega)]
  | cons x l ih =>
    intro i t m hi
    simp only [List.length_cons] at hi
    simp only [ofList.go]
    rw [ih (i + 1) _ m (by omega), get_setF 40 t i m _ (by omega)]
    simp only [List.length_cons]
    by_cases h1 : i + 1 ≤ m ∧ m < i + 1 + l.length
    · rw [if_pos h1, if_pos (by omega)]
      have : m - i = (m - (i + 1)) + 1 := by omega
      rw [this, List.getElem?_cons_succ]
    · rw [if_neg h1]
      by_cases h2 : m = i
      · subst h2; rw [if_pos rfl, if_pos (by omega)]; simp
      · rw [if_neg h2, if_neg (by omega)]

theorem get_ofList (l : List α) (h : l.length < 1000000) (m : Nat) : (ofList l).get m = l[m]? := by
  unfold ofList
  rw [get_go l 0 nil m (by omega)]
  by_cases hm : m < l.length
  · rw [if_pos (by omega)]; simp
  · rw [if_neg (by omega), List.getElem?_eq_none (by omega)]; rfl

end Tr

/- the abstract values -/
inductive AV where
  | bool (b : Bool)
  | int (k : IntKind) (n : Int)
  | str (s : ByteArray)
  | ptr (b o : Nat)
  | nilp
  | slc (b o n c : Nat)
  | nils
  | emp
  | zer
  | fn (f : Nat) (vs : List AV)
  | nilfn
  | ifc (t : Nat) (v : AV)
  | nilif
  | agg (vs : List AV)
  | tup (vs : List AV)
  deriving Inhabited

def AV.one : AV → Bool
  | .agg _ | .tup _ => false
  | _ => true

def AV.cells : AV → List AV
  | .agg cs => cs
  | v => [v]

/- where the blocks lie, and how many elements of unknown capacity stand behind them -/
abbrev Gm := Nat → Option (Nat × Nat)

mutual
inductive VRel (γ : Gm) : AV → Value → Prop
  | bool (b : Bool) : VRel γ (.bool b) (.bool b)
  | int (k : IntKind) (n : Int) : VRel γ (.int k n) (.int k n)
  | str (s : ByteArray) : VRel γ (.str s) (.string s)
  | ptr {b B x : Nat} (o : Nat) (h : γ b = some (B, x)) : VRel γ (.ptr b o) (.pointer (some ⟨B, o, none⟩))
  | nilp : VRel γ .nilp (.pointer none)
  | slc {b B x : Nat} (o n c : Nat) (h : γ b = some (B, x)) : VRel γ (.slc b o n c) (.slice (some ⟨B, o, none⟩) n (c + x))
  | nils : VRel γ .nils (.slice none 0 0)
  | emp (a : Option Addr) (c : Nat) : VRel γ .emp (.slice a 0 c)
  | zer (a : Addr) : VRel γ .zer (.slice (some a) 0 0)
  | fn (f : Nat) {vs : List AV} {Vs : List Value} (h : VsRel γ vs Vs) : VRel γ (.fn f vs) (.func (.func f) #[] Vs.toArray)
  | nilfn : VRel γ .nilfn .nilFunc
  | ifc (t : Nat) {v : AV} {V : Value} (h : VRel γ v V) : VRel γ (.ifc t v) (.iface t V)
  | nilif : VRel γ .nilif .nilIface
  | agg {vs : List AV} {Vs : List Value} (h : VsRel γ vs Vs) : VRel γ (.agg vs) (.agg Vs.toArray)
  | tup {vs : List AV} {Vs : List Value} (h : VsRel γ vs Vs) : VRel γ (.tup vs) (.tuple Vs.toArray)
inductive VsRel (γ : Gm) : List AV → List Value → Prop
  | nil : VsRel γ [] []
  | cons {v : AV} {V : Value} {vs : List AV} {Vs : List Value} (h : VRel γ v V) (t : VsRel γ vs Vs) : VsRel γ (v :: vs) (V :: Vs)
end

def Gm.le (γ γ' : Gm) : Prop := ∀ b p, γ b = some p → γ' b = some p
theorem Gm.le_refl (γ : Gm) : γ.le γ := fun _ _ h => h
theorem Gm.le_trans {a b c : Gm} (h : a.le b) (k : b.le c) : a.le c := fun x p hx => k x p (h x p hx)

mutual
theorem VRel.mono {γ γ' : Gm} (hg : γ.le γ') {v : AV} {V : Value} (h : VRel γ v V) : VRel γ' v V := by
  cases h with
  | bool b => exact .bool b
  | int k n => exact .int k n
  | str s => exact .str s
  | ptr o h => exact .ptr o (hg _ _ h)
  | nilp => exact .nilp
  | slc o n c h => exact .slc o n c (hg _ _ h)
  | nils => exact .nils
  | emp a c => exact .emp a c
  | zer a => exact .zer a
  | fn f h => exact .fn f (VsRel.mono hg h)
  | nilfn => exact .nilfn
  | ifc t h => exact .ifc t (VRel.mono hg h)
  | nilif => exact .nilif
  | agg h => exact .agg (VsRel.mono hg h)
  | tup h => exact .tup (VsRel.mono hg h)
theorem VsRel.mono {γ γ' : Gm} (hg : γ.le γ') {vs : List AV} {Vs : List Value} (h : VsRel γ vs Vs) : VsRel γ' vs Vs := by
  cases h with
  | nil => exact .nil
  | cons h t => exact .cons (VRel.mono hg h) (VsRel.mono hg t)
end

section
variable {γ : Gm}

theorem VsRel.length {vs : List AV} {Vs : List Value} (h : VsRel γ vs Vs) : Vs.length = vs.length := by
  induction vs generalizing Vs with
  | nil => cases h; rfl
  | cons v vs ih => cases h with | cons h t => simp [ih t]

theorem VsRel.get {vs : List AV} {Vs : List Value} (h : VsRel γ vs Vs) (i : Nat) : (vs[i]? = none ∧ Vs[i]? = none) ∨ ∃ v V, vs[i]? = some v ∧ Vs[i]? = some V ∧ VRel γ v V := by
  induction vs generalizing Vs i with
  | nil => cases h; exact .inl ⟨by simp, by simp⟩
  | cons v vs ih =>
    cases h with
    | cons h t =>
      cases i with
      | zero => exact .inr ⟨_, _, by simp, by simp, h⟩
      | succ i => simpa using ih t i

theorem VsRel.append {vs us : List AV} {Vs Us : List Value} (h : VsRel γ vs Vs) (k : VsRel γ us Us) : VsRel γ (vs ++ us) (Vs ++ Us) := by
  induction vs generalizing Vs with
  | nil => cases h; simpa using k
  | cons v vs ih => cases h with | cons h t => exact .cons h (ih t)

theorem VsRel.take {vs : List AV} {Vs : List Value} (h : VsRel γ vs Vs) (n : Nat) : VsRel γ (vs.take n) (Vs.take n) := by
  induction vs generalizing Vs n with
  | nil => cases h; simp; exact .nil
  | cons v vs ih =>
    cases h with
    | cons h t =>
      cases n with
      | zero => simp; exact .nil
      | succ n => exact .cons h (ih t n)

theorem VsRel.drop {vs : List AV} {Vs : List Value} (h : VsRel γ vs Vs) (n : Nat) : VsRel γ (vs.drop n) (Vs.drop n) := by
  induction vs generalizing Vs n with
  | nil => cases h; simp; exact .nil
  | cons v vs ih =>
    cases h with
    | cons h t =>
      cases n with
      | zero => exact .cons h t
      | succ n => exact ih t n

theorem VRel.one {v : AV} {V : Value} (h : VRel γ v V) : V.oneCell' = v.one := by cases h <;> rfl

theorem VRel.cells {v : AV} {V : Value} (h : VRel γ v V) : VsRel γ v.cells V.cells.toList := by
  cases h with
  | agg h => simpa [Value.cells, AV.cells] using h
  | bool b => exact .cons (.bool b) .nil
  | int k n => exact .cons (.int k n) .nil
  | str s => exact .cons (.str s) .nil
  | ptr o h => exact .cons (.ptr o h) .nil
  | nilp => exact .cons .nilp .nil
  | slc o n c h => exact .cons (.slc o n c h) .nil
  | nils => exact .cons .nils .nil
  | emp a c => exact .cons (.emp a c) .nil
  | zer a => exact .cons (.zer a) .nil
  | fn f h => exact .cons (.fn f h) .nil
  | nilfn => exact .cons .nilfn .nil
  | ifc t h => exact .cons (.ifc t h) .nil
  | nilif => exact .cons .nilif .nil
  | tup h => exact .cons (.tup h) .nil

theorem VsRel.ones {vs : List AV} {Vs : List Value} (h : VsRel γ vs Vs) (ho : vs.all AV.one = true) : ∀ V ∈ Vs, V.oneCell' = true := by
  induction vs generalizing Vs with
  | nil => cases h; simp
  | cons v vs ih =>
    cases h with
    | cons h t =>
      simp only [List.all_cons, Bool.and_eq_true] at ho
      intro V hV
      rcases List.mem_cons.1 hV with rfl | hV
      · rw [h.one]; exact ho.1
      · exact ih t ho.2 V hV

theorem VsRel.snoc {vs : List AV} {Vs : List Value} {v : AV} {V : Value} (h : VsRel γ vs Vs) (k : VRel γ v V) : VsRel γ (vs ++ [v]) (Vs ++ [V]) := h.append (.cons k .nil)
end

end Go.QfEv
