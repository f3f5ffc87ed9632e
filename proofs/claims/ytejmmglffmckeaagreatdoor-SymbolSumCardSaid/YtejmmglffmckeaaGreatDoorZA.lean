/- A symbolic machine over values whose addresses are names and whose numbers may be open terms: its data, and what they stand for in the model's worlds. -/
import Derived.Laws.AppendOwn
import Derived.Orders
import Derived.KernelRfl
set_option linter.unusedSimpArgs false
set_option linter.unusedVariables false
namespace Go.QfSy

/- a map from numbers -/
inductive Tr (α : Type) where
  | nil : Tr α
  | node (v : Option α) (l r : Tr α) : Tr α

namespace Tr
variable {α : Type}

def get : Tr α → Nat → Option α
  | nil, _ => none
  | node v l r, n =>
    match n with
    | 0 => v
    | m + 1 => bif Nat.beq (m % 2) 0 then l.get (m / 2) else r.get (m / 2)

def setF : Nat → Tr α → Nat → Option α → Tr α
  | 0, t, _, _ => t
  | f + 1, t, n, v =>
    match t with
    | nil =>
      match n with
      | 0 => node v nil nil
      | m + 1 => bif Nat.beq (m % 2) 0 then node none (setF f nil (m / 2) v) nil else node none nil (setF f nil (m / 2) v)
    | node u l r =>
      match n with
      | 0 => node v l r
      | m + 1 => bif Nat.beq (m % 2) 0 then node u (setF f l (m / 2) v) r else node u l (setF f r (m / 2) v)

theorem get_setF : ∀ (f : Nat) (t : Tr α) (n m : Nat) (v : Option α), n + 1 < 2 ^ f → (setF f t n v).get m = if m = n then v else t.get m
  | 0, t, n, m, v, h => by simp at h
  | f + 1, t, n, m, v, h => by
    have ih := fun (t : Tr α) (n m : Nat) (h : n + 1 < 2 ^ f) => get_setF f t n m v h
    have hb : ∀ k, k + 1 + 1 < 2 ^ (f + 1) → k / 2 + 1 < 2 ^ f := by
      intro k hk
      rw [Nat.pow_succ] at hk
      omega
    have key : ∀ a b : Nat, (Nat.beq (a % 2) 0 = Nat.beq (b % 2) 0) → (a / 2 = b / 2 ↔ a = b) := by
      intro a b hab
      have : (a % 2 = 0) ↔ (b % 2 = 0) := by
        have e : ∀ c : Nat, c = 0 ↔ Nat.beq c 0 = true := fun c => ⟨fun h => by rw [h]; rfl, Nat.eq_of_beq_eq_true⟩
        rw [e, e, hab]
      omega
    cases t with
    | nil =>
      cases n with
      | zero => cases m <;> simp [setF, get]
      | succ n =>
        simp only [setF]
        cases hn : Nat.beq (n % 2) 0 with
        | true =>
          simp only [cond_true]
          cases m with
          | zero => simp [get]
          | succ m =>
            simp only [get]
            cases hm : Nat.beq (m % 2) 0 with
            | true => simp only [cond_true, ih _ _ _ (hb _ h), key m n (by rw [hm, hn])]; simp [get]
            | false =>
              have : m ≠ n := by intro e; rw [e, hn] at hm; cases hm
              simp [get, this]
        | false =>
          simp only [cond_false]
          cases m with
          | zero => simp [get]
          | succ m =>
            simp only [get]
            cases hm : Nat.beq (m % 2) 0 with
            | false => simp only [cond_false, ih _ _ _ (hb _ h), key m n (by rw [hm, hn])]; simp [get]
            | true =>
              have : m ≠ n := by intro e; rw [e, hn] at hm; cases hm
              simp [get, this]
    | node u l r =>
      cases n with
      | zero => cases m <;> simp [setF, get]
      | succ n =>
        simp only [setF]
        cases hn : Nat.beq (n % 2) 0 with
        | true =>
          simp only [cond_true]
          cases m with
          | zero => simp [get]
          | succ m =>
            simp only [get]
            cases hm : Nat.beq (m % 2) 0 with
            | true => simp only [cond_true, ih _ _ _ (hb _ h), key m n (by rw [hm, hn])]; simp
            | false =>
              have : m ≠ n := by intro e; rw [e, hn] at hm; cases hm
              simp [this]
        | false =>
          simp only [cond_false]
          cases m with
          | zero => simp [get]
          | succ m =>
            simp only [get]
            cases hm : Nat.beq (m % 2) 0 with
            | false => simp only [cond_false, ih _ _ _ (hb _ h), key m n (by rw [hm, hn])]; simp
            | true =>
              have : m ≠ n := by intro e; rw [e, hn] at hm; cases hm
              simp [this]

def top : Nat := 1000000000

/- none where the number is too great -/
def set (t : Tr α) (n : Nat) (v : Option α) : Option (Tr α) := bif Nat.ble n top then some (setF 40 t n v) else none

theorem get_set {t t' : Tr α} {n : Nat} {v : Option α} (h : t.set n v = some t') (m : Nat) : t'.get m = if m = n then v else t.get m := by
  unfold set at h
  cases hb : Nat.ble n top with
  | false => rw [hb] at h; simp at h
  | true =>
    rw [hb] at h
    simp only [cond_true, Option.some.injEq] at h
    subst h
    apply get_setF
    have := Nat.le_of_ble_eq_true hb
    simp only [top] at this
    omega

/- of a list -/
def ofList (l : List α) : Tr α := go l 0 nil
where
  go : List α → Nat → Tr α → Tr α
    | [], _, t => t
    | x :: l, i, t => go l (i + 1) (setF 40 t i (some x))

theorem get_go (l : List α) : ∀ (i : Nat) (t : Tr α) (m : Nat), i + l.length + 1 < 2 ^ 40 → (ofList.go l i t).get m = if i ≤ m ∧ m < i + l.length then l[m - i]? else t.get m := by
  induction l with
  | nil => intro i t m _; simp only [ofList.go, List.length_nil, Nat.add_zero]; rw [if_neg (by omega)]
  | cons x l ih =>
    intro i t m hi
    simp only [List.length_cons] at hi
    simp only [ofList.go]
    rw [ih (i + 1) _ m (by omega), get_setF 40 t i m _ (by omega)]
    simp only [List.length_cons]
    by_cases h1 : i + 1 ≤ m ∧ m < i + 1 + l.length
    · rw [if_pos h1, if_pos (by omega)]
      have : m - i = (m - (i + 1)) + 1 := by omega
      rw [this, List.getElem?_cons_succ]
    · rw [if_neg h1]
      by_cases h2 : m = i
      · subst h2; rw [if_pos rfl, if_pos (by omega)]; simp
      · rw [if_neg h2, if_neg (by omega)]

theorem get_ofList (l : List α) (h : l.length < 1000000) (m : Nat) : (ofList l).get m = l[m]? := by
  unfold ofList
  rw [get_go l 0 nil m (by omega)]
  by_cases hm : m < l.length
  · rw [if_pos (by omega)]; simp
  · rw [if_neg (by omega), List.getElem?_eq_none (by omega)]; rfl

end Tr

/- values that are only read: the rows of a slice are the cells of its elements -/
inductive RV where
  | bool (b : Bool)
  | int (k : IntKind) (n : Int)
  | str (s : ByteArray)
  | sl (n sz : Nat) (row : Nat → List RV)
  | agg (vs : List RV)
  | tup (vs : List RV)
  deriving Inhabited

/- the abstract values; vbool, vint, vstr are open terms; ro is a slice that is only read, rp an address in one of its elements; lo is a list that was made here, lp an address in it -/
inductive AV where
  | vbool (b : Bool)
  | vint (k : IntKind) (n : Int)
  | vstr (s : ByteArray)
  | ro (n sz : Nat) (row : Nat → List RV)
  | rp (cs : List RV) (j : Nat)
  | lo (b n : Nat)
  | lp (b i z j : Nat)
  | z0
  | bool (b : Bool)
  | int (k : IntKind) (n : Int)
  | str (s : ByteArray)
  | ptr (b o : Nat)
  | nilp
  | slc (b o n c : Nat)
  | nils
  | emp
  | zer
  | fn (f : Nat) (vs : List AV)
  | nilfn
  | ifc (t : Nat) (v : AV)
  | nilif
  | agg (vs : List AV)
  | tup (vs : List AV)
  deriving Inhabited

def AV.one : AV → Bool
  | .agg _ | .tup _ => false
  | _ => true

def AV.cells : AV → List AV
  | .agg cs => cs
  | v => [v]

/- blocks that stay as they are -/
abbrev Fz := Nat → Option Obj
def FzAt (F : Fz) (B o : Nat) (v : Value) : Prop := ∃ cs el fr, F B = some (.cells cs el fr) ∧ cs[o]? = some v
def Fz.le (F F' : Fz) : Prop := ∀ B x, F B = some x → F' B = some x
theorem FzAt.mono {F F' : Fz} (h : F.le F') {B o : Nat} {v : Value} (k : FzAt F B o v) : FzAt F' B o v := by
  obtain ⟨cs, el, fr, h1, h2⟩ := k
  exact ⟨cs, el, fr, h _ _ h1, h2⟩

mutual
inductive RRel (F : Fz) : RV → Value → Prop
  | bool (b : Bool) : RRel F (.bool b) (.bool b)
  | int (k : IntKind) (n : Int) : RRel F (.int k n) (.int k n)
  | str (s : ByteArray) : RRel F (.str s) (.string s)
  | sl0 {n : Nat} (sz : Nat) (row : Nat → List RV) (a : Option Addr) (c : Nat) (hn : n = 0) : RRel F (.sl n sz row) (.slice a 0 c)
  | sl {n sz B o c : Nat} {row : Nat → List RV} (cs : Nat → List Value) (hc : n ≤ c) (hl : ∀ i, i < n → (cs i).length = sz) (hf : ∀ i j v, i < n → (cs i)[j]? = some v → FzAt F B (o + i * sz + j) v) (h : ∀ i, i < n → RsRel F (row i) (cs i)) : RRel F (.sl n sz row) (.slice (some ⟨B, o, none⟩) n c)
  | agg {vs : List RV} {Vs : List Value} (h : RsRel F vs Vs) : RRel F (.agg vs) (.agg Vs.toArray)
  | tup {vs : List RV} {Vs : List Value} (h : RsRel F vs Vs) : RRel F (.tup vs) (.tuple Vs.toArray)
inductive RsRel (F : Fz) : List RV → List Value → Prop
  | nil : RsRel F [] []
  | cons {v : RV} {V : Value} {vs : List RV} {Vs : List Value} (h : RRel F v V) (t : RsRel F vs Vs) : RsRel F (v :: vs) (V :: Vs)
end

mutual
theorem RRel.mono {F F' : Fz} (hg : F.le F') {v : RV} {V : Value} (h : RRel F v V) : RRel F' v V := by
  cases h with
  | bool b => exact .bool b
  | int k n => exact .int k n
  | str s => exact .str s
  | sl0 sz row a c hn => exact .sl0 sz row a c hn
  | sl cs hc hl hf h => exact .sl cs hc hl (fun i j v hi hv => (hf i j v hi hv).mono hg) (fun i hi => RsRel.mono hg (h i hi))
  | agg h => exact .agg (RsRel.mono hg h)
  | tup h => exact .tup (RsRel.mono hg h)
theorem RsRel.mono {F F' : Fz} (hg : F.le F') {vs : List RV} {Vs : List Value} (h : RsRel F vs Vs) : RsRel F' vs Vs := by
  cases h with
  | nil => exact .nil
  | cons h t => exact .cons (RRel.mono hg h) (RsRel.mono hg t)
end

/- where the blocks lie, and how many elements of unknown capacity stand behind them; the blocks that stay as they are -/
structure Gm where
  nm : Nat → Option (Nat × Nat)
  fz : Fz
instance : CoeFun Gm (fun _ => Nat → Option (Nat × Nat)) := ⟨Gm.nm⟩

mutual
inductive VRel (γ : Gm) : AV → Value → Prop
  | vbool (b : Bool) : VRel γ (.vbool b) (.bool b)
  | vint (k : IntKind) (n : Int) : VRel γ (.vint k n) (.int k n)
  | vstr (s : ByteArray) : VRel γ (.vstr s) (.string s)
  | ro {n sz : Nat} {row : Nat → List RV} {V : Value} (h : RRel γ.fz (.sl n sz row) V) : VRel γ (.ro n sz row) V
  | rp {B o j : Nat} {cs : List RV} {Cs : List Value} (h : RsRel γ.fz cs Cs) (hf : ∀ i v, Cs[i]? = some v → FzAt γ.fz B (o + i) v) : VRel γ (.rp cs j) (.pointer (some ⟨B, o + j, none⟩))
  | lo {b B x : Nat} (n : Nat) (h : γ b = some (B, x)) : VRel γ (.lo b n) (.slice (some ⟨B, 0, none⟩) n (n + x))
  | lp {b B x : Nat} (i z j : Nat) (h : γ b = some (B, x)) : VRel γ (.lp b i z j) (.pointer (some ⟨B, i * z + j, none⟩))
  | z0 (a : Option Addr) : VRel γ .z0 (.slice a 0 0)
  | bool (b : Bool) : VRel γ (.bool b) (.bool b)
  | int (k : IntKind) (n : Int) : VRel γ (.int k n) (.int k n)
  | str (s : ByteArray) : VRel γ (.str s) (.string s)
  | ptr {b B x : Nat} (o : Nat) (h : γ b = some (B, x)) : VRel γ (.ptr b o) (.pointer (some ⟨B, o, none⟩))
  | nilp : VRel γ .nilp (.pointer none)
  | slc {b B x : Nat} (o n c : Nat) (h : γ b = some (B, x)) : VRel γ (.slc b o n c) (.slice (some ⟨B, o, none⟩) n (c + x))
  | nils : VRel γ .nils (.slice none 0 0)
  | emp (a : Option Addr) (c : Nat) : VRel γ .emp (.slice a 0 c)
  | zer (a : Addr) : VRel γ .zer (.slice (some a) 0 0)
  | fn (f : Nat) {vs : List AV} {Vs : List Value} (h : VsRel γ vs Vs) : VRel γ (.fn f vs) (.func (.func f) #[] Vs.toArray)
  | nilfn : VRel γ .nilfn .nilFunc
  | ifc (t : Nat) {v : AV} {V : Value} (h : VRel γ v V) : VRel γ (.ifc t v) (.iface t V)
  | nilif : VRel γ .nilif .nilIface
  | agg {vs : List AV} {Vs : List Value} (h : VsRel γ vs Vs) : VRel γ (.agg vs) (.agg Vs.toArray)
  | tup {vs : List AV} {Vs : List Value} (h : VsRel γ vs Vs) : VRel γ (.tup vs) (.tuple Vs.toArray)
inductive VsRel (γ : Gm) : List AV → List Value → Prop
  | nil : VsRel γ [] []
  | cons {v : AV} {V : Value} {vs : List AV} {Vs : List Value} (h : VRel γ v V) (t : VsRel γ vs Vs) : VsRel γ (v :: vs) (V :: Vs)
end

structure Gm.le (γ γ' : Gm) : Prop where
  nm : ∀ b p, γ b = some p → γ' b = some p
  fz : Fz.le γ.fz γ'.fz
theorem Gm.le_refl (γ : Gm) : γ.le γ := ⟨fun _ _ h => h, fun _ _ h => h⟩
theorem Gm.le_trans {a b c : Gm} (h : a.le b) (k : b.le c) : a.le c := ⟨fun x p hx => k.nm x p (h.nm x p hx), fun x p hx => k.fz x p (h.fz x p hx)⟩
/- one name more -/
def Gm.put (γ : Gm) (i : Nat) (v : Option (Nat × Nat)) : Gm := ⟨fun b => if b = i then v else γ.nm b, γ.fz⟩
theorem Gm.put_same (γ : Gm) (i : Nat) (v : Option (Nat × Nat)) : (γ.put i v) i = v := by simp [Gm.put]
theorem Gm.put_other (γ : Gm) {i b : Nat} (v : Option (Nat × Nat)) (h : b ≠ i) : (γ.put i v) b = γ b := by simp [Gm.put, h]

mutual
theorem VRel.mono {γ γ' : Gm} (hg : γ.le γ') {v : AV} {V : Value} (h : VRel γ v V) : VRel γ' v V := by
  cases h with
  | vbool b => exact .vbool b
  | vint k n => exact .vint k n
  | vstr s => exact .vstr s
  | ro h => exact .ro (h.mono hg.fz)
  | rp h hf => exact .rp (h.mono hg.fz) (fun i v hv => (hf i v hv).mono hg.fz)
  | lo n h => exact .lo n (hg.nm _ _ h)
  | lp i z j h => exact .lp i z j (hg.nm _ _ h)
  | z0 a => exact .z0 a
  | bool b => exact .bool b
  | int k n => exact .int k n
  | str s => exact .str s
  | ptr o h => exact .ptr o (hg.nm _ _ h)
  | nilp => exact .nilp
  | slc o n c h => exact .slc o n c (hg.nm _ _ h)
  | nils => exact .nils
  | emp a c => exact .emp a c
  | zer a => exact .zer a
  | fn f h => exact .fn f (VsRel.mono hg h)
  | nilfn => exact .nilfn
  | ifc t h => exact .ifc t (VRel.mono hg h)
  | nilif => exact .nilif
  | agg h => exact .agg (VsRel.mono hg h)
  | tup h => exact .tup (VsRel.mono hg h)
theorem VsRel.mono {γ γ' : Gm} (hg : γ.le γ') {vs : List AV} {Vs : List Value} (h : VsRel γ vs Vs) : VsRel γ' vs Vs := by
  cases h with
  | nil => exact .nil
  | cons h t => exact .cons (VRel.mono hg h) (VsRel.mono hg t)
end

section
variable {γ : Gm}

theorem VsRel.length {vs : List AV} {Vs : List Value} (h : VsRel γ vs Vs) : Vs.length = vs.length := by
  induction vs generalizing Vs with
  | nil => cases h; rfl
  | cons v vs ih => cases h with | cons h t => simp [ih t]

theorem VsRel.get {vs : List AV} {Vs : List Value} (h : VsRel γ vs Vs) (i : Nat) : (vs[i]? = none ∧ Vs[i]? = none) ∨ ∃ v V, vs[i]? = some v ∧ Vs[i]? = some V ∧ VRel γ v V := by
  induction vs generalizing Vs i with
  | nil => cases h; exact .inl ⟨by simp, by simp⟩
  | cons v vs ih =>
    cases h with
    | cons h t =>
      cases i with
      | zero => exact .inr ⟨_, _, by simp, by simp, h⟩
      | succ i => simpa using ih t i

theorem VsRel.append {vs us : List AV} {Vs Us : List Value} (h : VsRel γ vs Vs) (k : VsRel γ us Us) : VsRel γ (vs ++ us) (Vs ++ Us) := by
  induction vs generalizing Vs with
  | nil => cases h; simpa using k
  | cons v vs ih => cases h with | cons h t => exact .cons h (ih t)

theorem VsRel.take {vs : List AV} {Vs : List Value} (h : VsRel γ vs Vs) (n : Nat) : VsRel γ (vs.take n) (Vs.take n) := by
  induction vs generalizing Vs n with
  | nil => cases h; simp; exact .nil
  | cons v vs ih =>
    cases h with
    | cons h t =>
      cases n with
      | zero => simp; exact .nil
      | succ n => exact .cons h (ih t n)

theorem VsRel.drop {vs : List AV} {Vs : List Value} (h : VsRel γ vs Vs) (n : Nat) : VsRel γ (vs.drop n) (Vs.drop n) := by
  induction vs generalizing Vs n with
  | nil => cases h; simp; exact .nil
  | cons v vs ih =>
    cases h with
    | cons h t =>
      cases n with
      | zero => exact .cons h t
      | succ n => exact ih t n

theorem VRel.one {v : AV} {V : Value} (h : VRel γ v V) : V.oneCell' = v.one := by
  cases h with
  | ro h => cases h <;> rfl
  | _ => rfl

theorem VRel.cells {v : AV} {V : Value} (h : VRel γ v V) : VsRel γ v.cells V.cells.toList := by
  cases h with
  | agg h => simpa [Value.cells, AV.cells] using h
  | vbool b => exact .cons (.vbool b) .nil
  | vint k n => exact .cons (.vint k n) .nil
  | vstr s => exact .cons (.vstr s) .nil
  | ro h => cases h with
    | sl0 _ _ _ _ hn => exact .cons (.ro (.sl0 _ _ _ _ (by assumption))) .nil
    | sl cs hc hl hf h => exact .cons (.ro (.sl cs hc hl hf h)) .nil
  | rp h hf => exact .cons (.rp h hf) .nil
  | lo n h => exact .cons (.lo n h) .nil
  | lp i z j h => exact .cons (.lp i z j h) .nil
  | z0 a => exact .cons (.z0 a) .nil
  | bool b => exact .cons (.bool b) .nil
  | int k n => exact .cons (.int k n) .nil
  | str s => exact .cons (.str s) .nil
  | ptr o h => exact .cons (.ptr o h) .nil
  | nilp => exact .cons .nilp .nil
  | slc o n c h => exact .cons (.slc o n c h) .nil
  | nils => exact .cons .nils .nil
  | emp a c => exact .cons (.emp a c) .nil
  | zer a => exact .cons (.zer a) .nil
  | fn f h => exact .cons (.fn f h) .nil
  | nilfn => exact .cons .nilfn .nil
  | ifc t h => exact .cons (.ifc t h) .nil
  | nilif => exact .cons .nilif .nil
  | tup h => exact .cons (.tup h) .nil

theorem VsRel.ones {vs : List AV} {Vs : List Value} (h : VsRel γ vs Vs) (ho : vs.all AV.one = true) : ∀ V ∈ Vs, V.oneCell' = true := by
  induction vs generalizing Vs with
  | nil => cases h; simp
  | cons v vs ih =>
    cases h with
    | cons h t =>
      simp only [List.all_cons, Bool.and_eq_true] at ho
      intro V hV
      rcases List.mem_cons.1 hV with rfl | hV
      · rw [h.one]; exact ho.1
      · exact ih t ho.2 V hV

theorem VsRel.snoc {vs : List AV} {Vs : List Value} {v : AV} {V : Value} (h : VsRel γ vs Vs) (k : VRel γ v V) : VsRel γ (vs ++ [v]) (Vs ++ [V]) := h.append (.cons k .nil)
end

end Go.QfSy
