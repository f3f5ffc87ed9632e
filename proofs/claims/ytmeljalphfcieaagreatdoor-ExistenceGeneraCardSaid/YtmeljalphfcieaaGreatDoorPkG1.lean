/- A part of the proof of ExistenceGenera: ZA, ZB, ZC, ZD, ZE, ZF, ZG, ZH, ZI, ZS, ZT, ZT2, ZU, ZV, ZW, ZW2. -/
import Derived.Laws.AppendOwn
import Derived.Orders
import Derived.KernelRfl
import Derived.Laws.StructEq
import Derived.Laws.Slices
import Derived.Lib.Builder
import Derived.Lib.UnsafeStr
import Derived.Laws.MakeOwn
import Derived.Laws.BytesArg
set_option linter.unusedSimpArgs false
set_option linter.unusedVariables false
set_option maxRecDepth 100000
open Go.IntKind renaming i64 → w6
noncomputable section
namespace Go.QfSy
section
variable {p:Prop}
abbrev om(h:p:=by omega):=h
abbrev si(h:p:=by simp):=h
abbrev de(h:p:=by decide):=h
abbrev aS(h:p:=by assumption):=h
abbrev kr{α:Sort _}{a b:α}(h:a=b:=by kernel_rfl):=h
end
abbrev aU:=@Nat.le_of_ble_eq_true
abbrev bt:=@Int.toNat_natCast
abbrev aX:=@Bool.and_eq_true
abbrev cj:=@List.getD_eq_getElem?_getD
abbrev bw:=@Option.some.injEq
abbrev bJ:=@beq_eq_false_iff_ne
abbrev aY:=@Nat.zero_le
abbrev bU:=@List.length_append
abbrev co:=@Nat.eq_of_beq_eq_true
abbrev bu:=@decide_eq_false
abbrev aZ:=@Nat.le_refl
abbrev aM:=@cond_true
abbrev bx:=@List.mem_cons
abbrev bX:=@List.all_eq_true
abbrev bA:=@Nat.lt_or_ge
abbrev eb:=@List.getElem?_eq_getElem
abbrev bg:=@cond_false
abbrev cR:=@List.length_cons
abbrev cC:=@List.not_mem_nil
abbrev cZ:=@List.mem_cons_self
abbrev bZ:=@decide_eq_true
abbrev gh:=@Int.tmod_eq_emod_of_nonneg
abbrev fG:=@Array.getElem?_eq_some_iff
abbrev eL:=@List.drop_eq_nil_of_le
abbrev dE:=@of_decide_eq_true
abbrev dU:=@List.mem_singleton
abbrev gB:=@List.getElem?_append_left
abbrev fm:=@List.length_set
abbrev cU:=@Nat.le_trans
abbrev fT:=@List.mem_cons_of_mem
abbrev b6:=@beq_iff_eq
abbrev dV:=@List.mem_append
abbrev fo:=@List.flatMap_cons
abbrev gK:=@Nat.ble_eq_true_of_le
abbrev gL:=@List.getElem?_eq_none
abbrev e9:=@beq_self_eq_true
abbrev dQ:=@Prod.mk.injEq
abbrev fp:=@List.getElem_mem
abbrev iR:=@List.take_of_length_le
abbrev gC:=@decide_eq_true_eq
abbrev il:=@Nat.mul_le_mul_right
abbrev gi:=@List.append_nil
abbrev kT:=@List.eq_nil_of_length_eq_zero
abbrev ji:=@List.mem_append_right
abbrev iD:=@List.length_nil
abbrev iS:=@List.flatMap_append
abbrev cH:=@or_false
abbrev kU:=@List.drop_eq_getElem_cons
abbrev ku:=@List.getElem?_toArray
abbrev iT:=@List.length_map
abbrev gj:=@Nat.add_zero
abbrev kv:=@List.mem_append_left
abbrev mS:=@List.getElem?_append_right
abbrev kV:=@List.take_append_drop
abbrev lV:=@List.length_pos_iff
abbrev gM:=@gt_iff_lt
abbrev gN:=@Nat.zero_add
abbrev lW:=@Nat.ne_of_beq_eq_false
abbrev gk:=@Nat.add_mul
abbrev kw:=@Nat.eq_zero_or_pos
abbrev pB:=@Int.ofNat_le
abbrev mT:=@List.getElem?_cons_zero
abbrev jj:=@List.mem_range
abbrev kW:=@Nat.le_add_right
abbrev kx:=@List.cons_append
abbrev ky:=@Int.toNat_zero
abbrev iU:=@Nat.pow_succ
abbrev lX:=@List.getElem?_drop
abbrev kz:=@Option.map_some
abbrev ry:=@List.take_append_of_le_length
abbrev lY:=@List.getElem?_map
abbrev jY:=@List.map_cons
abbrev pC:=@List.getElem?_cons_succ
abbrev jZ:=@Bool.true_and
abbrev tY:=@List.take_succ_eq_append_getElem
abbrev pD:=@Nat.dvd_of_mod_eq_zero
abbrev mU:=@List.foldl_append
abbrev mV:=@List.append_assoc
abbrev kX:=@Nat.mul_le_mul
abbrev kY:=@Bool.not_false
abbrev j0:=@List.mem_map
abbrev rz:=@List.length_replicate
abbrev lZ:=@List.foldl_cons
abbrev n5:=@Bool.false_eq_true
abbrev fH:=@if_true
abbrev kZ:=@List.all_cons
abbrev l3:=@Bool.and_false
abbrev n7:=@Bool.not_eq_true'
abbrev rA:=@Nat.succ_le_succ
abbrev n8:=@List.length_take
abbrev pE:=@Nat.lt_of_lt_of_le
abbrev pF:=@List.getElem?_take
abbrev mW:=@List.drop_zero
abbrev rB:=@Nat.pow_le_pow_right
abbrev rC:=@List.mem_of_mem_take
abbrev n9:=@List.range_succ
abbrev oc:=@List.head?_drop
abbrev og:=@Bool.or_eq_true
abbrev l4:=@Nat.zero_mul
abbrev iV:=@if_false
abbrev mX:=@Nat.lt_irrefl
abbrev rD:=@List.getElem_of_mem
abbrev pG:=@List.take_length
abbrev pH:=@List.length_drop
abbrev kA:=@Nat.mod_lt
abbrev rE:=@Nat.pos_of_ne_zero
abbrev mY:=@Nat.beq_refl
abbrev pI:=@List.nil_append
abbrev pJ:=@Bool.eq_iff_iff
abbrev oh:=@Bool.not_true
abbrev xQ:=@List.getElem?_eq_some_iff
abbrev mZ:=@decide_true
abbrev tZ:=@Array.length_toList
abbrev xR:=@Option.some.inj
abbrev xS:=@Nat.add_sub_cancel_left
abbrev CP:=@List.set_eq_take_append_cons_drop
abbrev rF:=@List.map_append
abbrev pK:=@Bool.false_or
abbrev t6:=@Nat.lt_trichotomy
abbrev t7:=@List.size_toArray
inductive Tr (α:Type)where
 |nil:Tr α
 |node (v:Option α) (l r:Tr α):Tr α
namespace Tr
variable {α:Type}
def lk (f:Nat):Nat→List Bool:=Nat.rec (motive:=fun _=>Nat→List Bool) (fun _=>[]) (fun _ ih n=>Nat.rec (motive:=fun _=>List Bool) [] (fun m _=>Nat.beq (m%2) 0::ih (m/2)) n) f
def vy (n:Nat):List Bool:=lk (n+1) n
def Jg (t:Tr α):Option α:=Tr.rec (motive:=fun _=>Option α) none (fun v _ _ _ _=>v) t
def Z0 (b:Bool)(ih:Tr α→Option α)(t:Tr α):Option α:=Tr.rec (motive:=fun _=>Option α) none (fun _ l r _ _=>ih (Bool.rec (motive:=fun _=>Tr α) r l b)) t
def iN (p:List Bool):Tr α→Option α:=List.rec (motive:=fun _=>Tr α→Option α) Jg (fun b _ ih=>Z0 b ih) p
def get (t:Tr α)(n:Nat):Option α:=iN (vy n) t
def Jh (v:Option α)(t:Tr α):Tr α:=Tr.rec (motive:=fun _=>Tr α) (.node v .nil .nil) (fun _ l r _ _=>.node v l r) t
def gb (b:Bool)(ih:Tr α→Tr α)(t:Tr α):Tr α:=Tr.rec (motive:=fun _=>Tr α) (Bool.rec (motive:=fun _=>Tr α) (.node none .nil (ih .nil)) (.node none (ih .nil) .nil) b) (fun u l r _ _=>Bool.rec (motive:=fun _=>Tr α) (.node u l (ih r)) (.node u (ih l) r) b) t
def nL (v:Option α)(p:List Bool):Tr α→Tr α:=List.rec (motive:=fun _=>Tr α→Tr α) (Jh v) (fun b _ ih=>gb b ih) p
def setF (f:Nat)(t:Tr α)(n:Nat)(v:Option α):Tr α:=nL v (lk f n) t
def wH:List Bool→Nat
 |[]=>0
 |b::p=>2*wH p+(bif b then 0 else 1)+1
theorem za:∀(f n:Nat),n<f∨n+1<2^f→wH (lk f n)=n
 |0,n,h=>by simp at h
 |f+1,0,h=>rfl
 |f+1,n+1,h=>by
  show 2*wH (lk f (n/2))+(bif Nat.beq (n%2) 0 then 0 else 1)+1=n+1
  rw[za f (n/2) (by rw[iU]at h;omega)]
  cases hb:Nat.beq (n%2) 0 with
  |true=>have:=co hb;simp only[aM];omega
  |false=>have:=lW hb;simp only[bg];omega
theorem Ej:∀(f g n:Nat),n<f∨n+1<2^f→n<g∨n+1<2^g→lk f n=lk g n
 |0,g,n,h,h'=>by simp at h
 |f+1,0,n,h,h'=>by simp at h'
 |f+1,g+1,0,h,h'=>rfl
 |f+1,g+1,n+1,h,h'=>by
  show Nat.beq (n%2) 0::lk f (n/2)=Nat.beq (n%2) 0::lk g (n/2)
  rw[Ej f g (n/2) (by rw[iU]at h;omega) (by rw[iU]at h';omega)]
theorem kD:∀p:List Bool,iN p (nil:Tr α)=none
 |[]=>rfl
 |_::_=>rfl
theorem get_nil (n:Nat):(nil:Tr α).get n=none:=kD _
theorem Ek (v:Option α):∀(p q:List Bool)(t:Tr α),iN q (nL v p t)=if q=p then v else iN q t
 |[],[],t=>by cases t<;>simp[nL,iN,Jh,Jg]
 |[],b::q,t=>by
  rw[if_neg si]
  cases t with
  |nil=>
   show iN q (Bool.rec (motive:=fun _=>Tr α) nil nil b)=none
   cases b<;>exact kD q
  |node u l r=>rfl
 |a::p,[],t=>by
  rw[if_neg si]
  cases t<;>cases a<;>rfl
 |a::p,b::q,t=>by
  have ih:=fun t=>Ek v p q t
  have hn:∀x:Tr α,iN q (nil:Tr α)=none:=fun _=>kD q
  cases a<;>cases b<;>cases t
  ·show iN q (nL v p nil)=_
   rw[ih,kD];simp[kD]
  ·rename_i u l r
   show iN q (nL v p r)=_
   rw[ih];simp;rfl
  ·show iN q nil=_
   rw[if_neg si,kD,kD]
  ·rename_i u l r
   show iN q l=_
   rw[if_neg si];rfl
  ·show iN q nil=_
   rw[if_neg si,kD,kD]
  ·rename_i u l r
   show iN q r=_
   rw[if_neg si];rfl
  ·show iN q (nL v p nil)=_
   rw[ih,kD];simp[kD]
  ·rename_i u l r
   show iN q (nL v p l)=_
   rw[ih];simp;rfl
theorem get_setF (f:Nat)(t:Tr α)(n m:Nat)(v:Option α)(h:n+1<2^f):(setF f t n v).get m=if m=n then v else t.get m:=by
 show iN (vy m) (nL v (lk f n) t)=_
 rw[Ej f (n+1) n (.inr h) (.inl om),Ek]
 by_cases hm:m=n
 ·subst hm;rw[if_pos (show vy m=lk (m+1) m from rfl),if_pos rfl]
 ·rw[if_neg hm,if_neg]
  ·rfl
  ·intro e
   have:=congrArg wH e
   unfold vy at this
   rw[za (m+1) m (.inl om),za (n+1) n (.inl om)]at this
   exact hm this
def top:Nat:=1000000000
def set (t:Tr α)(n:Nat)(v:Option α):Option (Tr α):=bif Nat.ble n top then some (setF 40 t n v)else none
theorem get_set {t t':Tr α}{n:Nat}{v:Option α}(h:t.set n v=some t')(m:Nat):t'.get m=if m=n then v else t.get m:=by
 unfold set at h
 cases hb:Nat.ble n top with
 |false=>rw[hb]at h;simp at h
 |true=>
  rw[hb]at h
  simp only[aM,bw]at h
  subst h
  apply get_setF
  have:=aU hb
  simp only[top]at this
  omega
def ofList (l:List α):Tr α:=go l 0 nil
where
 go:List α→Nat→Tr α→Tr α
  |[],_,t=>t
  |x::l,i,t=>go l (i+1) (setF 40 t i (some x))
theorem WR (l:List α):∀(i:Nat)(t:Tr α)(m:Nat),i+l.length+1<2^40→(ofList.go l i t).get m=if i≤m∧m<i+l.length then l[m-i]? else t.get m:=by
 induction l with
 |nil=>intro i t m _;simp only[ofList.go,iD,gj];rw[if_neg om]
 |cons x l ih=>
  intro i t m hi
  simp only[cR]at hi
  simp only[ofList.go]
  rw[ih (i+1) _ m om,get_setF 40 t i m _ om]
  simp only[cR]
  by_cases h1:i+1≤m∧m<i+1+l.length
  ·rw[if_pos h1,if_pos om]
   have:m-i=(m-(i+1))+1:=by omega
   rw[this,pC]
  ·rw[if_neg h1]
   by_cases h2:m=i
   ·subst h2;rw[if_pos rfl,if_pos om];simp
   ·rw[if_neg h2,if_neg om]
theorem get_ofList (l:List α)(h:l.length<1000000)(m:Nat):(ofList l).get m=l[m]? :=by
 unfold ofList
 rw[WR l 0 nil m om]
 by_cases hm:m<l.length
 ·rw[if_pos om];simp
 ·rw[if_neg om,gL om,get_nil]
end Tr
inductive RV where
 |bool (b:Bool)
 |int (k:IntKind) (n:Int)
 |str (s:ByteArray)
 |err (b:Bool)
 |sl (n sz:Nat) (row:Nat→List RV)
 |agg (vs:List RV)
 |tup (vs:List RV)
 deriving Inhabited
inductive AV where
 |vbool (b:Bool)
 |vint (k:IntKind) (n:Int)
 |vstr (s:ByteArray)
 |verr (b:Bool)
 |vnum (k:IntKind)
 |ro (n sz:Nat) (row:Nat→List RV)
 |rp (cs:List RV) (j:Nat)
 |lo (b n:Nat)
 |lp (b i z j:Nat)
 |ls (b o z n:Nat) (e:Bool)
 |z0
 |bool (b:Bool)
 |int (k:IntKind) (n:Int)
 |str (s:ByteArray)
 |ptr (b o:Nat)
 |nilp
 |slc (b o n c:Nat)
 |nils
 |emp
 |zer
 |fn (f:Nat) (vs:List AV)
 |nilfn
 |ifc (t:Nat) (v:AV)
 |nilif
 |agg (vs:List AV)
 |tup (vs:List AV)
 deriving Inhabited
def AV.one:AV→Bool
 |.agg _|.tup _=>false
 |_=>true
def AV.cells:AV→List AV
 |.agg cs=>cs
 |v=>[v]
abbrev Fz:=Nat→Option Obj
def lB (F:Fz)(B o:Nat)(v:Value):Prop:=∃cs el fr,F B=some (.cells cs el fr)∧cs[o]? =some v
def Fz.le (F F':Fz):Prop:=∀B x,F B=some x→F' B=some x
theorem lB.mono {F F':Fz}(h:F.le F'){B o:Nat}{v:Value}(k:lB F B o v):lB F' B o v:=by
 obtain⟨cs,el,fr,h1,h2⟩:=k
 exact⟨cs,el,fr,h _ _ h1,h2⟩
def vz (b:Bool)(V:Value):Prop:=(b=true∧V=.nilIface)∨(b=false∧∃t v,V=.iface t v)
mutual
inductive bW (F:Fz):RV→Value→Prop
 |bool (b:Bool):bW F (.bool b) (.bool b)
 |int (k:IntKind) (n:Int):bW F (.int k n) (.int k n)
 |str (s:ByteArray):bW F (.str s) (.string s)
 |err {b:Bool} {V:Value} (h:vz b V):bW F (.err b) V
 |sl0 {n:Nat} (sz:Nat) (row:Nat→List RV) (a:Option Addr) (c:Nat) (hn:n=0):bW F (.sl n sz row) (.slice a 0 c)
 |sl {n sz B o c:Nat} {row:Nat→List RV} (cs:Nat→List Value) (hc:n≤c) (hl:∀i,i<n→(cs i).length=sz) (hf:∀i j v,i<n→(cs i)[j]? =some v→lB F B (o+i*sz+j) v) (h:∀i,i<n→bM F (row i) (cs i)):bW F (.sl n sz row) (.slice (some ⟨B,o,none⟩) n c)
 |agg {vs:List RV} {Vs:List Value} (h:bM F vs Vs):bW F (.agg vs) (.agg Vs.toArray)
 |tup {vs:List RV} {Vs:List Value} (h:bM F vs Vs):bW F (.tup vs) (.tuple Vs.toArray)
inductive bM (F:Fz):List RV→List Value→Prop
 |nil:bM F [] []
 |cons {v:RV} {V:Value} {vs:List RV} {Vs:List Value} (h:bW F v V) (t:bM F vs Vs):bM F (v::vs) (V::Vs)
end
mutual
theorem bW.mono {F F':Fz}(hg:F.le F'){v:RV}{V:Value}(h:bW F v V):bW F' v V:=by
 cases h with
 |bool b=>exact .bool b
 |int k n=>exact .int k n
 |str s=>exact .str s
 |err h=>exact .err h
 |sl0 sz row a c hn=>exact .sl0 sz row a c hn
 |sl cs hc hl hf h=>exact .sl cs hc hl (fun i j v hi hv=>(hf i j v hi hv).mono hg) (fun i hi=>bM.mono hg (h i hi))
 |agg h=>exact .agg (bM.mono hg h)
 |tup h=>exact .tup (bM.mono hg h)
theorem bM.mono {F F':Fz}(hg:F.le F'){vs:List RV}{Vs:List Value}(h:bM F vs Vs):bM F' vs Vs:=by
 cases h with
 |nil=>exact .nil
 |cons h t=>exact .cons (bW.mono hg h) (bM.mono hg t)
end
structure Gm where
 nm:Nat→Option (Nat×Nat)
 fz:Fz
instance :CoeFun Gm (fun _=>Nat→Option (Nat×Nat)):=⟨Gm.nm⟩
mutual
inductive ap (γ:Gm):AV→Value→Prop
 |vbool (b:Bool):ap γ (.vbool b) (.bool b)
 |vint (k:IntKind) (n:Int):ap γ (.vint k n) (.int k n)
 |vstr (s:ByteArray):ap γ (.vstr s) (.string s)
 |verr {b:Bool} {V:Value} (h:vz b V):ap γ (.verr b) V
 |vnum (k:IntKind) (n:Int):ap γ (.vnum k) (.int k n)
 |ro {n sz:Nat} {row:Nat→List RV} {V:Value} (h:bW γ.fz (.sl n sz row) V):ap γ (.ro n sz row) V
 |rp {B o j:Nat} {cs:List RV} {Cs:List Value} (h:bM γ.fz cs Cs) (hf:∀i v,Cs[i]? =some v→lB γ.fz B (o+i) v):ap γ (.rp cs j) (.pointer (some ⟨B,o+j,none⟩))
 |lo {b B x:Nat} (n:Nat) (h:γ b=some (B,x)):ap γ (.lo b n) (.slice (some ⟨B,0,none⟩) n (n+x))
 |lp {b B x:Nat} (i z j:Nat) (h:γ b=some (B,x)):ap γ (.lp b i z j) (.pointer (some ⟨B,i*z+j,none⟩))
 |ls {b B x n c:Nat} {a:Option Addr} (o z:Nat) (e:Bool) (h:γ b=some (B,x)) (ha:0<n→a=some ⟨B,o*z,none⟩) (hc:n≤c) (he:e=true→c=n):ap γ (.ls b o z n e) (.slice a n c)
 |z0 (a:Option Addr):ap γ .z0 (.slice a 0 0)
 |bool (b:Bool):ap γ (.bool b) (.bool b)
 |int (k:IntKind) (n:Int):ap γ (.int k n) (.int k n)
 |str (s:ByteArray):ap γ (.str s) (.string s)
 |ptr {b B x:Nat} (o:Nat) (h:γ b=some (B,x)):ap γ (.ptr b o) (.pointer (some ⟨B,o,none⟩))
 |nilp:ap γ .nilp (.pointer none)
 |slc {b B x:Nat} (o n c:Nat) (h:γ b=some (B,x)):ap γ (.slc b o n c) (.slice (some ⟨B,o,none⟩) n (c+x))
 |nils:ap γ .nils (.slice none 0 0)
 |emp (a:Option Addr) (c:Nat):ap γ .emp (.slice a 0 c)
 |zer (a:Addr):ap γ .zer (.slice (some a) 0 0)
 |fn (f:Nat) {vs:List AV} {Vs:List Value} (h:au γ vs Vs):ap γ (.fn f vs) (.func (.func f) #[] Vs.toArray)
 |nilfn:ap γ .nilfn .nilFunc
 |ifc (t:Nat) {v:AV} {V:Value} (h:ap γ v V):ap γ (.ifc t v) (.iface t V)
 |nilif:ap γ .nilif .nilIface
 |agg {vs:List AV} {Vs:List Value} (h:au γ vs Vs):ap γ (.agg vs) (.agg Vs.toArray)
 |tup {vs:List AV} {Vs:List Value} (h:au γ vs Vs):ap γ (.tup vs) (.tuple Vs.toArray)
inductive au (γ:Gm):List AV→List Value→Prop
 |nil:au γ [] []
 |cons {v:AV} {V:Value} {vs:List AV} {Vs:List Value} (h:ap γ v V) (t:au γ vs Vs):au γ (v::vs) (V::Vs)
end
structure Gm.le (γ γ':Gm):Prop where
 nm:∀b p,γ b=some p→γ' b=some p
 fz:Fz.le γ.fz γ'.fz
theorem Gm.le_refl (γ:Gm):γ.le γ:=⟨fun _ _ h=>h,fun _ _ h=>h⟩
theorem Gm.le_trans {a b c:Gm}(h:a.le b)(k:b.le c):a.le c:=⟨fun x p hx=>k.nm x p (h.nm x p hx),fun x p hx=>k.fz x p (h.fz x p hx)⟩
def Gm.put (γ:Gm)(i:Nat)(v:Option (Nat×Nat)):Gm:=⟨fun b=>if b=i then v else γ.nm b,γ.fz⟩
theorem Gm.put_same (γ:Gm)(i:Nat)(v:Option (Nat×Nat)):(γ.put i v) i=v:=by simp[Gm.put]
theorem Gm.put_other (γ:Gm){i b:Nat}(v:Option (Nat×Nat))(h:b≠i):(γ.put i v) b=γ b:=by simp[Gm.put,h]
mutual
theorem ap.mono {γ γ':Gm}(hg:γ.le γ'){v:AV}{V:Value}(h:ap γ v V):ap γ' v V:=by
 cases h with
 |vbool b=>exact .vbool b
 |vint k n=>exact .vint k n
 |vstr s=>exact .vstr s
 |verr h=>exact .verr h
 |vnum k n=>exact .vnum k n
 |ro h=>exact .ro (h.mono hg.fz)
 |rp h hf=>exact .rp (h.mono hg.fz) (fun i v hv=>(hf i v hv).mono hg.fz)
 |lo n h=>exact .lo n (hg.nm _ _ h)
 |lp i z j h=>exact .lp i z j (hg.nm _ _ h)
 |ls o z e h ha hc he=>exact .ls o z e (hg.nm _ _ h) ha hc he
 |z0 a=>exact .z0 a
 |bool b=>exact .bool b
 |int k n=>exact .int k n
 |str s=>exact .str s
 |ptr o h=>exact .ptr o (hg.nm _ _ h)
 |nilp=>exact .nilp
 |slc o n c h=>exact .slc o n c (hg.nm _ _ h)
 |nils=>exact .nils
 |emp a c=>exact .emp a c
 |zer a=>exact .zer a
 |fn f h=>exact .fn f (au.mono hg h)
 |nilfn=>exact .nilfn
 |ifc t h=>exact .ifc t (ap.mono hg h)
 |nilif=>exact .nilif
 |agg h=>exact .agg (au.mono hg h)
 |tup h=>exact .tup (au.mono hg h)
theorem au.mono {γ γ':Gm}(hg:γ.le γ'){vs:List AV}{Vs:List Value}(h:au γ vs Vs):au γ' vs Vs:=by
 cases h with
 |nil=>exact .nil
 |cons h t=>exact .cons (ap.mono hg h) (au.mono hg t)
end
section
variable {γ:Gm}
theorem au.length {vs:List AV}{Vs:List Value}(h:au γ vs Vs):Vs.length=vs.length:=by
 induction vs generalizing Vs with
 |nil=>cases h;rfl
 |cons v vs ih=>cases h with|cons h t=>simp[ih t]
theorem au.get {vs:List AV}{Vs:List Value}(h:au γ vs Vs)(i:Nat):(vs[i]? =none∧Vs[i]? =none)∨∃v V,vs[i]? =some v∧Vs[i]? =some V∧ap γ v V:=by
 induction vs generalizing Vs i with
 |nil=>cases h;exact .inl ⟨si,si⟩
 |cons v vs ih=>
  cases h with
  |cons h t=>
   cases i with
   |zero=>exact .inr ⟨_,_,si,si,h⟩
   |succ i=>simpa using ih t i
theorem au.append {vs us:List AV}{Vs Us:List Value}(h:au γ vs Vs)(k:au γ us Us):au γ (vs++us) (Vs++Us):=by
 induction vs generalizing Vs with
 |nil=>cases h;simpa using k
 |cons v vs ih=>cases h with|cons h t=>exact .cons h (ih t)
theorem au.take {vs:List AV}{Vs:List Value}(h:au γ vs Vs)(n:Nat):au γ (vs.take n) (Vs.take n):=by
 induction vs generalizing Vs n with
 |nil=>cases h;simp;exact .nil
 |cons v vs ih=>
  cases h with
  |cons h t=>
   cases n with
   |zero=>simp;exact .nil
   |succ n=>exact .cons h (ih t n)
theorem au.drop {vs:List AV}{Vs:List Value}(h:au γ vs Vs)(n:Nat):au γ (vs.drop n) (Vs.drop n):=by
 induction vs generalizing Vs n with
 |nil=>cases h;simp;exact .nil
 |cons v vs ih=>
  cases h with
  |cons h t=>
   cases n with
   |zero=>exact .cons h t
   |succ n=>exact ih t n
theorem ap.one {v:AV}{V:Value}(h:ap γ v V):V.oneCell'=v.one:=by
 cases h with
 |ro h=>cases h<;>rfl
 |verr h=>rcases h with⟨_,rfl⟩|⟨_,_,_,rfl⟩<;>rfl
 |_=>rfl
theorem ap.cells {v:AV}{V:Value}(h:ap γ v V):au γ v.cells V.cells.toList:=by
 cases h with
 |agg h=>simpa [Value.cells,AV.cells]using h
 |vbool b=>exact .cons (.vbool b) .nil
 |vint k n=>exact .cons (.vint k n) .nil
 |vstr s=>exact .cons (.vstr s) .nil
 |verr h=>rcases h with⟨rfl,rfl⟩|⟨rfl,t,v,rfl⟩
          ·exact .cons (.verr (.inl ⟨rfl,rfl⟩)) .nil
          ·exact .cons (.verr (.inr ⟨rfl,t,v,rfl⟩)) .nil
 |vnum k n=>exact .cons (.vnum k n) .nil
 |ro h=>cases h with
  |sl0 _ _ _ _ hn=>exact .cons (.ro (.sl0 _ _ _ _ aS)) .nil
  |sl cs hc hl hf h=>exact .cons (.ro (.sl cs hc hl hf h)) .nil
 |rp h hf=>exact .cons (.rp h hf) .nil
 |lo n h=>exact .cons (.lo n h) .nil
 |lp i z j h=>exact .cons (.lp i z j h) .nil
 |ls o z e h ha hc he=>exact .cons (.ls o z e h ha hc he) .nil
 |z0 a=>exact .cons (.z0 a) .nil
 |bool b=>exact .cons (.bool b) .nil
 |int k n=>exact .cons (.int k n) .nil
 |str s=>exact .cons (.str s) .nil
 |ptr o h=>exact .cons (.ptr o h) .nil
 |nilp=>exact .cons .nilp .nil
 |slc o n c h=>exact .cons (.slc o n c h) .nil
 |nils=>exact .cons .nils .nil
 |emp a c=>exact .cons (.emp a c) .nil
 |zer a=>exact .cons (.zer a) .nil
 |fn f h=>exact .cons (.fn f h) .nil
 |nilfn=>exact .cons .nilfn .nil
 |ifc t h=>exact .cons (.ifc t h) .nil
 |nilif=>exact .cons .nilif .nil
 |tup h=>exact .cons (.tup h) .nil
theorem au.ones {vs:List AV}{Vs:List Value}(h:au γ vs Vs)(ho:vs.all AV.one=true):∀V∈Vs,V.oneCell'=true:=by
 induction vs generalizing Vs with
 |nil=>cases h;simp
 |cons v vs ih=>
  cases h with
  |cons h t=>
   simp only[kZ,aX]at ho
   intro V hV
   rcases bx.1 hV with rfl|hV
   ·rw[h.one];exact ho.1
   ·exact ih t ho.2 V hV
end
end Go.QfSy
namespace Go.QfSy
mutual
def RV.av:RV→AV
 |.bool b=>.vbool b
 |.int k n=>.vint k n
 |.str s=>.vstr s
 |.err b=>.verr b
 |.sl n z r=>.ro n z r
 |.agg vs=>.agg (RV.avl vs)
 |.tup vs=>.tup (RV.avl vs)
def RV.avl:List RV→List AV
 |[]=>[]
 |v::vs=>v.av::RV.avl vs
end
structure Con where
 exp:Int
 dim:Int
 sign:Int
 odd:Bool
 oddity:Int
deriving DecidableEq,Inhabited
def Con.avs (c:Con):List AV:=[.vint .i64 c.exp,.vint .i64 c.dim,.vint .i64 c.sign,.vbool c.odd,.vint .i64 c.oddity]
def Con.rvs (c:Con):List RV:=[.int .i64 c.exp,.int .i64 c.dim,.int .i64 c.sign,.bool c.odd,.int .i64 c.oddity]
def Con.zero:Con:=⟨0,0,0,false,0⟩
structure Loc where
 prime:Int
 list:List Con
deriving Inhabited
structure af where
 dim:Int
 det:Int
 locs:List Loc
deriving Inhabited
structure bB where
 prime:Int
 exp:Int
deriving Inhabited
structure Jb where
 exp:Int
 size:Int
 a:Int
 b:Int
 c:Int
deriving Inhabited
structure kd where
 neg:Bool
 mag:List Int
deriving Inhabited
inductive aa where
 |con
 |num (k:IntKind)
 |loc
 |gen
 |pow
 |jb
 |bint
 |flag
 |list (τ:aa)
deriving DecidableEq
def aa.car:aa→Type
 |.con=>Con
 |.num _=>Int
 |.loc=>Loc
 |.gen=>af
 |.pow=>bB
 |.jb=>Jb
 |.bint=>kd
 |.flag=>Bool
 |.list τ=>List τ.car
def aa.sz:aa→Nat
 |.con=>5
 |.num _=>1
 |.loc=>2
 |.gen=>3
 |.pow=>2
 |.jb=>5
 |.bint=>2
 |.flag=>1
 |.list _=>1
def Loc.zero:Loc:=⟨0,[]⟩
def af.zero:af:=⟨0,0,[]⟩
def bB.zero:bB:=⟨0,0⟩
def Jb.zero:Jb:=⟨0,0,0,0,0⟩
def kd.zero:kd:=⟨false,[]⟩
def aa.zero:(τ:aa)→τ.car
 |.con=>Con.zero
 |.num _=>(0:Int)
 |.loc=>Loc.zero
 |.gen=>af.zero
 |.pow=>bB.zero
 |.jb=>Jb.zero
 |.bint=>kd.zero
 |.flag=>false
 |.list _=>[]
def aD (L:List Con):RV:=.sl L.length 5 (fun i=>(L.getD i Con.zero).rvs)
def Loc.rvs (x:Loc):List RV:=[.int .i64 x.prime,aD x.list]
def dR (L:List Loc):RV:=.sl L.length 2 (fun i=>(L.getD i Loc.zero).rvs)
def af.rvs (x:af):List RV:=[.int .i64 x.dim,.int .i64 x.det,dR x.locs]
def bB.rvs (x:bB):List RV:=[.int .i64 x.prime,.int .i64 x.exp]
def Jb.rvs (x:Jb):List RV:=[.int .i64 x.exp,.int .i64 x.size,.int .i64 x.a,.int .i64 x.b,.int .i64 x.c]
def kd.rvs (x:kd):List RV:=[.bool x.neg,.sl x.mag.length 1 (fun i=>[.int .u32 (x.mag.getD i 0)])]
def aa.rvs:(τ:aa)→τ.car→List RV
 |.con,c=>Con.rvs c
 |.num k,n=>[.int k n]
 |.loc,x=>Loc.rvs x
 |.gen,x=>af.rvs x
 |.pow,x=>bB.rvs x
 |.jb,x=>Jb.rvs x
 |.bint,x=>kd.rvs x
 |.flag,x=>[.bool x]
 |.list τ,l=>[.sl (List.length (α:=τ.car) l) τ.sz (fun i=>τ.rvs (List.getD (α:=τ.car) l i τ.zero))]
theorem aa.rvs_len:∀(τ:aa)(c:τ.car),(τ.rvs c).length=τ.sz:=by
 intro τ c
 cases τ<;>rfl
inductive bN where
 |plain (cells:List AV)
 |con (L:List Con)
 |ints (k:IntKind) (L:List Int)
 |rows (k:IntKind) (L:List (List Int)) (b n:Nat)
 |vals (τ:aa) (L:List τ.car)
def fZ (k:IntKind)(l:List Int):AV:=.ro l.length 1 (fun i=>[.int k (l.getD i 0)])
def bN.cells:bN→List AV
 |plain cs=>cs
 |con L=>L.flatMap Con.avs
 |ints k L=>L.map (.vint k)
 |rows k L b n=>L.map (fZ k)++[.lo b n]
 |vals τ L=>L.flatMap (fun c=>RV.avl (τ.rvs c))
structure ai where
 view:bN
 elem:Nat
 sz:Nat
 opn:Bool
 own:Bool
def ai.cells (k:ai):List AV:=k.view.cells
abbrev Hf:=Nat→Option ai
def dY {α:Type}(f:Nat→Option α)(i:Nat)(v:Option α):Nat→Option α:=fun b=>if b=i then v else f b
theorem fb {α:Type}(f:Nat→Option α)(i:Nat)(v:Option α):dY f i v i=v:=by simp[dY]
theorem dl {α:Type}(f:Nat→Option α){i b:Nat}(v:Option α)(h:b≠i):dY f i v b=f b:=by simp[dY,h]
def wA (γ:Gm)(w:World)(b:Nat)(k:ai):Prop:=
 ∃B x cs ex,γ b=some (B,x)∧w.heap[B]? =some (.cells (cs++ex).toArray k.elem (0,0))∧au γ k.cells cs∧ex.length=x*k.sz∧(k.opn=false→x=0)
structure aQ (γ:Gm)(f:Hf)(nx:Nat)(w:World):Prop where
 blk:∀b k,f b=some k→wA γ w b k
 inj:∀b b' k k' B x x',f b=some k→f b'=some k'→γ b=some (B,x)→γ b'=some (B,x')→b=b'
 fresh:∀b,nx≤b→γ b=none
 fzr:∀B x,γ.fz B=some x→w.heap[B]? =some x
 fzo:∀b k B x,f b=some k→k.own=true→γ b=some (B,x)→γ.fz B=none
def fI (γ:Gm)(f:Hf)(B:Nat):Prop:=∃b k x,f b=some k∧k.own=true∧γ b=some (B,x)
structure bj (γ:Gm)(f:Hf)(w:World)(γ':Gm)(f':Hf)(nx':Nat)(w':World):Prop where
 le:γ.le γ'
 rel:aQ γ' f' nx' w'
 size:w.heap.size≤w'.heap.size
 os:w'.os=w.os
 tape:w'.tape=w.tape
 output:w'.output=w.output
 frame:∀k,k<w.heap.size→¬fI γ f k→w'.heap[k]? =w.heap[k]?
 own:∀k,k<w.heap.size→fI γ' f' k→fI γ f k
 ro:∀b k,f' b=some k→k.own=false→f b=some k
 dom:∀b k,f' b=some k→(∃k',f b=some k')∨γ b=none
 fzn:∀B x,γ'.fz B=some x→γ.fz B=some x∨w.heap.size≤B∨fI γ f B
 drawn:w.drawn≤w'.drawn
theorem bj.refl {γ:Gm}{f:Hf}{nx:Nat}{w:World}(h:aQ γ f nx w):bj γ f w γ f nx w:=
 ⟨Gm.le_refl γ,h,aZ _,rfl,rfl,rfl,fun _ _ _=>rfl,fun _ _ h=>h,fun _ _ h _=>h,fun _ k h=>.inl ⟨k,h⟩,fun _ _ h=>.inl h,aZ _⟩
theorem bj.trans {γ γ1 γ2:Gm}{f f1 f2:Hf}{n1 n2:Nat}{w w1 w2:World}(h:bj γ f w γ1 f1 n1 w1)(k:bj γ1 f1 w1 γ2 f2 n2 w2):bj γ f w γ2 f2 n2 w2:=
 ⟨Gm.le_trans h.le k.le,k.rel,cU h.size k.size,k.os.trans h.os,k.tape.trans h.tape,k.output.trans h.output,
  fun b hb hn=>(k.frame b (pE hb h.size) (fun ho=>hn (h.own b hb ho))).trans (h.frame b hb hn),
  fun b hb ho=>h.own b hb (k.own b (pE hb h.size) ho),
  fun b q hb ho=>h.ro b q (k.ro b q hb ho) ho,
  fun b q hb=>by
   rcases k.dom b q hb with⟨q',hq'⟩|hn
   ·exact h.dom b q' hq'
   ·right
    cases hg:γ b with
    |none=>rfl
    |some p=>rw[h.le.nm b p hg]at hn;exact(nomatch hn),
  fun B x hB=>by
   rcases k.fzn B x hB with h1|h1|h1
   ·exact h.fzn B x h1
   ·exact .inr (.inl (cU h.size h1))
   ·rcases bA B w.heap.size with h2|h2
    ·exact .inr (.inr (h.own B h2 h1))
    ·exact .inr (.inl h2),
  cU h.drawn k.drawn⟩
theorem wA.heap {γ:Gm}{w w':World}{b:Nat}{k:ai}(h:wA γ w b k)(hw:w'.heap=w.heap):wA γ w' b k:=by
 obtain⟨B,x,cs,ex,h1,h2,h3⟩:=h
 exact⟨B,x,cs,ex,h1,by rw[hw];exact h2,h3⟩
theorem aQ.heap {γ:Gm}{f:Hf}{nx:Nat}{w w':World}(h:aQ γ f nx w)(hw:w'.heap=w.heap):aQ γ f nx w':=
 ⟨fun b k hb=>(h.blk b k hb).heap hw,h.inj,h.fresh,fun B x hB=>by rw[hw];exact h.fzr B x hB,h.fzo⟩
theorem aQ.sub {γ:Gm}{f f':Hf}{nx:Nat}{w:World}(h:aQ γ f nx w)(hs:∀b k,f' b=some k→f b=some k):aQ γ f' nx w:=
 ⟨fun b k hb=>h.blk b k (hs b k hb),fun b b' k k' B x x' h1 h2=>h.inj b b' k k' B x x' (hs _ _ h1) (hs _ _ h2),h.fresh,h.fzr,fun b k B x hb=>h.fzo b k B x (hs _ _ hb)⟩
theorem aQ.nx_mono {γ:Gm}{f:Hf}{nx nx':Nat}{w:World}(h:aQ γ f nx w)(hn:nx≤nx'):aQ γ f nx' w:=
 ⟨h.blk,h.inj,fun b hb=>h.fresh b (cU hn hb),h.fzr,h.fzo⟩
theorem aQ.lt {γ:Gm}{f:Hf}{nx:Nat}{w:World}(h:aQ γ f nx w){b:Nat}{k:ai}(hb:f b=some k){B x:Nat}(hg:γ b=some (B,x)):B<w.heap.size:=by
 obtain⟨B',x',cs,ex,h1,h2,_⟩:=h.blk b k hb
 rw[hg]at h1
 cases h1
 exact(fG.1 h2).1
theorem dg (B o j:Nat):(⟨B,o,none⟩:Addr).add j=⟨B,o+j,none⟩:=by
 unfold Addr.add
 split
 ·rename_i h;simp[h]
 ·rfl
theorem aQ.load {γ:Gm}{f:Hf}{nx:Nat}{w:World}(h:aQ γ f nx w){b:Nat}{k:ai}(hb:f b=some k){B x:Nat}(hg:γ b=some (B,x))(o n:Nat)(hn:o+n≤k.cells.length):
 ∃Vs,au γ ((k.cells.drop o).take n) Vs∧Vs.length=n∧∀j v,Vs[j]? =some v→w.cell? ((⟨B,o,none⟩:Addr).add j)=some v:=by
 obtain⟨B',x',cs,ex,h1,h2,h3,_⟩:=h.blk b k hb
 rw[hg]at h1
 cases h1
 have hl:=h3.length
 refine⟨(cs.drop o).take n,(h3.drop o).take n,by simp;omega,fun j v hv=>?_⟩
 rw[dg,cell_of_row w B (o+j) _ _ _ h2]
 rw[pF]at hv
 split at hv
 ·rename_i hj
  rw[lX]at hv
  rw[ku,gB om]
  exact hv
 ·cases hv
theorem aQ.store {γ:Gm}{f:Hf}{nx:Nat}{w:World}(h:aQ γ f nx w){b:Nat}{k:ai}(hb:f b=some k)(hown:k.own=true){B x:Nat}(hg:γ b=some (B,x))(o:Nat)
 {vs:List AV}{Vs:List Value}(hv:au γ vs Vs)(h1:vs.all AV.one=true)(hn:o+vs.length≤k.cells.length)(P:Program):
 ∃w',(storeCells ⟨B,o,none⟩ Vs).run P w=.ok () w'∧bj γ f w γ (dY f b (some {k with view:=.plain (k.cells.take o++vs++k.cells.drop (o+vs.length))})) nx w':=by
 obtain⟨B',x',cs,ex,g1,g2,g3,g4,g5⟩:=h.blk b k hb
 rw[hg]at g1
 cases g1
 have hl:=g3.length
 have hvl:=hv.length
 have hst:=run_storeCells_at P B o k.elem Vs 0 _ w g2 (by simp;omega) (hv.ones h1)
 refine⟨_,hst,?_⟩
 have hnew:((cs++ex).toArray.toList.take (o+0)++Vs++(cs++ex).toArray.toList.drop (o+0+Vs.length))=(cs.take o++Vs++cs.drop (o+Vs.length))++ex:=by
  simp only[gj]
  rw[ry om,List.drop_append_of_le_length om]
  simp
 rw[hnew]
 have hrow:=setRow_heap w B _ ((cs.take o++Vs++cs.drop (o+Vs.length))++ex).toArray _ _ g2
 have hoth:∀i,i≠B→(w.setRow B ((cs.take o++Vs++cs.drop (o+Vs.length))++ex).toArray).heap[i]? =w.heap[i]? :=fun i hi=>setRow_other w B i _ hi
 have hfzB:γ.fz B=none:=h.fzo b k B x hb hown hg
 refine⟨Gm.le_refl γ,⟨?_,?_,h.fresh,?_,?_⟩,si,rfl,rfl,rfl,?_,?_,?_,?_,fun _ _ h=>.inl h,aZ _⟩
 ·intro b' k' hb'
  by_cases e:b'=b
  ·subst e
   rw[fb]at hb'
   cases hb'
   refine⟨B,x,_,ex,hg,hrow,?_,g4,g5⟩
   rw[hvl]
   exact((g3.take o).append hv).append (g3.drop _)
  ·rw[dl f _ e]at hb'
   obtain⟨B2,x2,cs2,ex2,q1,q2,q3⟩:=h.blk b' k' hb'
   refine⟨B2,x2,cs2,ex2,q1,?_,q3⟩
   rw[hoth B2 (fun e2=>e (h.inj b' b k' k B x2 x hb' hb (by rw[←e2];exact q1) hg))]
   exact q2
 ·intro b1 b2 k1 k2 B1 x1 x2 q1 q2 q3 q4
  have hs:∀c kc,dY f b (some {k with view:=.plain (k.cells.take o++vs++k.cells.drop (o+vs.length))}) c=some kc→∃kc',f c=some kc':=by
   intro c kc hc
   by_cases e:c=b
   ·subst e;exact⟨k,hb⟩
   ·rw[dl f _ e]at hc;exact⟨kc,hc⟩
  obtain⟨_,s1⟩:=hs _ _ q1
  obtain⟨_,s2⟩:=hs _ _ q2
  exact h.inj _ _ _ _ _ _ _ s1 s2 q3 q4
 ·intro B' x' hB'
  rw[hoth B' (fun e=>by rw[e,hfzB]at hB';cases hB')]
  exact h.fzr B' x' hB'
 ·intro b' k' B' x' hb' ho hg'
  by_cases e:b'=b
  ·subst e;exact h.fzo b' k B' x' hb hown hg'
  ·rw[dl f _ e]at hb';exact h.fzo b' k' B' x' hb' ho hg'
 ·intro i hi hni
  exact hoth i (fun e=>hni (e▸⟨b,k,x,hb,hown,hg⟩))
 ·intro i hi ⟨b',k',x',q1,q2,q3⟩
  by_cases e:b'=b
  ·subst e
   exact⟨b',k,x',hb,hown,q3⟩
  ·rw[dl f _ e]at q1
   exact⟨b',k',x',q1,q2,q3⟩
 ·intro b' k' hb' ho
  by_cases e:b'=b
  ·subst e
   rw[fb]at hb'
   cases hb'
   rw[hown]at ho
   cases ho
  ·rw[dl f _ e]at hb'
   exact hb'
 ·intro b' k' hb'
  by_cases e:b'=b
  ·subst e;exact .inl ⟨k,hb⟩
  ·rw[dl f _ e]at hb'
   exact .inl ⟨k',hb'⟩
theorem aQ.new {γ:Gm}{f:Hf}{nx:Nat}{w w1:World}(h:aQ γ f nx w)(i nx':Nat)(hi:γ i=none)(hi':i<nx')(hn:nx≤nx'){vs:List AV}{Vs ex:List Value}(hv:au γ vs Vs)(elem sz:Nat)(opn:Bool)(x:Nat)
 (hx:ex.length=x*sz)(ho:opn=false→x=0)(hw:w1.heap=w.heap)(h1:w1.os=w.os)(h2:w1.tape=w.tape)(h3:w1.output=w.output)(h4:w.drawn≤w1.drawn):
 bj γ f w (γ.put i (some (w.heap.size,x))) (dY f i (some ⟨.plain vs,elem,sz,opn,true⟩)) nx' (w1.alloc (.cells (Vs++ex).toArray elem)):=by
 have hfi:f i=none:=by
  cases hf:f i with
  |none=>rfl
  |some k=>
   obtain⟨B,x,cs,ex,g1,_⟩:=h.blk i k hf
   rw[hi]at g1;cases g1
 have hle:γ.le (γ.put i (some (w.heap.size,x))):=by
  refine⟨fun b p hb=>?_,fun _ _ h=>h⟩
  rw[Gm.put_other γ _ (fun e=>by rw[e,hi]at hb;cases hb)];exact hb
 have hsz:(w1.alloc (.cells (Vs++ex).toArray elem)).heap.size=w.heap.size+1:=by rw[World.size_alloc,hw]
 have hnew:(w1.alloc (.cells (Vs++ex).toArray elem)).heap[w.heap.size]? =some (.cells (Vs++ex).toArray elem):=by
  have:=heap_alloc_new w1 (.cells (Vs++ex).toArray elem)
  rw[hw]at this;exact this
 have hold:∀j,j<w.heap.size→(w1.alloc (.cells (Vs++ex).toArray elem)).heap[j]? =w.heap[j]? :=by
  intro j hj
  rw[heap_alloc_old w1 _ j (by rw[hw];exact hj),hw]
 have hfzlt:∀B y,γ.fz B=some y→B<w.heap.size:=fun B y hB=>(fG.1 (h.fzr B y hB)).1
 refine⟨hle,⟨?_,?_,?_,?_,?_⟩,by rw[hsz];omega,h1,h2,h3,fun j hj _=>hold j hj,?_,?_,?_,fun _ _ h=>.inl h,h4⟩
 ·intro b k hb
  by_cases e:b=i
  ·subst e
   rw[fb]at hb
   cases hb
   exact⟨w.heap.size,x,Vs,ex,Gm.put_same _ _ _,hnew,hv.mono hle,hx,ho⟩
  ·rw[dl f _ e]at hb
   obtain⟨B2,x2,cs2,ex2,q1,q2,q3,q4⟩:=h.blk b k hb
   refine⟨B2,x2,cs2,ex2,hle.nm _ _ q1,?_,q3.mono hle,q4⟩
   rw[hold B2 (h.lt hb q1)];exact q2
 ·intro b b' k k' B y y' q1 q2 q3 q4
  by_cases e:b=i
  ·by_cases e':b'=i
   ·rw[e,e']
   ·exfalso
    subst e
    rw[Gm.put_same]at q3
    cases q3
    rw[dl f _ e']at q2
    rw[Gm.put_other γ _ e']at q4
    exact mX _ (h.lt q2 q4)
  ·by_cases e':b'=i
   ·exfalso
    subst e'
    rw[Gm.put_same]at q4
    cases q4
    rw[dl f _ e]at q1
    rw[Gm.put_other γ _ e]at q3
    exact mX _ (h.lt q1 q3)
   ·rw[dl f _ e]at q1
    rw[dl f _ e']at q2
    rw[Gm.put_other γ _ e]at q3
    rw[Gm.put_other γ _ e']at q4
    exact h.inj _ _ _ _ _ _ _ q1 q2 q3 q4
 ·intro b hb
  rw[Gm.put_other γ _ om]
  exact h.fresh b om
 ·intro B y hB
  rw[hold B (hfzlt B y hB)]
  exact h.fzr B y hB
 ·intro b k B y hb ho hg
  by_cases e:b=i
  ·subst e
   rw[Gm.put_same]at hg
   cases hg
   show γ.fz w.heap.size=none
   cases hz:γ.fz w.heap.size with
   |none=>rfl
   |some y=>exact absurd (hfzlt _ _ hz) (mX _)
  ·rw[dl f _ e]at hb
   rw[Gm.put_other γ _ e]at hg
   exact h.fzo b k B y hb ho hg
 ·intro j hj ⟨b,k,y,q1,q2,q3⟩
  by_cases e:b=i
  ·subst e
   rw[Gm.put_same]at q3
   cases q3
   exact absurd hj (mX _)
  ·rw[dl f _ e]at q1
   rw[Gm.put_other γ _ e]at q3
   exact⟨b,k,y,q1,q2,q3⟩
 ·intro b k hb ho
  by_cases e:b=i
  ·subst e
   rw[fb]at hb
   cases hb
   cases ho
  ·rw[dl f _ e]at hb
   exact hb
 ·intro b k hb
  by_cases e:b=i
  ·subst e;exact .inr hi
  ·rw[dl f _ e]at hb
   exact .inl ⟨k,hb⟩
theorem aQ.rename {γ:Gm}{f:Hf}{nx:Nat}{w:World}(h:aQ γ f nx w){b:Nat}{k:ai}(hb:f b=some k)(hown:k.own=true){B x:Nat}(hg:γ b=some (B,x))(i nx':Nat)(hi:γ i=none)(hi':i<nx')(hn:nx≤nx')
 {vs:List AV}{Vs ex:List Value}(hv:au γ vs Vs)(x':Nat)(hx:ex.length=x'*k.sz):
 bj γ f w (γ.put i (some (B,x'))) (dY (dY f b none) i (some ⟨.plain vs,k.elem,k.sz,true,true⟩)) nx' (w.setRow B (Vs++ex).toArray):=by
 have hne:b≠i:=by intro e;rw[e,hi]at hg;cases hg
 have hle:γ.le (γ.put i (some (B,x'))):=by
  refine⟨fun c p hc=>?_,fun _ _ h=>h⟩
  rw[Gm.put_other γ _ (fun e=>by rw[e,hi]at hc;cases hc)];exact hc
 have hfzB:γ.fz B=none:=h.fzo b k B x hb hown hg
 obtain⟨B',y,cs,ex0,g1,g2,g3,g4,g5⟩:=h.blk b k hb
 rw[hg]at g1
 cases g1
 have hrow:=setRow_heap w B _ (Vs++ex).toArray _ _ g2
 have hoth:∀j,j≠B→(w.setRow B (Vs++ex).toArray).heap[j]? =w.heap[j]? :=fun j hj=>setRow_other w B j _ hj
 have hold:∀c kc,c≠i→dY (dY f b none) i (some ⟨.plain vs,k.elem,k.sz,true,true⟩) c=some kc→f c=some kc∧c≠b:=by
  intro c kc hci hc
  rw[dl _ _ hci]at hc
  by_cases e:c=b
  ·subst e;rw[fb]at hc;cases hc
  ·rw[dl f _ e]at hc;exact⟨hc,e⟩
 refine⟨hle,⟨?_,?_,?_,?_,?_⟩,si,rfl,rfl,rfl,?_,?_,?_,?_,fun _ _ h=>.inl h,aZ _⟩
 ·intro c kc hc
  by_cases e:c=i
  ·subst e
   rw[fb]at hc
   cases hc
   exact⟨B,x',Vs,ex,Gm.put_same _ _ _,hrow,hv.mono hle,hx,si⟩
  ·obtain⟨hc',hcb⟩:=hold c kc e hc
   obtain⟨B2,x2,cs2,ex2,q1,q2,q3,q4⟩:=h.blk c kc hc'
   refine⟨B2,x2,cs2,ex2,hle.nm _ _ q1,?_,q3.mono hle,q4⟩
   rw[hoth B2 (fun e2=>hcb (h.inj c b kc k B x2 x hc' hb (by rw[←e2];exact q1) hg))]
   exact q2
 ·intro c c' kc kc' B1 y y' q1 q2 q3 q4
  by_cases e:c=i
  ·by_cases e':c'=i
   ·rw[e,e']
   ·exfalso
    subst e
    rw[Gm.put_same]at q3
    cases q3
    obtain⟨s1,s2⟩:=hold _ _ e' q2
    rw[Gm.put_other γ _ e']at q4
    exact s2 (h.inj _ _ _ _ _ _ _ s1 hb q4 hg)
  ·by_cases e':c'=i
   ·exfalso
    subst e'
    rw[Gm.put_same]at q4
    cases q4
    obtain⟨s1,s2⟩:=hold _ _ e q1
    rw[Gm.put_other γ _ e]at q3
    exact s2 (h.inj _ _ _ _ _ _ _ s1 hb q3 hg)
   ·obtain⟨s1,_⟩:=hold _ _ e q1
    obtain⟨s2,_⟩:=hold _ _ e' q2
    rw[Gm.put_other γ _ e]at q3
    rw[Gm.put_other γ _ e']at q4
    exact h.inj _ _ _ _ _ _ _ s1 s2 q3 q4
 ·intro c hc
  rw[Gm.put_other γ _ om]
  exact h.fresh c om
 ·intro B' y hB'
  rw[hoth B' (fun e=>by rw[e]at hB';exact absurd (hB'.symm.trans hfzB) si)]
  exact h.fzr B' y hB'
 ·intro c kc B' y hc ho hg'
  by_cases e:c=i
  ·subst e
   rw[Gm.put_same]at hg'
   cases hg'
   exact hfzB
  ·rw[Gm.put_other γ _ e]at hg'
   exact h.fzo c kc B' y (hold _ _ e hc).1 ho hg'
 ·intro j hj hnj
  exact hoth j (fun e=>hnj (e▸⟨b,k,x,hb,hown,hg⟩))
 ·intro j hj ⟨c,kc,y,q1,q2,q3⟩
  by_cases e:c=i
  ·subst e
   rw[Gm.put_same]at q3
   cases q3
   exact⟨b,k,x,hb,hown,hg⟩
  ·obtain⟨s1,_⟩:=hold _ _ e q1
   rw[Gm.put_other γ _ e]at q3
   exact⟨c,kc,y,s1,q2,q3⟩
 ·intro c kc hc ho
  by_cases e:c=i
  ·subst e
   rw[fb]at hc
   cases hc
   cases ho
  ·exact(hold _ _ e hc).1
 ·intro c kc hc
  by_cases e:c=i
  ·subst e;exact .inr hi
  ·exact .inl ⟨kc,(hold _ _ e hc).1⟩
def kj (p f:Hf):Hf:=fun b=>match p b with|some k=>some k|none=>f b
theorem gm {p f:Hf}{b:Nat}{k:ai}(h:p b=some k):kj p f b=some k:=by simp[kj,h]
theorem jC {p f:Hf}{b:Nat}(h:p b=none):kj p f b=f b:=by simp[kj,h]
theorem aQ.frame {γ γ':Gm}{f f' p:Hf}{nx nx':Nat}{w w':World}(hu:aQ γ (kj p f) nx w)(hp:∀b k,p b=some k→k.own=true∧f b=none)(h:bj γ f w γ' f' nx' w'):
 bj γ (kj p f) w γ' (kj p f') nx' w':=by
 have hf:∀b k,f b=some k→kj p f b=some k:=by
  intro b k hb
  cases hpb:p b with
  |none=>rw[jC hpb];exact hb
  |some k'=>have:=(hp b k' hpb).2;rw[hb]at this;cases this
 have hfb:∀b k,p b=some k→f' b=none:=by
  intro b k hb
  cases hfb:f' b with
  |none=>rfl
  |some k'=>
   exfalso
   rcases h.dom b k' hfb with⟨k'',hk⟩|hn
   ·rw[(hp b k hb).2]at hk;cases hk
   ·obtain⟨B,x,cs,ex,g1,_⟩:=hu.blk b k (gm hb)
    rw[hn]at g1;cases g1
 have hpk:∀b k B x,p b=some k→γ b=some (B,x)→B<w.heap.size∧¬fI γ f B:=by
  intro b k B x hb hg
  refine⟨hu.lt (b:=b) (k:=k) (gm hb) hg,?_⟩
  rintro⟨b2,k2,x2,q1,q2,q3⟩
  have:=hu.inj b b2 k k2 B x x2 (gm hb) (hf _ _ q1) hg q3
  subst this
  rw[(hp b k hb).2]at q1
  cases q1
 have hOwn:∀k,fI γ f k→fI γ (kj p f) k:=by
  rintro k ⟨b,kk,x,q1,q2,q3⟩
  exact⟨b,kk,x,hf _ _ q1,q2,q3⟩
 refine⟨h.le,⟨?_,?_,h.rel.fresh,h.rel.fzr,?_⟩,h.size,h.os,h.tape,h.output,fun k hk hn=>h.frame k hk (fun ho=>hn (hOwn k ho)),?_,?_,?_,fun B x hB=>(h.fzn B x hB).imp id (Or.imp id (hOwn B)),h.drawn⟩
 ·intro b k hb
  cases hpb:p b with
  |none=>
   rw[jC hpb]at hb
   exact h.rel.blk b k hb
  |some k'=>
   rw[gm hpb]at hb
   cases hb
   obtain⟨B,x,cs,ex,g1,g2,g3,g4⟩:=hu.blk b k (gm hpb)
   obtain⟨r1,r2⟩:=hpk b k B x hpb g1
   exact⟨B,x,cs,ex,h.le.nm _ _ g1,by rw[h.frame B r1 r2];exact g2,g3.mono h.le,g4⟩
 ·intro b b' k k' B x x' q1 q2 q3 q4
  have cross:∀b b' k k' x x',p b=some k→p b'=none→f' b'=some k'→γ' b=some (B,x)→γ' b'=some (B,x')→False:=by
   intro b b' k k' x x' hb hb' hf' g g'
   obtain⟨B0,x0,cs,ex,g1,_⟩:=hu.blk b k (gm hb)
   have:=h.le.nm _ _ g1
   rw[g]at this
   cases this
   obtain⟨r1,r2⟩:=hpk b k B x hb g1
   cases ho:k'.own with
   |true=>exact r2 (h.own B r1 ⟨b',k',x',hf',ho,g'⟩)
   |false=>
    have hfb':=h.ro b' k' hf' ho
    obtain⟨B1,x1,cs1,ex1,g2,_⟩:=hu.blk b' k' (hf _ _ hfb')
    have:=h.le.nm _ _ g2
    rw[g']at this
    cases this
    have:=hu.inj b b' k k' B x x' (gm hb) (hf _ _ hfb') g1 g2
    subst this
    rw[hb]at hb'
    cases hb'
  cases hpb:p b with
  |none=>
   rw[jC hpb]at q1
   cases hpb':p b' with
   |none=>
    rw[jC hpb']at q2
    exact h.rel.inj b b' k k' B x x' q1 q2 q3 q4
   |some k2=>exact(cross b' b k2 k x' x hpb' hpb q1 q4 q3).elim
  |some k1=>
   cases hpb':p b' with
   |none=>
    rw[jC hpb']at q2
    exact(cross b b' k1 k' x x' hpb hpb' q2 q3 q4).elim
   |some k2=>
    obtain⟨B0,x0,cs,ex,g1,_⟩:=hu.blk b k1 (gm hpb)
    obtain⟨B1,x1,cs1,ex1,g2,_⟩:=hu.blk b' k2 (gm hpb')
    have e1:=h.le.nm _ _ g1
    rw[q3]at e1
    cases e1
    have e2:=h.le.nm _ _ g2
    rw[q4]at e2
    cases e2
    exact hu.inj b b' k1 k2 B x x' (gm hpb) (gm hpb') g1 g2
 ·intro b k B x hb ho hg
  cases hpb:p b with
  |none=>
   rw[jC hpb]at hb
   exact h.rel.fzo b k B x hb ho hg
  |some k1=>
   rw[gm hpb]at hb
   cases hb
   obtain⟨B0,x0,cs,ex,g1,_⟩:=hu.blk b k (gm hpb)
   have e1:=h.le.nm _ _ g1
   rw[hg]at e1
   cases e1
   obtain⟨r1,r2⟩:=hpk b k B x hpb g1
   cases hz:γ'.fz B with
   |none=>rfl
   |some y=>
    rcases h.fzn B y hz with h1|h1|h1
    ·rw[hu.fzo b k B x (gm hpb) ho g1]at h1;cases h1
    ·omega
    ·exact(r2 h1).elim
 ·intro k hk ⟨b,kk,x,q1,q2,q3⟩
  cases hpb:p b with
  |none=>
   rw[jC hpb]at q1
   exact hOwn k (h.own k hk ⟨b,kk,x,q1,q2,q3⟩)
  |some k1=>
   rw[gm hpb]at q1
   cases q1
   obtain⟨B0,x0,cs,ex,g1,_⟩:=hu.blk b kk (gm hpb)
   have e1:=h.le.nm _ _ g1
   rw[q3]at e1
   cases e1
   exact⟨b,kk,x,gm hpb,q2,g1⟩
 ·intro b k hb ho
  cases hpb:p b with
  |none=>
   rw[jC hpb]at hb⊢
   exact h.ro b k hb ho
  |some k1=>
   rw[gm hpb]at hb⊢
   exact hb
 ·intro b k hb
  cases hpb:p b with
  |none=>
   rw[jC hpb]at hb⊢
   exact h.dom b k hb
  |some k1=>
   exact .inl ⟨k1,gm hpb⟩
def vr:Value→Option AV
 |.bool b=>some (.bool b)
 |.int k n=>some (.int k n)
 |.string s=>some (.str s)
 |.pointer none=>some .nilp
 |.slice none 0 0=>some .nils
 |.nilFunc=>some .nilfn
 |.nilIface=>some .nilif
 |_=>none
def sL:List Value→Option (List AV)
 |[]=>some []
 |v::l=>
  match vr v with
  |none=>none
  |some x=>match sL l with
   |none=>none
   |some xs=>some (x::xs)
def s9:Value→Option AV
 |.agg ⟨l⟩=>match sL l with
  |none=>none
  |some vs=>some (.agg vs)
 |.tuple ⟨[]⟩=>some (.tup [])
 |v=>vr v
theorem Eb (γ:Gm){V:Value}{v:AV}(h:vr V=some v):ap γ v V:=by
 unfold vr at h
 split at h<;>cases h
 ·exact .bool _
 ·exact .int _ _
 ·exact .str _
 ·exact .nilp
 ·exact .nils
 ·exact .nilfn
 ·exact .nilif
theorem PT (γ:Gm){Vs:List Value}{vs:List AV}(h:sL Vs=some vs):au γ vs Vs:=by
 induction Vs generalizing vs with
 |nil=>simp[sL]at h;subst h;exact .nil
 |cons V Vs ih=>
  simp only[sL]at h
  split at h
  ·cases h
  ·rename_i x hx
   split at h
   ·cases h
   ·rename_i xs hxs
    cases h
    exact .cons (Eb γ hx) (ih hxs)
theorem uJ (γ:Gm){V:Value}{v:AV}(h:s9 V=some v):ap γ v V:=by
 unfold s9 at h
 split at h
 ·split at h
  ·cases h
  ·rename_i vs hvs
   cases h
   exact .agg (PT γ hvs)
 ·cases h;exact .tup .nil
 ·exact Eb γ h
def li:Sem Value→Option AV
 |.pure v=>s9 v
 |_=>none
theorem m7 (γ:Gm){s:Sem Value}{v:AV}(h:li s=some v):∃V,s=.pure V∧ap γ v V:=by
 unfold li at h
 split at h
 ·exact⟨_,rfl,uJ γ h⟩
 ·cases h
section tables
variable (ti:Tr TypeInfo)
def bE (t:Nat):Option TypeDesc:=
 match ti.get t with
 |none=>none
 |some i=>match i.desc with
  |.named _ u=>match ti.get u with
   |some j=>some j.desc
   |none=>none
  |d=>some d
def gw:TypeDesc→Bool
 |.struct _=>true
 |.array _ _=>true
 |_=>false
def cx (t:Nat):Option Nat:=match ti.get t with
 |none=>none
 |some i=>some i.size
end tables
def dM (P:Program)(ti:Tr TypeInfo):Prop:=∀t i,ti.get t=some i→P.info? t=some i
section
variable {P:Program}{ti:Tr TypeInfo}(ht:dM P ti)
include ht
theorem ip {t:Nat}{d:TypeDesc}(h:bE ti t=some d):P.underlying t=some d:=by
 unfold bE at h
 unfold Program.underlying
 split at h
 ·cases h
 ·rename_i i hi
  rw[ht t i hi]
  obtain⟨desc,_⟩:=i
  cases desc<;>simp only[]at h⊢ <;>try exact h
  rename_i n u
  split at h
  ·rename_i j hj
   rw[ht u j hj]
   exact h
  ·cases h
theorem bC {t:Nat}{d:TypeDesc}(h:bE ti t=some d)(w:World):(underlying t).run P w=.ok d w:=
 run_underlying (ip ht h) w
theorem oA {t:Nat}{d:TypeDesc}(h:bE ti t=some d)(w:World):(isAgg t).run P w=.ok (gw d) w:=by
 simp only[isAgg,Sem.run_bind,bC ht h w,Result.andThen_ok]
 cases d<;>rfl
theorem j4 {t n:Nat}(h:cx ti t=some n):∃i,P.info? t=some i∧i.size=n:=by
 unfold cx at h
 split at h
 ·cases h
 ·rename_i i hi;cases h;exact⟨i,ht _ _ hi,rfl⟩
theorem df {t n:Nat}(h:cx ti t=some n)(w:World):(sizeOf t).run P w=.ok n w:=by
 obtain⟨i,hi,rfl⟩:=j4 ht h
 simp[sizeOf,typeInfo,hi]
end
def ta (ti:Tr TypeInfo)(h:Tr ai)(t:Nat)(x:AV):Option AV:=
 match x with
 |.ptr b o=>
  match h.get b with
  |none=>none
  |some k=>
   match bE ti t with
   |none=>none
   |some d=>
    bif gw d then
     match cx ti t with
     |none=>none
     |some n=>bif Nat.ble (o+n) k.cells.length then some (.agg ((k.cells.drop o).take n))else none
    else(k.cells.drop o).head?
 |_=>none
theorem E3 {P:Program}{ti:Tr TypeInfo}(ht:dM P ti){γ:Gm}{h:Tr ai}{nx:Nat}{w:World}(hr:aQ γ h.get nx w){t:Nat}{x v:AV}{X:Value}(hx:ap γ x X)(hq:ta ti h t x=some v):
 ∃V a,X=.pointer (some a)∧(loadVar t a).run P w=.ok V w∧ap γ v V:=by
 cases hx with
 |ptr o hg=>
  rename_i b B x
  simp only[ta]at hq
  cases hk:h.get b with
  |none=>simp[hk]at hq
  |some k=>
   simp only[hk]at hq
   cases hd:bE ti t with
   |none=>simp[hd]at hq
   |some d=>
    simp only[hd]at hq
    cases hag:gw d with
    |true=>
     simp only[hag,aM]at hq
     cases hs:cx ti t with
     |none=>simp[hs]at hq
     |some n=>
      simp only[hs]at hq
      cases hb:Nat.ble (o+n) k.cells.length with
      |false=>simp[hb]at hq
      |true=>
       simp only[hb,aM,bw]at hq
       subst hq
       obtain⟨Vs,h1,h2,h3⟩:=hr.load hk hg o n (aU hb)
       have hl:=run_loadCells_list (P:=P) w ⟨B,o,none⟩ Vs h3
       rw[h2]at hl
       refine⟨.agg Vs.toArray,_,rfl,?_,.agg h1⟩
       simp[loadVar,oA ht hd,hag,df ht hs,hl]
    |false=>
     simp only[hag,bg,oc]at hq
     have hlt:o<k.cells.length:=by
      rcases bA o k.cells.length with h'|h'
      ·exact h'
      ·rw[gL h']at hq;cases hq
     obtain⟨Vs,h1,h2,h3⟩:=hr.load hk hg o 1 hlt
     have e:(k.cells.drop o).take 1=[v]:=by
      rw[List.take_one,oc,hq];rfl
     rw[e]at h1
     cases h1 with
     |cons hv ht'=>
      rename_i V Vs'
      have h4:=h3 0 V si
      rw[dg,gj]at h4
      refine⟨V,_,rfl,?_,hv⟩
      simp[loadVar,oA ht hd,hag,h4]
 |_=>simp[ta]at hq
def vV (ti:Tr TypeInfo)(t:Nat)(cs:List AV)(off:Nat):Option AV:=
 match bE ti t with
 |none=>none
 |some d=>
  bif gw d then
   match cx ti t with
   |none=>none
   |some n=>some (.agg ((cs.drop off).take n))
  else(cs.drop off).head?
theorem E4 {P:Program}{ti:Tr TypeInfo}(ht:dM P ti){γ:Gm}{w:World}{t:Nat}{cs:List AV}{Cs:List Value}(hc:au γ cs Cs){off:Nat}{v:AV}(hq:vV ti t cs off=some v):
 ∃V,(part t Cs.toArray off).run P w=.ok V w∧ap γ v V:=by
 unfold vV at hq
 cases hd:bE ti t with
 |none=>simp[hd]at hq
 |some d=>
  simp only[hd]at hq
  cases hag:gw d with
  |true=>
   simp only[hag,aM]at hq
   cases hs:cx ti t with
   |none=>simp[hs]at hq
   |some n=>
    simp only[hs,bw]at hq
    subst hq
    refine⟨.agg ((Cs.drop off).take n).toArray,?_,.agg ((hc.drop off).take n)⟩
    simp only[part,Sem.run_bind,oA ht hd,hag,Result.andThen_ok,fH,df ht hs,Sem.run_pure]
    congr 2
    apply Array.ext'
    simp[List.take_drop,Nat.add_comm]
  |false=>
   simp only[hag,bg,oc]at hq
   rcases hc.get off with⟨h1,h2⟩|⟨u,U,h1,h2,h3⟩
   ·rw[h1]at hq;cases hq
   ·rw[h1]at hq
    cases hq
    refine⟨U,?_,h3⟩
    simp[part,oA ht hd,hag,h2]
def pQ (d:TypeDesc)(x y:AV):Option Bool:=
 match d,x,y with
 |.bool,.bool a,.bool b=>some (a==b)
 |.int _,.int k a,.int k' b=>if k=k' then some (a==b)else none
 |.string,.str a,.str b=>some (a==b)
 |.pointer _,.nilp,.nilp=>some true
 |.pointer _,.nilp,.ptr _ _=>some false
 |.pointer _,.ptr _ _,.nilp=>some false
 |.slice _,.nils,.nils=>some true
 |.slice _,.nils,.slc _ _ _ _=>some false
 |.slice _,.slc _ _ _ _,.nils=>some false
 |.func _ _ _,.nilfn,.nilfn=>some true
 |.func _ _ _,.nilfn,.fn _ _=>some false
 |.func _ _ _,.fn _ _,.nilfn=>some false
 |.interface _,.nilif,.nilif=>some true
 |.interface _,.nilif,.ifc _ _=>some false
 |.interface _,.ifc _ _,.nilif=>some false
 |_,_,_=>none
theorem N9 {P:Program}{ti:Tr TypeInfo}(ht:dM P ti){γ:Gm}(w:World){t:Nat}{d:TypeDesc}(hd:bE ti t=some d){x y:AV}{X Y:Value}(hx:ap γ x X)(hy:ap γ y Y){b:Bool}(hq:pQ d x y=some b)(n:Nat):
 (Op.equalIn (n+1) t X Y).run P w=.ok b w:=by
 unfold pQ at hq
 split at hq
 all_goals first
  |(cases hq;done)
  |skip
 all_goals
  cases hx;cases hy
  simp only[Op.equalIn,Sem.run_bind,bC ht hd,Result.andThen_ok]
 all_goals first
  |(cases hq;rfl)
  |(split at hq<;>first|(cases hq;done)|(rename_i hk;subst hk;cases hq;simp))
section
variable {P:Program}{ti:Tr TypeInfo}(ht:dM P ti){γ:Gm}(w:World)
theorem FZ {a b:Nat}(h:Nat.beq a b=true):a=b:=co h
def kC:Operand→Bool
 |.const _=>true
 |_=>false
def vT (ti:Tr TypeInfo)(t:Nat)(xo yo:Operand)(x y:AV):Option Bool:=
 match x,y with
 |.int _ _,_=>none
 |.str _,_=>none
 |.nilif,.nilif=>bif kC xo||kC yo then(match bE ti t with|none=>none|some d=>pQ d .nilif .nilif)else none
 |.ptr b o,.ptr b' o'=>match bE ti t with
  |some (.pointer el)=>match cx ti el with
   |some (_+1)=>bif Nat.beq b b' then some (Nat.beq o o')else none
   |_=>none
  |_=>none
 |x,y=>match bE ti t with
  |none=>none
  |some d=>pQ d x y
def wE (ti:Tr TypeInfo)(op:BinOp)(t:Nat)(xo yo:Operand)(x y:AV):Option AV:=
 match x,y with
 |.int k a,.int k' b=>li (binOp op t (.int k a) (.int k' b))
 |.str a,.str b=>li (binOp op t (.string a) (.string b))
 |x,y=>match op with
  |.eql=>match vT ti t xo yo x y with
   |none=>none
   |some b=>some (.bool b)
  |.neq=>match vT ti t xo yo x y with
   |none=>none
   |some b=>some (.bool (!b))
  |_=>none
include ht in
theorem EZ {op:BinOp}{t:Nat}{xo yo:Operand}{x y:AV}{X Y:Value}(hx:ap γ x X)(hy:ap γ y Y){b:Bool}(hq:vT ti t xo yo x y=some b):
 (eqGuard op t xo yo X Y).run P w=.ok () w∧(binOp .eql t X Y).run P w=.ok (.bool b) w∧(binOp .neq t X Y).run P w=.ok (.bool (!b)) w:=by
 have key:∀d,bE ti t=some d→pQ d x y=some b→(∀k n,x≠.int k n)→(∀s,x≠.str s)→(x=.nilif→y=.nilif→(kC xo||kC yo)=true)→
  (eqGuard op t xo yo X Y).run P w=.ok () w∧(binOp .eql t X Y).run P w=.ok (.bool b) w∧(binOp .neq t X Y).run P w=.ok (.bool (!b)) w:=by
  intro d hd hs hi hst hn
  have he:=N9 ht w hd hx hy hs 9999
  have he':(Op.equal t X Y).run P w=.ok b w:=he
  unfold pQ at hs
  split at hs
  all_goals first
   |(cases hs;done)
   |(exact absurd rfl (hi _ _))
   |(exact absurd rfl (hst _))
   |skip
  all_goals
   cases hx;cases hy
   refine⟨?_,?_,?_⟩
  all_goals first
   |(simp[binOp,he'];done)
   |(simp[go_sem];done)
   |skip
  ·have:=hn rfl rfl
   cases xo<;>cases yo<;>simp[kC]at this<;>simp[go_sem]
 unfold vT at hq
 split at hq
 ·cases hq
 ·cases hq
 ·cases hc:(kC xo||kC yo)with
  |false=>simp[hc]at hq
  |true=>
   simp only[hc,aM]at hq
   cases hd:bE ti t with
   |none=>simp[hd]at hq
   |some d=>
    simp only[hd]at hq
    exact key d hd hq (by intros;simp) (by intros;simp) (fun _ _=>hc)
 ·rename_i c o c' o'
  cases hx with
  |ptr _ hg=>
   cases hy with
   |ptr _ hg'=>
    split at hq
    ·rename_i el hd
     split at hq
     ·rename_i n hs
      cases hb:Nat.beq c c' with
      |false=>simp[hb]at hq
      |true=>
       simp only[hb,aM,bw]at hq
       have:=FZ hb
       subst this
       rw[hg]at hg'
       cases hg'
       have hsame:∀B:Nat,(sameAddr ⟨B,o,none⟩ ⟨B,o',none⟩).run P w=.ok b w:=by
        intro B
        have e1:((⟨B,o,none⟩:Addr)==⟨B,o',none⟩)=b:=by
         rw[←hq]
         rw[pJ]
         simp only[b6,Addr.mk.injEq,true_and,and_true]
         exact⟨fun h=>by rw[h];exact mY _,fun h=>FZ h⟩
        simp[sameAddr,e1]
       have he:∀B:Nat,(Op.equal t (.pointer (some ⟨B,o,none⟩)) (.pointer (some ⟨B,o',none⟩))).run P w=.ok b w:=by
        intro B
        have:∀d:Nat,(Op.equalIn (d+1) t (.pointer (some ⟨B,o,none⟩)) (.pointer (some ⟨B,o',none⟩))).run P w=.ok b w:=by
         intro d
         simp[Op.equalIn,bC ht hd,df ht hs,hsame]
        exact this 9999
       exact⟨by simp[go_sem],by simp[binOp,he],by simp[binOp,he]⟩
     ·cases hq
    ·cases hq
 ·rename_i h1 h2 h3 h4
  cases hd:bE ti t with
  |none=>simp[hd]at hq
  |some d=>
   simp only[hd]at hq
   exact key d hd hq (fun k n e=>h1 k n e) (fun s e=>h2 s e) (fun e1 e2=>absurd e2 (h3 e1))
include ht in
theorem F0 {op:BinOp}{t:Nat}{xo yo:Operand}{x y v:AV}{X Y:Value}(hx:ap γ x X)(hy:ap γ y Y)(hq:wE ti op t xo yo x y=some v):
 ∃V,((do eqGuard op t xo yo X Y;binOp op t X Y:Sem Value)).run P w=.ok V w∧ap γ v V:=by
 unfold wE at hq
 split at hq
 ·cases hx;cases hy
  obtain⟨V,h1,h2⟩:=m7 γ hq
  exact⟨V,by simp[go_sem,h1],h2⟩
 ·cases hx;cases hy
  obtain⟨V,h1,h2⟩:=m7 γ hq
  exact⟨V,by simp[go_sem,h1],h2⟩
 ·split at hq
  ·split at hq
   ·cases hq
   ·rename_i b hb
    cases hq
    obtain⟨g1,g2,g3⟩:=EZ (P:=P) ht w (op:=.eql) hx hy hb
    exact⟨_,by simp only[Sem.run_bind,g1,Result.andThen_ok,g2],.bool b⟩
  ·split at hq
   ·cases hq
   ·rename_i b hb
    cases hq
    obtain⟨g1,g2,g3⟩:=EZ (P:=P) ht w (op:=.neq) hx hy hb
    exact⟨_,by simp only[Sem.run_bind,g1,Result.andThen_ok,g3],.bool (!b)⟩
  ·cases hq
def xH (op:UnOp)(x:AV):Option AV:=
 match x with
 |.int k n=>li (Op.unary op (.int k n))
 |.bool b=>li (Op.unary op (.bool b))
 |_=>none
theorem Hx {op:UnOp}{x v:AV}{X:Value}(hx:ap γ x X)(hq:xH op x=some v):∃V,(Op.unary op X).run P w=.ok V w∧ap γ v V:=by
 unfold xH at hq
 split at hq
 ·cases hx
  obtain⟨V,h1,h2⟩:=m7 γ hq
  exact⟨V,by rw[h1];rfl,h2⟩
 ·cases hx
  obtain⟨V,h1,h2⟩:=m7 γ hq
  exact⟨V,by rw[h1];rfl,h2⟩
 ·cases hq
def AS (ti:Tr TypeInfo)(lz:Nat→Nat→Nat→Nat→Bool)(h:Tr ai)(src dst:Nat)(x:AV):Option AV:=
 match bE ti src,bE ti dst,x with
 |some _,some (.int k),.int _ n=>some (.int k (k.wrap n))
 |some _,some .string,.str s=>some (.str s)
 |some (.pointer t),some .unsafePointer,.ptr b o=>match cx ti t with
  |some (_+1)=>match h.get b with
   |none=>none
   |some k=>bif Nat.blt o k.cells.length then some (.ptr b o)else none
  |_=>none
 |some .unsafePointer,some (.pointer u),.ptr b o=>match cx ti u with
  |none=>none
  |some _=>match h.get b with
   |none=>none
   |some k=>bif !k.opn&&lz k.elem k.cells.length o u then some (.ptr b o)else none
 |_,_,_=>none
def sJ (P:Program)(lz:Nat→Nat→Nat→Nat→Bool):Prop:=∀e n o u,lz e n o u=true→liesAt P P.depth e (n/P.cellsOf e) o u 1=true
include ht in
theorem Rt {lz:Nat→Nat→Nat→Nat→Bool}(hlz:sJ P lz){h:Tr ai}{nx:Nat}(hr:aQ γ h.get nx w){src dst:Nat}{x v:AV}{X:Value}(hx:ap γ x X)(hq:AS ti lz h src dst x=some v):∃V,(convert src dst X).run P w=.ok V w∧ap γ v V:=by
 unfold AS at hq
 split at hq
 ·rename_i d k k' n h1 h2
  cases hx
  cases hq
  exact⟨_,by simp[convert,bC ht h1,bC ht h2,Conv.intToInt],.int _ _⟩
 ·rename_i d s h1 h2
  cases hx
  cases hq
  exact⟨_,by simp[convert,bC ht h1,bC ht h2],.str _⟩
 ·rename_i t b o h1 h2
  cases hx with
  |ptr _ hg=>
   rename_i B y
   split at hq
   ·rename_i n hs
    split at hq
    ·cases hq
    ·rename_i k hk
     cases hb:Nat.blt o k.cells.length with
     |false=>simp[hb]at hq
     |true=>
      simp only[hb,aM,bw]at hq
      subst hq
      have hlt:o<k.cells.length:=aU hb
      obtain⟨B',x',cs,ex,g1,g2,g3,g4,g5⟩:=hr.blk b k hk
      rw[hg]at g1
      cases g1
      obtain⟨i,i1,i2⟩:=j4 ht hs
      have hl:=g3.length
      have:=Lib.run_to_unsafe (P:=P) w (src:=src) (dst:=dst) (e:=k.elem) (cells:=(cs++ex).length) ⟨B,o,none⟩ (ip ht h1) (ip ht h2) i1 om (by simp[World.shape?,g2]) (by simp;omega)
      exact⟨_,this,.ptr _ hg⟩
   ·cases hq
 ·rename_i u b o h1 h2
  cases hx with
  |ptr _ hg=>
   rename_i B y
   split at hq
   ·cases hq
   ·rename_i n hs
    split at hq
    ·cases hq
    ·rename_i k hk
     cases hb:(!k.opn&&lz k.elem k.cells.length o u)with
     |false=>simp[hb]at hq
     |true=>
      simp only[hb,aM,bw]at hq
      subst hq
      simp only[aX,n7]at hb
      obtain⟨hb1,hb2⟩:=hb
      obtain⟨B',x',cs,ex,g1,g2,g3,g4,g5⟩:=hr.blk b k hk
      rw[hg]at g1
      cases g1
      have hy:=g5 hb1
      subst hy
      have hex:ex=[]:=kT (by simpa using g4)
      subst hex
      obtain⟨i,i1,i2⟩:=j4 ht hs
      have hl:=g3.length
      have:=Lib.run_from_unsafe (P:=P) w (src:=src) (dst:=dst) (e:=k.elem) (cells:=k.cells.length) ⟨B,o,none⟩ (ip ht h1) (ip ht h2) i1 (by simp[World.shape?,g2,hl]) (hlz _ _ _ _ hb2)
      exact⟨_,this,.ptr _ hg⟩
 ·cases hq
def AT (x:AV):Option AV:=
 match x with
 |.nils=>some .nilp
 |.slc b o _ (_+1)=>some (.ptr b o)
 |_=>none
theorem Ru {x v:AV}{X:Value}(hx:ap γ x X)(hq:AT x=some v)(ts:Array TypeId)(ty:TypeId):∃V,(Builtin.unsafeSliceData_ ts ty #[X]).run P w=.ok V w∧ap γ v V:=by
 unfold AT at hq
 split at hq
 ·cases hq;cases hx;exact⟨_,rfl,.nilp⟩
 ·cases hq
  cases hx with
  |slc _ _ _ hg=>exact⟨_,Lib.run_unsafeSliceData_row w ts ty _ _ _ om,.ptr _ hg⟩
 ·cases hq
def ye (ti:Tr TypeInfo)(s:Nat)(x:AV)(f:Nat):Option AV:=
 match x with
 |.ptr b o=>match bE ti s with
  |some (.struct fields)=>match fields[f]? with
   |none=>none
   |some fd=>match cx ti fd.type with
    |some (_+1)=>some (.ptr b (o+fd.offset))
    |_=>none
  |_=>none
 |_=>none
include ht in
theorem NX {s f:Nat}{x v:AV}{X:Value}(hx:ap γ x X)(hq:ye ti s x f=some v):∃V,(Instr.fieldAt s X f).run P w=.ok V w∧ap γ v V:=by
 unfold ye at hq
 split at hq
 ·rename_i b o
  cases hx with
  |ptr _ hg=>
   split at hq
   ·rename_i fields hd
    split at hq
    ·cases hq
    ·rename_i fd hf
     split at hq
     ·rename_i n hs
      cases hq
      refine⟨_,?_,.ptr _ hg⟩
      simp[Instr.fieldAt,bC ht hd,hf,Instr.sureAddr,fieldPlace,df ht hs,dg]
     ·cases hq
   ·cases hq
 ·cases hq
def Ab (ti:Tr TypeInfo)(s:Nat)(x:AV)(f:Nat):Option AV:=
 match x with
 |.agg cs=>match bE ti s with
  |some (.struct fields)=>match fields[f]? with
   |none=>none
   |some fd=>vV ti fd.type cs fd.offset
  |_=>none
 |_=>none
include ht in
theorem PN {s f:Nat}{x v:AV}{X:Value}(hx:ap γ x X)(hq:Ab ti s x f=some v):∃V,(Instr.field s X f).run P w=.ok V w∧ap γ v V:=by
 unfold Ab at hq
 split at hq
 ·rename_i cs
  cases hx with
  |agg hc=>
   split at hq
   ·rename_i fields hd
    split at hq
    ·cases hq
    ·rename_i fd hf
     obtain⟨V,h1,h2⟩:=E4 ht (w:=w) hc hq
     exact⟨V,by simp[Instr.field,bC ht hd,hf,asAgg,h1],h2⟩
   ·cases hq
 ·cases hq
def yf (ti:Tr TypeInfo)(t:Nat)(x i:AV):Option AV:=
 match i with
 |.int _ j=>
  match bE ti t with
  |some (.slice e)=>match x with
   |.slc b o n _=>match cx ti e with
    |none=>none
    |some z=>if 0≤j∧j<n then some (.ptr b (o+j.toNat*z))else none
   |_=>none
  |some (.array len e)=>match x with
   |.ptr b o=>match cx ti e with
    |none=>none
    |some z=>if 0≤j∧j<len then some (.ptr b (o+j.toNat*z))else none
   |_=>none
  |_=>none
 |_=>none
include ht in
theorem NY {t:Nat}{x i v:AV}{X I:Value}(hx:ap γ x X)(hi:ap γ i I)(hq:yf ti t x i=some v):∃V,(Instr.indexAt t X I).run P w=.ok V w∧ap γ v V:=by
 unfold yf at hq
 split at hq
 ·rename_i k j
  cases hi
  split at hq
  ·rename_i e hd
   split at hq
   ·rename_i b o n c
    cases hx with
    |slc _ _ _ hg=>
     split at hq
     ·cases hq
     ·rename_i z hz
      split at hq
      ·rename_i hj
       cases hq
       refine⟨_,?_,.ptr _ hg⟩
       simp[Instr.indexAt,asIntOf,bC ht hd,df ht hz,hj,dg]
      ·cases hq
   ·cases hq
  ·rename_i len e hd
   split at hq
   ·rename_i b o
    cases hx with
    |ptr _ hg=>
     split at hq
     ·cases hq
     ·rename_i z hz
      split at hq
      ·rename_i hj
       cases hq
       refine⟨_,?_,.ptr _ hg⟩
       simp[Instr.indexAt,asIntOf,bC ht hd,df ht hz,hj,dg,Instr.sureAddr]
      ·cases hq
   ·cases hq
  ·cases hq
 ·cases hq
def Ac (ti:Tr TypeInfo)(t:Nat)(x i:AV):Option AV:=
 match i with
 |.int _ j=>
  match bE ti t,x with
  |some (.array len e),.agg cs=>match cx ti e with
   |none=>none
   |some z=>if 0≤j∧j<len then vV ti e cs (j.toNat*z)else none
  |some .string,.str s=>if 0≤j then(match s[j.toNat]? with|some b=>some (.int .u8 b.toNat)|none=>none)else none
  |_,_=>none
 |_=>none
include ht in
theorem PO {t:Nat}{x i v:AV}{X I:Value}(hx:ap γ x X)(hi:ap γ i I)(hq:Ac ti t x i=some v):∃V,(Instr.index t X I).run P w=.ok V w∧ap γ v V:=by
 unfold Ac at hq
 split at hq
 ·rename_i k j
  cases hi
  split at hq
  ·rename_i len e cs hd
   cases hx with
   |agg hc=>
    split at hq
    ·cases hq
    ·rename_i z hz
     split at hq
     ·rename_i hj
      obtain⟨V,h1,h2⟩:=E4 ht (w:=w) hc hq
      exact⟨V,by simp[Instr.index,asIntOf,bC ht hd,hj,df ht hz,h1],h2⟩
     ·cases hq
  ·rename_i s hd
   cases hx
   split at hq
   ·rename_i hj
    split at hq
    ·rename_i b hb
     cases hq
     exact⟨_,by simp[Instr.index,asIntOf,bC ht hd,hj,hb],.int _ _⟩
    ·cases hq
   ·cases hq
  ·cases hq
 ·cases hq
def yW (x:AV)(i:Nat):Option AV:=
 match x with
 |.tup vs=>vs[i]?
 |_=>none
theorem Ov {x v:AV}{i:Nat}{X:Value}(hx:ap γ x X)(hq:yW x i=some v):∃V,(Instr.extract X i).run P w=.ok V w∧ap γ v V:=by
 unfold yW at hq
 split at hq
 ·cases hx with
  |tup hv=>
   rcases hv.get i with⟨h1,h2⟩|⟨u,U,h1,h2,h3⟩
   ·rw[h1]at hq;cases hq
   ·rw[h1]at hq
    cases hq
    exact⟨U,by simp[Instr.extract,h2],h3⟩
 ·cases hq
def Bm (ti:Tr TypeInfo)(t:Nat)(x:AV):Option AV:=
 match bE ti t,x with
 |some .string,.str s=>some (.int .i64 s.size)
 |some (.array n _),_=>some (.int .i64 n)
 |some (.slice _),.slc _ _ n _=>some (.int .i64 n)
 |some (.slice _),.nils=>some (.int .i64 0)
 |some (.slice _),.emp=>some (.int .i64 0)
 |some (.slice _),.zer=>some (.int .i64 0)
 |_,_=>none
include ht in
theorem Ua {t ty:Nat}{ts:Array TypeId}(hts:ts[0]? =some t){x v:AV}{X:Value}{Xs:Array Value}(hXs:Xs[0]? =some X)(hx:ap γ x X)(hq:Bm ti t x=some v):
 ∃V,(Builtin.len_ ts ty Xs).run P w=.ok V w∧ap γ v V:=by
 unfold Bm at hq
 split at hq
 ·rename_i s hd
  cases hx;cases hq
  exact⟨_,by simp[Builtin.len_,hts,hXs,bC ht hd,goInt],.int _ _⟩
 ·rename_i n e _ hd
  cases hq
  exact⟨_,by simp[Builtin.len_,hts,hXs,bC ht hd,goInt],.int _ _⟩
 ·rename_i e b o n c hd
  cases hx;cases hq
  exact⟨_,by simp[Builtin.len_,hts,hXs,bC ht hd,goInt],.int _ _⟩
 ·rename_i e hd
  cases hx;cases hq
  exact⟨_,by simp[Builtin.len_,hts,hXs,bC ht hd,goInt],.int _ _⟩
 ·rename_i e hd
  cases hx;cases hq
  exact⟨_,by simp[Builtin.len_,hts,hXs,bC ht hd,goInt],.int _ _⟩
 ·rename_i e hd
  cases hx;cases hq
  exact⟨_,by simp[Builtin.len_,hts,hXs,bC ht hd,goInt],.int _ _⟩
 ·cases hq
end
def cz (γ:Gm):Option AV→Option Value→Prop
 |none,none=>True
 |some v,some V=>ap γ v V
 |_,_=>False
def bnd (x:Option AV)(d y:Nat):Option Nat:=
 match x with
 |none=>some d
 |some (.int _ i)=>if 0≤i∧i≤y then some i.toNat else none
 |some _=>none
section
variable {P:Program}{ti:Tr TypeInfo}(ht:dM P ti){γ:Gm}(w:World)
theorem l9 {i:Int}{k:IntKind}{y Y:Nat}{code:BoundsCode}(h:0≤i∧i≤y)(hy:y≤Y):(Instr.sliceBound (.int k i) Y code).run P w=.ok i.toNat w:=by
 have:i≤Y:=by omega
 simp[Instr.sliceBound,asIntOf,h.1,this]
theorem sI {x:Option AV}{X:Option Value}(h:cz γ x X){d y r:Nat}(hb:bnd x d y=some r):(X=none∧r=d)∨∃k i,X=some (.int k i)∧(0≤i∧i≤y)∧r=i.toNat:=by
 cases x with
 |none=>cases X with
  |none=>simp[bnd]at hb;exact .inl ⟨rfl,hb.symm⟩
  |some V=>simp[cz]at h
 |some v=>cases X with
  |none=>simp[cz]at h
  |some V=>
   simp only[cz]at h
   cases v<;>simp[bnd]at hb
   rename_i k i
   cases h
   exact .inr ⟨k,i,rfl,hb.1,hb.2.symm⟩
theorem ud {sl:Bool}{lo hi:Option AV}{LO HI:Option Value}(hl:cz γ lo LO)(hh:cz γ hi HI){n c x e l:Nat}(h1:bnd hi n c=some e)(h2:bnd lo 0 e=some l):
 (Instr.sliceBounds sl n (c+x) LO HI none).run P w=.ok (l,e,c+x) w:=by
 rcases sI hh h1 with⟨rfl,rfl⟩|⟨k,i,rfl,hi2,rfl⟩<;>rcases sI hl h2 with⟨rfl,rfl⟩|⟨k',i',rfl,hi',rfl⟩
 ·simp[Instr.sliceBounds]
 ·simp[Instr.sliceBounds,l9 (P:=P) w hi' (aZ _)]
 ·simp[Instr.sliceBounds,l9 (P:=P) w hi2 (kW c x)]
 ·simp[Instr.sliceBounds,l9 (P:=P) w hi2 (kW c x),l9 (P:=P) w hi' (aZ _)]
theorem CV {sl:Bool}{lo:Option AV}{LO:Option Value}(hl:cz γ lo LO){kh km:IntKind}{jh jm:Int}{n c e l m:Nat}(hm:bnd (some (.int km jm)) 0 c=some m)(h1:bnd (some (.int kh jh)) 0 m=some e)(h2:bnd lo 0 e=some l)(x:Nat):
 (Instr.sliceBounds sl n (c+x) LO (some (.int kh jh)) (some (.int km jm))).run P w=.ok (l,e,m) w:=by
 rcases sI (γ:=γ) (x:=some (.int km jm)) (X:=some (.int km jm)) (show ap γ _ _ from ap.int km jm) hm with⟨h,_⟩|⟨k,i,h,hm0,rfl⟩
 ·cases h
 cases h
 rcases sI (γ:=γ) (x:=some (.int kh jh)) (X:=some (.int kh jh)) (show ap γ _ _ from ap.int kh jh) h1 with⟨h,_⟩|⟨k,i,h,h10,rfl⟩
 ·cases h
 cases h
 rcases sI hl h2 with⟨rfl,rfl⟩|⟨k',i',rfl,hi',rfl⟩
 ·simp[Instr.sliceBounds,l9 (P:=P) w hm0 (kW c x),l9 (P:=P) w h10 (aZ _)]
 ·simp[Instr.sliceBounds,l9 (P:=P) w hm0 (kW c x),l9 (P:=P) w h10 (aZ _),l9 (P:=P) w hi' (aZ _)]
def yn (k:ai)(z b o n c:Nat)(lo hi mx:Option AV):Option AV:=
 match mx with
 |none=>
  match bnd hi n c with
  |none=>none
  |some e=>match bnd lo 0 e with
   |none=>none
   |some l=>
    bif k.opn then
     bif Nat.blt l c||Nat.beq l 0 then some (.slc b (o+l*z) (e-l) (c-l))
     else(bif Nat.beq e l then some .emp else none)
    else
     bif Nat.beq c l then some (.slc b o (e-l) (c-l))else(bif Nat.ble l c then some (.slc b (o+l*z) (e-l) (c-l))else none)
 |some (.int km jm)=>
  match hi with
  |some (.int kh jh)=>
   match bnd (some (.int km jm)) 0 c with
   |none=>none
   |some m=>match bnd (some (.int kh jh)) 0 m with
    |none=>none
    |some e=>match bnd lo 0 e with
     |none=>none
     |some l=>
      bif k.opn then
       bif Nat.beq m l&&Nat.beq e l then some .zer else none
      else
       bif Nat.beq m l then some (.slc b o (e-l) (m-l))else some (.slc b (o+l*z) (e-l) (m-l))
  |_=>none
 |_=>none
theorem sb {a b:Bool}(h:(a||b)=true):a=true∨b=true:=by simpa using h
theorem bq {a b:Bool}(h:(a&&b)=true):a=true∧b=true:=by simpa using h
theorem aN {a b:Nat}(h:Nat.beq a b=true):a=b:=co h
theorem nn {a b:Nat}(h:Nat.beq a b=false):a≠b:=lW h
theorem N7 {h:Tr ai}{nx:Nat}(hr:aQ γ h.get nx w){k:ai}{b B x o n c z:Nat}(hk:h.get b=some k)(hg:γ b=some (B,x)){lo hi mx:Option AV}{LO HI MX:Option Value}(hl:cz γ lo LO)(hh:cz γ hi HI)(hm:cz γ mx MX){v:AV}
 (hq:yn k z b o n c lo hi mx=some v):
 ∃l e m V,(Instr.sliceBounds true n (c+x) LO HI MX).run P w=.ok (l,e,m) w∧V=Value.slice (if m=l then some ⟨B,o,none⟩else(some (⟨B,o,none⟩:Addr)).map (·.add (l*z))) (e-l) (m-l)∧ap γ v V:=by
 have hx0:k.opn=false→x=0:=by
  intro ho
  obtain⟨B',x',cs,ex,g1,g2,g3,g4,g5⟩:=hr.blk b k hk
  rw[hg]at g1;cases g1;exact g5 ho
 unfold yn at hq
 split at hq
 ·cases MX with
  |some V=>simp[cz]at hm
  |none=>
   split at hq
   ·cases hq
   ·rename_i e he
    split at hq
    ·cases hq
    ·rename_i l hl2
     refine⟨l,e,c+x,_,ud w hl hh he hl2,rfl,?_⟩
     cases ho:k.opn with
     |true=>
      simp only[ho,aM]at hq
      cases hc:(Nat.blt l c||Nat.beq l 0)with
      |true=>
       simp only[hc,aM,bw]at hq
       subst hq
       rcases sb hc with h1|h1
       ·have h1':l<c:=aU h1
        rw[if_neg om]
        have:c+x-l=(c-l)+x:=by omega
        rw[this,kz,dg]
        exact .slc _ _ _ hg
       ·have h1':=aN h1
        subst h1'
        have:(if c+x=0 then some (⟨B,o,none⟩:Addr)else(some (⟨B,o,none⟩:Addr)).map (·.add (0*z)))=some ⟨B,o+0*z,none⟩:=by
         split<;>simp[dg]
        rw[this]
        simp only[Nat.sub_zero]
        exact .slc _ _ _ hg
      |false=>
       simp only[hc,bg]at hq
       cases he2:Nat.beq e l with
       |false=>simp[he2]at hq
       |true=>
        simp only[he2,aM,bw]at hq
        subst hq
        have:=aN he2
        subst this
        rw[Nat.sub_self]
        exact .emp _ _
     |false=>
      simp only[ho,bg]at hq
      have hx1:=hx0 ho
      subst hx1
      cases hc:Nat.beq c l with
      |true=>
       simp only[hc,aM,bw]at hq
       subst hq
       have:=aN hc
       rw[if_pos om]
       have e3:c+0-l=(c-l)+0:=by omega
       rw[e3]
       exact .slc _ _ _ hg
      |false=>
       simp only[hc,bg]at hq
       cases hb:Nat.ble l c with
       |false=>simp[hb]at hq
       |true=>
        simp only[hb,aM,bw]at hq
        subst hq
        have:=nn hc
        have:=aU hb
        rw[if_neg om]
        have e3:c+0-l=(c-l)+0:=by omega
        rw[e3,kz,dg]
        exact .slc _ _ _ hg
 ·rename_i km jm
  cases MX with
  |none=>simp[cz]at hm
  |some MV=>
   simp only[cz]at hm
   cases hm
   split at hq
   ·rename_i kh jh
    cases HI with
    |none=>simp[cz]at hh
    |some HV=>
     simp only[cz]at hh
     cases hh
     split at hq
     ·cases hq
     ·rename_i m hm2
      split at hq
      ·cases hq
      ·rename_i e he
       split at hq
       ·cases hq
       ·rename_i l hl2
        refine⟨l,e,m,_,CV w hl hm2 he hl2 x,rfl,?_⟩
        have hme:e≤m:=by
         simp[bnd]at he
         omega
        have hle:l≤e:=by
         cases lo with
         |none=>simp[bnd]at hl2;omega
         |some v=>cases v<;>simp[bnd]at hl2;omega
        cases ho:k.opn with
        |true=>
         simp only[ho,aM]at hq
         cases hc:(Nat.beq m l&&Nat.beq e l)with
         |false=>simp[hc]at hq
         |true=>
          simp only[hc,aM,bw]at hq
          subst hq
          obtain⟨c1,c2⟩:=bq hc
          have:=aN c1
          have:=aN c2
          rw[if_pos om,show e-l=0 by omega,show m-l=0 by omega]
          exact .zer _
        |false=>
         simp only[ho,bg]at hq
         have hx1:=hx0 ho
         subst hx1
         cases hc:Nat.beq m l with
         |true=>
          simp only[hc,aM,bw]at hq
          subst hq
          rw[if_pos (aN hc)]
          exact .slc (x:=0) _ _ _ hg
         |false=>
          simp only[hc,bg,bw]at hq
          subst hq
          rw[if_neg (nn hc),kz,dg]
          exact .slc (x:=0) _ _ _ hg
   ·cases hq
 ·cases hq
def iv:Option AV→Bool
 |none=>true
 |some (.int _ i)=>decide (i=0)
 |_=>false
noncomputable def z7 (ti:Tr TypeInfo)(h:Tr ai)(t:Nat)(x:AV)(lo hi mx:Option AV):Option AV:=
 match bE ti t with
 |some .string=>match x,mx with
  |.str s,none=>match bnd hi s.size s.size with
   |none=>none
   |some e=>match bnd lo 0 e with
    |none=>none
    |some l=>some (.str (s.extract l e))
  |_,_=>none
 |some (.slice el)=>match cx ti el with
  |none=>none
  |some z=>match x with
   |.slc b o n c=>match h.get b with
    |none=>none
    |some k=>yn k z b o n c lo hi mx
   |.nils=>match mx with
    |none=>bif iv lo&&iv hi then some .nils else none
    |some (.int _ 0)=>match hi with
     |some (.int _ 0)=>bif iv lo then some .nils else none
     |_=>none
    |_=>none
   |.emp=>match mx with
    |none=>bif iv lo&&iv hi then some .emp else none
    |some (.int _ 0)=>match hi with
     |some (.int _ 0)=>bif iv lo then some .emp else none
     |_=>none
    |_=>none
   |.zer=>match mx with
    |none=>bif iv lo&&iv hi then some .zer else none
    |some (.int _ 0)=>match hi with
     |some (.int _ 0)=>bif iv lo then some .zer else none
     |_=>none
    |_=>none
   |_=>none
 |some (.array n el)=>match cx ti el with
  |none=>none
  |some z=>match x,mx with
   |.ptr b o,none=>match h.get b with
    |none=>none
    |some k=>bif k.opn then none else
     match bnd hi n n with
     |none=>none
     |some e=>match bnd lo 0 e with
      |none=>none
      |some l=>bif Nat.beq n l then some (.slc b o (e-l) (n-l))else(bif Nat.ble l n then some (.slc b (o+l*z) (e-l) (n-l))else none)
   |_,_=>none
 |_=>none
theorem yp {x:Option AV}(h:iv x=true)(y:Nat):bnd x 0 y=some 0:=by
 unfold iv at h
 split at h
 ·rfl
 ·rename_i k i
  have:i=0:=by simpa using h
  subst this
  simp[bnd]
 ·cases h
include ht in
theorem NU {t el z:Nat}(hd:bE ti t=some (.slice el))(hz:cx ti el=some z){lo hi:Option AV}{LO HI:Option Value}(hl:cz γ lo LO)(hh:cz γ hi HI)(b1:iv lo=true)(b2:iv hi=true)(a:Option Addr)(c:Nat):
 (Instr.sliceAt t (.slice a 0 c) LO HI none).run P w=.ok (.slice a 0 c) w:=by
 have h0:=ud (P:=P) (sl:=true) (n:=0) (c:=0) (x:=c) w hl hh (yp b2 _) (yp b1 _)
 rw[gN]at h0
 have e:(if c=0 then a else a.map (·.add (0*z)))=a:=by
  split
  ·rfl
  ·cases a<;>simp[Addr.add]
 simp only[Instr.sliceAt,Instr.slice,Sem.run_bind,bC ht hd,Result.andThen_ok,h0,df ht hz,Sem.run_pure,Nat.sub_zero,e]
include ht in
theorem NQ {t el z:Nat}(hd:bE ti t=some (.slice el))(hz:cx ti el=some z){lo:Option AV}{LO:Option Value}(hl:cz γ lo LO)(b1:iv lo=true)(kh km:IntKind)(a:Option Addr)(c:Nat):
 (Instr.sliceAt t (.slice a 0 c) LO (some (.int kh 0)) (some (.int km 0))).run P w=.ok (.slice a 0 0) w:=by
 have h0:=CV (P:=P) (sl:=true) (kh:=kh) (km:=km) (jh:=0) (jm:=0) (n:=0) (c:=0) w hl (m:=0) (e:=0) (by simp[bnd]) (by simp[bnd]) (yp b1 0) c
 rw[gN]at h0
 simp only[Instr.sliceAt,Instr.slice,Sem.run_bind,bC ht hd,Result.andThen_ok,h0,df ht hz,Sem.run_pure,Nat.sub_zero,fH]
include ht in
theorem PH {h:Tr ai}{nx:Nat}(hr:aQ γ h.get nx w){t:Nat}{x v:AV}{X:Value}(hx:ap γ x X){lo hi mx:Option AV}{LO HI MX:Option Value}(hl:cz γ lo LO)(hh:cz γ hi HI)(hm:cz γ mx MX)
 (hq:z7 ti h t x lo hi mx=some v):∃V,(Instr.sliceAt t X LO HI MX).run P w=.ok V w∧ap γ v V:=by
 unfold z7 at hq
 split at hq
 ·rename_i hd
  split at hq
  ·rename_i s
   cases hx
   cases MX with
   |some V=>simp[cz]at hm
   |none=>
    split at hq
    ·cases hq
    ·rename_i e he
     split at hq
     ·cases hq
     ·rename_i l hl2
      cases hq
      have:=ud (P:=P) (sl:=false) (x:=0) w hl hh he hl2
      rw[gj]at this
      exact⟨_,by simp[Instr.sliceAt,Instr.slice,bC ht hd,this],.str _⟩
  ·cases hq
 ·rename_i el hd
  split at hq
  ·cases hq
  ·rename_i z hz
   split at hq
   ·rename_i b o n c
    cases hx with
    |slc _ _ _ hg=>
     split at hq
     ·cases hq
     ·rename_i k hk
      obtain⟨l,e,m,V,h1,h2,h3⟩:=N7 (P:=P) w hr hk hg hl hh hm hq
      exact⟨V,by rw[h2];simp only[Instr.sliceAt,Instr.slice,Sem.run_bind,bC ht hd,Result.andThen_ok,h1,df ht hz,Sem.run_pure],h3⟩
   all_goals first
    |(cases hq;done)
    |skip
   all_goals
    split at hq
    ·cases hb:(iv lo&&iv hi)with
     |false=>simp[hb]at hq
     |true=>
      simp only[hb,aM,bw]at hq
      subst hq
      cases MX with
      |some V=>simp[cz]at hm
      |none=>
       obtain⟨b1,b2⟩:=bq hb
       have key:=fun a c=>NU (P:=P) ht w hd hz hl hh b1 b2 a c
       cases hx
       exact⟨_,key _ _,by first|exact .nils|exact .zer _|exact .emp _ _⟩
    ·split at hq
     ·cases hb:iv lo with
      |false=>simp[hb]at hq
      |true=>
       simp only[hb,aM,bw]at hq
       subst hq
       cases MX with
       |none=>simp[cz]at hm
       |some MV=>
        simp only[cz]at hm
        cases hm
        cases HI with
        |none=>simp[cz]at hh
        |some HV=>
         simp only[cz]at hh
         cases hh
         have key:=fun kh km a c=>NQ (P:=P) ht w hd hz hl hb kh km a c
         cases hx
         exact⟨_,key _ _ _ _,by first|exact .nils|exact .zer _|exact .emp _ _⟩
     ·cases hq
    ·cases hq
 ·rename_i n el hd
  split at hq
  ·cases hq
  ·rename_i z hz
   split at hq
   ·rename_i b o
    cases hx with
    |ptr _ hg=>
     rename_i B x
     cases MX with
     |some V=>simp[cz]at hm
     |none=>
      split at hq
      ·cases hq
      ·rename_i k hk
       cases ho:k.opn with
       |true=>simp[ho]at hq
       |false=>
        have hx0:x=0:=by
         obtain⟨B',x',cs,ex,g1,g2,g3,g4,g5⟩:=hr.blk b k hk
         rw[hg]at g1;cases g1;exact g5 ho
        subst hx0
        simp only[ho,bg]at hq
        split at hq
        ·cases hq
        ·rename_i e he
         split at hq
         ·cases hq
         ·rename_i l hl2
          have h0:=ud (P:=P) (sl:=false) (x:=0) w hl hh he hl2
          rw[gj]at h0
          cases hc:Nat.beq n l with
          |true=>
           simp only[hc,aM,bw]at hq
           subst hq
           refine⟨.slice (some (if n=l then⟨B,o,none⟩else(⟨B,o,none⟩:Addr).add (l*z))) (e-l) (n-l),by simp only[Instr.sliceAt,Sem.run_bind,bC ht hd,Result.andThen_ok,Instr.sureAddr,h0,df ht hz,Sem.run_pure],?_⟩
           rw[if_pos (aN hc)]
           exact .slc (x:=0) _ _ _ hg
          |false=>
           simp only[hc,bg]at hq
           cases hb:Nat.ble l n with
           |false=>simp[hb]at hq
           |true=>
            simp only[hb,aM,bw]at hq
            subst hq
            refine⟨.slice (some (if n=l then⟨B,o,none⟩else(⟨B,o,none⟩:Addr).add (l*z))) (e-l) (n-l),by simp only[Instr.sliceAt,Sem.run_bind,bC ht hd,Result.andThen_ok,Instr.sureAddr,h0,df ht hz,Sem.run_pure],?_⟩
            rw[if_neg (nn hc),dg]
            exact .slc (x:=0) _ _ _ hg
   ·cases hq
 ·cases hq
end
inductive qB (γ:Gm):List (Nat×AV)→List (Nat×Value)→Prop
 |nil:qB γ [] []
 |cons (i:Nat) {v:AV} {V:Value} {ps:List (Nat×AV)} {Ps:List (Nat×Value)} (h:ap γ v V) (t:qB γ ps Ps):qB γ ((i,v)::ps) ((i,V)::Ps)
theorem D0 (off:Nat):∀(vs:List Value)(k:Nat)(cells:Array Value),off+k+vs.length≤cells.size→
 ((vs.zipIdx k).foldl (fun(cs:Array Value)(p:Value×Nat)=>cs.setIfInBounds (off+p.2) p.1) cells).toList=cells.toList.take (off+k)++vs++cells.toList.drop (off+k+vs.length)
 |[],k,cells,_=>by simp
 |v::vs,k,cells,h=>by
  simp only[cR]at h
  simp only[List.zipIdx_cons,lZ]
  rw[D0 off vs (k+1) _ (by simp;omega)]
  have:=list_seg_step cells.toList (off+k) v vs (by simp;omega)
  simp only[Array.toList_setIfInBounds,cR]
  rw[show off+(k+1)=off+k+1 by omega]
  exact this
def mh (place:Nat→Option (Nat×Nat))(cells:List AV):List (Nat×AV)→Option (List AV)
 |[]=>some cells
 |(i,v)::rest=>
  match place i with
  |none=>none
  |some (off,size)=>
   bif Nat.beq v.cells.length size&&Nat.ble (off+size) cells.length then mh place (cells.take off++v.cells++cells.drop (off+size)) rest
   else none
theorem yP {γ:Gm}{place Place:Nat→Option (Nat×Nat)}(hp:∀i p,place i=some p→Place i=some p):
 ∀{ps:List (Nat×AV)}{Ps:List (Nat×Value)}(h:qB γ ps Ps){cs:List AV}{Cs:Array Value}(hc:au γ cs Cs.toList){r:List AV}(hq:mh place cs ps=some r),
 ∃R,Instr.fill Place Cs Ps=some R∧au γ r R.toList:=by
 intro ps
 induction ps with
 |nil=>
  intro Ps h cs Cs hc r hq
  cases h
  simp only[mh,bw]at hq
  subst hq
  exact⟨Cs,rfl,hc⟩
 |cons p ps ih=>
  intro Ps h cs Cs hc r hq
  cases h with
  |cons i hv ht=>
   rename_i v V Ps'
   simp only[mh]at hq
   cases hpl:place i with
   |none=>simp[hpl]at hq
   |some q=>
    obtain⟨off,size⟩:=q
    simp only[hpl]at hq
    cases hb:(Nat.beq v.cells.length size&&Nat.ble (off+size) cs.length)with
    |false=>simp[hb]at hq
    |true=>
     simp only[hb,aM]at hq
     obtain⟨b1,b2⟩:=bq hb
     have b1:=aN b1
     have b2:=aU b2
     have hvc:=hv.cells
     have hvl:=hvc.length
     have hcl:=hc.length
     have hsz:V.cells.size=size:=by rw[←b1,←hvl];simp
     have hcs:cs.length=Cs.size:=by rw[←hcl];simp
     have hst:=D0 off V.cells.toList 0 Cs (by simp;omega)
     simp only[gj,tZ]at hst
     have hfold:(V.cells.zipIdx.foldl (fun(cs:Array Value)(p:Value×Nat)=>cs.setIfInBounds (off+p.2) p.1) Cs).toList=Cs.toList.take off++V.cells.toList++Cs.toList.drop (off+size):=by
      rw[←hsz,←hst,←Array.foldl_toList]
      simp
     obtain⟨R,h1,h2⟩:=ih ht (cs:=cs.take off++v.cells++cs.drop (off+size)) (Cs:=V.cells.zipIdx.foldl (fun(cs:Array Value)(p:Value×Nat)=>cs.setIfInBounds (off+p.2) p.1) Cs)
      (by rw[hfold];exact((hc.take off).append hvc).append (hc.drop _)) hq
     refine⟨R,?_,h2⟩
     simp only[Instr.fill,hp i _ hpl]
     rw[if_neg (by simp[hsz];omega)]
     exact h1
def iX (ti:Tr TypeInfo)(t:Nat):Option (List AV):=
 match ti.get t with
 |none=>none
 |some i=>match i.zero with
  |none=>none
  |some z=>match s9 z with
   |none=>none
   |some v=>some v.cells
def qc (ti:Tr TypeInfo):List Field→Option (List (Nat×Nat))
 |[]=>some []
 |f::fs=>match cx ti f.type with
  |none=>none
  |some n=>match qc ti fs with
   |none=>none
   |some ps=>some ((f.offset,n)::ps)
section
variable {P:Program}{ti:Tr TypeInfo}(ht:dM P ti){γ:Gm}(w:World)
include ht in
theorem mb {t:Nat}{cs:List AV}(h:iX ti t=some cs):∃i Z,P.info? t=some i∧i.zero=some Z∧au γ cs Z.cells.toList:=by
 unfold iX at h
 split at h
 ·cases h
 ·rename_i i hi
  split at h
  ·cases h
  ·rename_i z hz
   split at h
   ·cases h
   ·rename_i v hv
    cases h
    exact⟨i,z,ht _ _ hi,hz,(uJ γ hv).cells⟩
include ht in
theorem yQ {t:Nat}{cs:List AV}(h:iX ti t=some cs):∃Z,(zeroValue t).run P w=.ok Z w∧au γ cs Z.cells.toList:=by
 obtain⟨i,Z,hi,hz,hr⟩:=mb (γ:=γ) ht h
 exact⟨Z,by simp[zeroValue,typeInfo,hi,hz],hr⟩
include ht in
theorem OQ {fs:List Field}{ps:List (Nat×Nat)}(h:qc ti fs=some ps):(fs.mapM (fun f=>do pure (f.offset,←sizeOf f.type):Field→Sem (Nat×Nat))).run P w=.ok ps w:=by
 induction fs generalizing ps with
 |nil=>simp[qc]at h;subst h;rfl
 |cons f fs ih=>
  simp only[qc]at h
  split at h
  ·cases h
  ·rename_i n hn
   split at h
   ·cases h
   ·rename_i ps' hps
    cases h
    have:=ih hps
    rw[List.mapM_cons]
    simp only[Sem.run_bind,df ht hn,Result.andThen_ok,Sem.run_pure,this]
def zU (ti:Tr TypeInfo)(t:Nat)(ps:List (Nat×AV)):Option AV:=
 match iX ti t with
 |none=>none
 |some z=>match bE ti t with
  |some (.struct fields)=>match qc ti fields.toList with
   |none=>none
   |some pl=>match mh (fun i=>pl[i]?) z ps with
    |none=>none
    |some cs=>some (.agg cs)
  |some (.array _ e)=>match cx ti e with
   |none=>none
   |some size=>match mh (fun i=>some (i*size,size)) z ps with
    |none=>none
    |some cs=>some (.agg cs)
  |_=>none
include ht in
theorem Pz {t:Nat}{ps:List (Nat×AV)}{Ps:Array (Nat×Value)}(hp:qB γ ps Ps.toList){v:AV}(hq:zU ti t ps=some v):∃V,(Instr.build t Ps).run P w=.ok V w∧ap γ v V:=by
 unfold zU at hq
 cases hz:iX ti t with
 |none=>simp[hz]at hq
 |some z=>
  simp only[hz]at hq
  obtain⟨Z,hz1,hz2⟩:=yQ (P:=P) (γ:=γ) ht w hz
  split at hq
  ·rename_i fields hd
   cases hpl:qc ti fields.toList with
   |none=>simp[hpl]at hq
   |some pl=>
    simp only[hpl]at hq
    cases hf:mh (fun i=>pl[i]?) z ps with
    |none=>simp[hf]at hq
    |some cs=>
     simp only[hf,bw]at hq
     subst hq
     obtain⟨R,h1,h2⟩:=yP (Place:=fun i=>pl.toArray[i]?) (fun i p h=>by simpa using h) hp hz2 hf
     refine⟨.agg R,?_,?_⟩
     ·have hm:=OQ (P:=P) ht w hpl
      simp only[Instr.build,Sem.run_bind,hz1,Result.andThen_ok,bC ht hd,Array.mapM_eq_mapM_toList,Sem.run_map,hm]
      rw[h1]
      simp
     ·have:=ap.agg h2
      simpa using this
  ·rename_i n e hd
   cases hs:cx ti e with
   |none=>simp[hs]at hq
   |some size=>
    simp only[hs]at hq
    cases hf:mh (fun i=>some (i*size,size)) z ps with
    |none=>simp[hf]at hq
    |some cs=>
     simp only[hf,bw]at hq
     subst hq
     obtain⟨R,h1,h2⟩:=yP (Place:=fun i=>some (i*size,size)) (fun i p h=>h) hp hz2 hf
     refine⟨.agg R,?_,?_⟩
     ·simp only[Instr.build,Sem.run_bind,hz1,Result.andThen_ok,bC ht hd,df ht hs]
      rw[h1]
      simp
     ·have:=ap.agg h2
      simpa using this
  ·cases hq
def nt:List AV→Option (List Value)
 |[]=>some []
 |.int k n::l=>match nt l with
  |none=>none
  |some vs=>some (.int k n::vs)
 |_=>none
theorem uE {vs:List AV}{Vs Us:List Value}(h:au γ vs Vs)(hi:nt vs=some Us):Vs=Us:=by
 induction vs generalizing Vs Us with
 |nil=>cases h;simp[nt]at hi;exact hi.symm▸rfl
 |cons v vs ih=>
  cases h with
  |cons hv ht=>
   cases v<;>simp[nt]at hi
   split at hi
   ·cases hi
   ·rename_i us hus
    cases hi
    cases hv
    rw[ih ht hus]
def zV (ti:Tr TypeInfo)(t:Nat)(x:AV):Option AV:=
 match bE ti t with
 |none=>none
 |some (.interface _)=>none
 |some _=>some (.ifc t x)
include ht in
theorem PA {t:Nat}{x v:AV}{X:Value}(hx:ap γ x X)(hq:zV ti t x=some v):∃V,(Instr.makeInterface t X).run P w=.ok V w∧ap γ v V:=by
 unfold zV at hq
 split at hq
 ·cases hq
 ·cases hq
 ·rename_i d hn hd
  cases hq
  refine⟨_,?_,.ifc _ hx⟩
  simp only[Instr.makeInterface,Sem.run_bind,bC ht hd,Result.andThen_ok]
  cases d<;>first|rfl|exact absurd rfl (hn _)
end
def lP (ρ:Operand→Option AV):List Operand→Option (List AV)
 |[]=>some []
 |x::l=>match ρ x with
  |none=>none
  |some v=>match lP ρ l with
   |none=>none
   |some vs=>some (v::vs)
def qI (ρ:Operand→Option AV):List (Nat×Operand)→Option (List (Nat×AV))
 |[]=>some []
 |(i,x)::l=>match ρ x with
  |none=>none
  |some v=>match qI ρ l with
   |none=>none
   |some vs=>some ((i,v)::vs)
def ij (ρ:Operand→Option AV):Option Operand→Option (Option AV)
 |none=>some none
 |some x=>match ρ x with
  |none=>none
  |some v=>some (some v)
section
variable {γ:Gm}{ρ:Operand→Option AV}{R:Operand→Value}(hρ:∀x v,ρ x=some v→ap γ v (R x))
include hρ
theorem qn {l:List Operand}{vs:List AV}(h:lP ρ l=some vs):au γ vs (l.map R):=by
 induction l generalizing vs with
 |nil=>simp[lP]at h;subst h;exact .nil
 |cons x l ih=>
  simp only[lP]at h
  split at h
  ·cases h
  ·rename_i v hv
   split at h
   ·cases h
   ·rename_i us hus
    cases h
    exact .cons (hρ _ _ hv) (ih hus)
theorem FP {l:List (Nat×Operand)}{vs:List (Nat×AV)}(h:qI ρ l=some vs):qB γ vs (l.map fun p=>(p.1,R p.2)):=by
 induction l generalizing vs with
 |nil=>simp[qI]at h;subst h;exact .nil
 |cons p l ih=>
  obtain⟨i,x⟩:=p
  simp only[qI]at h
  split at h
  ·cases h
  ·rename_i v hv
   split at h
   ·cases h
   ·rename_i us hus
    cases h
    exact .cons i (hρ _ _ hv) (ih hus)
theorem qo {o:Option Operand}{v:Option AV}(h:ij ρ o=some v):cz γ v (o.map R):=by
 cases o with
 |none=>simp[ij]at h;subst h;trivial
 |some x=>
  simp only[ij]at h
  split at h
  ·cases h
  ·rename_i u hu;cases h;exact hρ _ _ hu
end
def qZ (ti:Tr TypeInfo)(lz:Nat→Nat→Nat→Nat→Bool)(h:Tr ai)(ρ:Operand→Option AV)(op:Op)(ty:Nat):Option AV:=
 match op with
 |.move x=>ρ x
 |.assign x=>ρ x
 |.pick c a b=>match ρ c with
  |some (.bool true)=>ρ a
  |some (.bool false)=>ρ b
  |_=>none
 |.load t a=>match ρ a with
  |none=>none
  |some x=>ta ti h t x
 |.nilCheck x=>match ρ x with
  |some (.ptr b o)=>some (.ptr b o)
  |some (.fn f vs)=>some (.fn f vs)
  |_=>none
 |.binOp op t x y _=>match ρ x with
  |none=>none
  |some u=>match ρ y with
   |none=>none
   |some v=>wE ti op t x y u v
 |.unOp op _ x=>match ρ x with
  |none=>none
  |some u=>xH op u
 |.convert s d x=>match ρ x with
  |none=>none
  |some u=>AS ti lz h s d u
 |.makeInterface t x=>match ρ x with
  |none=>none
  |some u=>zV ti t u
 |.makeFunc (.func f) ⟨[]⟩ ⟨captured⟩=>match lP ρ captured with
  |none=>none
  |some vs=>some (.fn f vs)
 |.build t ⟨ps⟩=>match qI ρ ps with
  |none=>none
  |some vs=>zU ti t vs
 |.slice t x lo hi mx=>match ρ x with
  |none=>none
  |some u=>match ij ρ lo with
   |none=>none
   |some l=>match ij ρ hi with
    |none=>none
    |some e=>match ij ρ mx with
     |none=>none
     |some m=>z7 ti h t u l e m
 |.fieldAddr s x f=>match ρ x with
  |none=>none
  |some u=>ye ti s u f
 |.field s x f=>match ρ x with
  |none=>none
  |some u=>Ab ti s u f
 |.indexAddr t x i=>match ρ x with
  |none=>none
  |some u=>match ρ i with
   |none=>none
   |some v=>yf ti t u v
 |.index t x i=>match ρ x with
  |none=>none
  |some u=>match ρ i with
   |none=>none
   |some v=>Ac ti t u v
 |.extract x i=>match ρ x with
  |none=>none
  |some u=>yW u i
 |.call ⟨.builtin .len,⟨[x]⟩,⟨t::_⟩⟩=>match ρ x with
  |none=>none
  |some u=>Bm ti t u
 |.call ⟨.builtin .unsafeSliceData,⟨[x]⟩,_⟩=>match ρ x with
  |none=>none
  |some u=>AT u
 |.call ⟨.builtin .min,⟨xs⟩,ts⟩=>match lP ρ xs with
  |none=>none
  |some vs=>match nt vs with
   |none=>none
   |some us=>li (Builtin.min_ ts ty us.toArray)
 |.call ⟨.builtin .max,⟨xs⟩,ts⟩=>match lP ρ xs with
  |none=>none
  |some vs=>match nt vs with
   |none=>none
   |some us=>li (Builtin.max_ ts ty us.toArray)
 |_=>none
theorem Wd {P:Program}{ti:Tr TypeInfo}(ht:dM P ti){lz:Nat→Nat→Nat→Nat→Bool}(hlz:sJ P lz){γ:Gm}{h:Tr ai}{nx:Nat}{w:World}(hr:aQ γ h.get nx w){ρ:Operand→Option AV}{R:Operand→Value}(hρ:∀x v,ρ x=some v→ap γ v (R x)){o:Oper}{v:AV}
 (hq:qZ ti lz h ρ o.op o.type=some v):∃V,(execOp R o).run P w=.ok (.value V) w∧ap γ v V:=by
 obtain⟨dst,op,ty,pos,after,guard⟩:=o
 simp only at hq
 unfold qZ at hq
 split at hq
 ·exact⟨_,rfl,hρ _ _ hq⟩
 ·exact⟨_,rfl,hρ _ _ hq⟩
 ·rename_i c a b
  split at hq
  ·rename_i hc
   have h1:=hρ _ _ hc
   cases hR:R c<;>rw[hR]at h1<;>cases h1
   exact⟨R a,by simp[execOp,hR,asBool],hρ _ _ hq⟩
  ·rename_i hc
   have h1:=hρ _ _ hc
   cases hR:R c<;>rw[hR]at h1<;>cases h1
   exact⟨R b,by simp[execOp,hR,asBool],hρ _ _ hq⟩
  ·cases hq
 ·rename_i t a
  split at hq
  ·cases hq
  ·rename_i x hx
   obtain⟨V,ad,h1,h2,h3⟩:=E3 ht hr (hρ _ _ hx) hq
   exact⟨V,by simp[execOp,Instr.loadAt,h1,Instr.sureAddr,h2],h3⟩
 ·rename_i x
  split at hq
  ·rename_i hx
   cases hq
   have h1:=hρ _ _ hx
   cases hR:R x<;>rw[hR]at h1<;>cases h1
   rename_i hg
   exact⟨_,by simp[execOp,hR],.ptr _ hg⟩
  ·rename_i hx
   cases hq
   have h1:=hρ _ _ hx
   cases hR:R x<;>rw[hR]at h1<;>cases h1
   rename_i hg
   exact⟨_,by simp[execOp,hR],.fn _ hg⟩
  ·cases hq
 ·rename_i op' t x y yt
  split at hq
  ·cases hq
  ·rename_i u hu
   split at hq
   ·cases hq
   ·rename_i v' hv
    obtain⟨V,h1,h2⟩:=F0 (P:=P) ht w (hρ _ _ hu) (hρ _ _ hv) hq
    refine⟨V,?_,h2⟩
    show((do let r←(do eqGuard op' t x y (R x) (R y);binOp op' t (R x) (R y):Sem Value);pure (Next.value r)):Sem Next).run P w=_
    rw[Sem.run_bind,h1]
    rfl
 ·rename_i op' t x
  split at hq
  ·cases hq
  ·rename_i u hu
   obtain⟨V,h1,h2⟩:=Hx (P:=P) w (hρ _ _ hu) hq
   exact⟨V,by simp[execOp,h1],h2⟩
 ·rename_i s d x
  split at hq
  ·cases hq
  ·rename_i u hu
   obtain⟨V,h1,h2⟩:=Rt (P:=P) ht w hlz hr (hρ _ _ hu) hq
   exact⟨V,by simp[execOp,h1],h2⟩
 ·rename_i t x
  split at hq
  ·cases hq
  ·rename_i u hu
   obtain⟨V,h1,h2⟩:=PA (P:=P) ht w (hρ _ _ hu) hq
   exact⟨V,by simp[execOp,h1],h2⟩
 ·rename_i f captured
  split at hq
  ·cases hq
  ·rename_i vs hvs
   cases hq
   refine⟨.func (.func f) #[] (captured.map R).toArray,?_,.fn f (qn hρ hvs)⟩
   simp[execOp,Instr.makeFunc]
 ·rename_i t ps
  split at hq
  ·cases hq
  ·rename_i vs hvs
   have hp:=FP hρ hvs
   obtain⟨V,h1,h2⟩:=Pz (P:=P) (Ps:=(ps.map fun p=>(p.1,R p.2)).toArray) ht w (by simpa using hp) hq
   refine⟨V,?_,h2⟩
   simp only[execOp]
   have e:(Array.map (fun x:Nat×Operand=>(x.1,R x.2)) ⟨ps⟩)=(ps.map fun p=>(p.1,R p.2)).toArray:=by simp
   show((do let r←Instr.build t (Array.map (fun x:Nat×Operand=>(x.1,R x.2)) ⟨ps⟩);pure (Next.value r)):Sem Next).run P w=_
   rw[e,Sem.run_bind,h1]
   rfl
 ·rename_i t x lo hi mx
  split at hq
  ·cases hq
  ·rename_i u hu
   split at hq
   ·cases hq
   ·rename_i l hl
    split at hq
    ·cases hq
    ·rename_i e he
     split at hq
     ·cases hq
     ·rename_i m hm
      obtain⟨V,h1,h2⟩:=PH (P:=P) ht w hr (hρ _ _ hu) (qo hρ hl) (qo hρ he) (qo hρ hm) hq
      exact⟨V,by simp[execOp,h1],h2⟩
 ·rename_i s x f
  split at hq
  ·cases hq
  ·rename_i u hu
   obtain⟨V,h1,h2⟩:=NX (P:=P) ht w (hρ _ _ hu) hq
   exact⟨V,by simp[execOp,h1],h2⟩
 ·rename_i s x f
  split at hq
  ·cases hq
  ·rename_i u hu
   obtain⟨V,h1,h2⟩:=PN (P:=P) ht w (hρ _ _ hu) hq
   exact⟨V,by simp[execOp,h1],h2⟩
 ·rename_i t x i
  split at hq
  ·cases hq
  ·rename_i u hu
   split at hq
   ·cases hq
   ·rename_i v' hv
    obtain⟨V,h1,h2⟩:=NY (P:=P) ht w (hρ _ _ hu) (hρ _ _ hv) hq
    exact⟨V,by simp[execOp,h1],h2⟩
 ·rename_i t x i
  split at hq
  ·cases hq
  ·rename_i u hu
   split at hq
   ·cases hq
   ·rename_i v' hv
    obtain⟨V,h1,h2⟩:=PO (P:=P) ht w (hρ _ _ hu) (hρ _ _ hv) hq
    exact⟨V,by simp[execOp,h1],h2⟩
 ·rename_i x i
  split at hq
  ·cases hq
  ·rename_i u hu
   obtain⟨V,h1,h2⟩:=Ov (P:=P) w (hρ _ _ hu) hq
   exact⟨V,by simp[execOp,h1],h2⟩
 ·rename_i x t ts
  split at hq
  ·cases hq
  ·rename_i u hu
   obtain⟨V,h1,h2⟩:=Ua (P:=P) (ty:=ty) (ts:=⟨t::ts⟩) (Xs:=#[R x]) ht w si si (hρ _ _ hu) hq
   refine⟨V,?_,h2⟩
   simp[execOp,resolve,invoke,builtin,h1]
 ·rename_i x ts
  split at hq
  ·cases hq
  ·rename_i u hu
   obtain⟨V,h1,h2⟩:=Ru (P:=P) w (hρ _ _ hu) hq ts ty
   refine⟨V,?_,h2⟩
   simp[execOp,resolve,invoke,builtin,h1]
 ·rename_i xs ts
  split at hq
  ·cases hq
  ·rename_i vs hvs
   split at hq
   ·cases hq
   ·rename_i us hus
    obtain⟨V,h1,h2⟩:=m7 γ hq
    have e:=uE (qn hρ hvs) hus
    refine⟨V,?_,h2⟩
    have e2:Array.map R ⟨xs⟩=us.toArray:=by rw[←e];simp
    simp[execOp,resolve,invoke,builtin,e2,h1]
 ·rename_i xs ts
  split at hq
  ·cases hq
  ·rename_i vs hvs
   split at hq
   ·cases hq
   ·rename_i us hus
    obtain⟨V,h1,h2⟩:=m7 γ hq
    have e:=uE (qn hρ hvs) hus
    refine⟨V,?_,h2⟩
    have e2:Array.map R ⟨xs⟩=us.toArray:=by rw[←e];simp
    simp[execOp,resolve,invoke,builtin,e2,h1]
 ·cases hq
def wX (z:List AV)(n:Nat):List AV:=(List.range n).map fun i=>z.getD (i%z.length) .nilif
theorem zO {γ:Gm}{z:List AV}{Z:Array Value}(h:au γ z Z.toList)(hz:z≠[])(n:Nat):au γ (wX z n) ((Array.range n).map (Z[·%Z.size]!)).toList:=by
 have hl:=h.length
 simp only[tZ]at hl
 have key:∀(l:List Nat),au γ (l.map fun i=>z.getD (i%z.length) .nilif) (l.map fun i=>Z[i%Z.size]!):=by
  intro l
  induction l with
  |nil=>exact .nil
  |cons i l ih=>
   refine .cons ?_ ih
   have hpos:0<z.length:=lV.2 hz
   have hlt:i%z.length<z.length:=kA _ hpos
   rcases h.get (i%z.length)with⟨h1,h2⟩|⟨v,V,h1,h2,h3⟩
   ·rw[List.getElem?_eq_none_iff]at h1;omega
   ·show ap γ (z.getD (i%z.length) AV.nilif) (Z[i%Z.size]!)
    rw[cj,h1,hl]
    simp only[Option.getD_some]
    simp only[Array.getElem?_toList]at h2
    rw[getElem!_pos Z (i%z.length) om]
    have:Z[i%z.length]'om=V:=by
     rw[Array.getElem?_eq_getElem om]at h2
     exact xR h2
    rw[this]
    exact h3
 rw[Array.toList_map,Array.toList_range]
 exact key _
structure to where
 v:AV
 blk:ai
def lh (ti:Tr TypeInfo)(t:Nat):Option Nat:=match ti.get t with
 |none=>none
 |some i=>some i.bytes
theorem m8 {P:Program}{ti:Tr TypeInfo}(ht:dM P ti){t n:Nat}{i:TypeInfo}(h:lh ti t=some n)(hi:P.info? t=some i):i.bytes=n:=by
 unfold lh at h
 split at h
 ·cases h
 ·rename_i j hj
  rw[ht _ _ hj]at hi
  cases hi
  exact xR h
def Av (ti:Tr TypeInfo)(i t:Nat)(l c:AV):Option to:=
 match l,c with
 |.int _ l,.int _ c=>
  match bE ti t with
  |some (.slice el)=>
   match cx ti el,lh ti el,iX ti el with
   |some z,some by_,some zs=>
    bif decide (0≤l)&&decide (l≤c)&&decide (c≤1000000000)&&decide ((by_:Int)*c≤281474976710656)&&!zs.isEmpty then
     some ⟨.slc i 0 l.toNat c.toNat,⟨.plain (wX zs (c.toNat*z)),el,z,false,true⟩⟩
    else none
   |_,_,_=>none
  |_=>none
 |_,_=>none
def x8 (ti:Tr TypeInfo)(i t len:Nat)(ps:List (Nat×AV)):Option to:=
 match bE ti t with
 |some (.slice el)=>
  match cx ti el,iX ti el with
  |some z,some zs=>
   bif Nat.ble (len*z) 16777216&&!zs.isEmpty then
    match mh (fun j=>some (j*z,z)) (wX zs (len*z)) ps with
    |none=>none
    |some cs=>some ⟨.slc i 0 len len,⟨.plain cs,el,z,false,true⟩⟩
   else none
  |_,_=>none
 |_=>none
def pi (ti:Tr TypeInfo)(ρ:Operand→Option AV)(op:Op)(i:Nat):Option to:=
 match op with
 |.alloc el=>match iX ti el with
  |none=>none
  |some zs=>some ⟨.ptr i 0,⟨.plain zs,el,0,false,true⟩⟩
 |.box el x=>match ρ x with
  |none=>none
  |some v=>some ⟨.ptr i 0,⟨.plain v.cells,el,0,false,true⟩⟩
 |.buildSlice t len ⟨ps⟩=>match qI ρ ps with
  |none=>none
  |some vs=>x8 ti i t len vs
 |.makeSlice t l c=>match ρ l with
  |none=>none
  |some u=>match ρ c with
   |none=>none
   |some v=>Av ti i t u v
 |_=>none
section
variable {P:Program}{ti:Tr TypeInfo}(ht:dM P ti)
theorem vj {γ:Gm}{f:Hf}{nx:Nat}{w:World}(hr:aQ γ f nx w){i nx':Nat}(hi:γ i=none)(hi':i<nx')(hn:nx≤nx'){vs:List AV}{Vs:Array Value}(hv:au γ vs Vs.toList)(el z:Nat):
 bj γ f w (γ.put i (some (w.heap.size,0))) (dY f i (some ⟨.plain vs,el,z,false,true⟩)) nx' (w.alloc (.cells Vs el)):=by
 have:=hr.new i nx' hi hi' hn hv (ex:=[]) el z false 0 si (fun _=>rfl) (w1:=w) rfl rfl rfl rfl (aZ _)
 simpa using this
include ht in
theorem GM {γ:Gm}{f:Hf}{nx:Nat}{w:World}(hr:aQ γ f nx w){ρ:Operand→Option AV}{R:Operand→Value}(hρ:∀x v,ρ x=some v→ap γ v (R x)){o:Oper}{i nx':Nat}(hi:γ i=none)(hi':i<nx')(hn:nx≤nx'){m:to}
 (hq:pi ti ρ o.op i=some m):∃V w',(execOp R o).run P w=.ok (.value V) w'∧bj γ f w (γ.put i (some (w.heap.size,0))) (dY f i (some m.blk)) nx' w'∧ap (γ.put i (some (w.heap.size,0))) m.v V:=by
 obtain⟨dst,op,ty,pos,after,guard⟩:=o
 simp only at hq
 have hg:(γ.put i (some (w.heap.size,0))) i=some (w.heap.size,0):=Gm.put_same _ _ _
 unfold pi at hq
 split at hq
 ·rename_i el
  split at hq
  ·cases hq
  ·rename_i zs hz
   cases hq
   obtain⟨Z,h1,h2⟩:=yQ (P:=P) (γ:=γ) ht w hz
   refine⟨_,_,?_,vj hr hi hi' hn h2 el 0,.ptr 0 hg⟩
   simp[execOp,Instr.alloc,h1,newVar,newRow]
 ·rename_i el x
  split at hq
  ·cases hq
  ·rename_i v hv
   cases hq
   refine⟨_,_,?_,vj hr hi hi' hn (hρ _ _ hv).cells el 0,.ptr 0 hg⟩
   simp[execOp,Instr.box,newVar,newRow]
 ·rename_i t len ps
  split at hq
  ·cases hq
  ·rename_i vs hvs
   have hp:=FP hρ hvs
   unfold x8 at hq
   split at hq
   ·rename_i el hd
    split at hq
    ·rename_i z zs hz hzs
     cases hb:(Nat.ble (len*z) 16777216&&!zs.isEmpty)with
     |false=>simp[hb]at hq
     |true=>
      simp only[hb,aM]at hq
      obtain⟨b1,b2⟩:=bq hb
      have b1:=aU b1
      have hne:zs≠[]:=by intro e;rw[e]at b2;simp at b2
      split at hq
      ·cases hq
      ·rename_i cs hcs
       cases hq
       obtain⟨Z,h1,h2⟩:=yQ (P:=P) (γ:=γ) ht w hzs
       have hzl:zs.length=Z.cells.size:=by have:=h2.length;simpa using this.symm
       have hcy:=zO h2 hne (len*z)
       obtain⟨RR,g1,g2⟩:=yP (Place:=fun j=>some (j*z,z)) (fun _ _ h=>h) hp hcy hcs
       refine⟨_,_,?_,vj hr hi hi' hn g2 el z,.slc (x:=0) 0 len len hg⟩
       have e:(Array.map (fun x:Nat×Operand=>(x.1,R x.2)) ⟨ps⟩)=(ps.map fun p=>(p.1,R p.2)).toArray:=by simp
       show((do let r←Instr.buildSlice t len (Array.map (fun x:Nat×Operand=>(x.1,R x.2)) ⟨ps⟩);pure (Next.value r)):Sem Next).run P w=_
       rw[e]
       have hle:¬(len*z>2^24):=by omega
       simp only[Instr.buildSlice,Sem.run_bind,bC ht hd,Result.andThen_ok,df ht hz,Sem.run_ite,hle,iV]
       simp only[Sem.run_bind,Sem.run_pure,Result.andThen_ok,h1]
       have hfin:∀(a:Array Value),(if len*z=0 then a=#[]else a=Z.cells)→Instr.fill (fun j=>some (j*z,z)) ((Array.range (len*z)).map (a[·%a.size]!)) (ps.map fun p=>(p.1,R p.2))=some RR:=by
        intro a ha
        by_cases h0:len*z=0
        ·simp only[h0,fH]at ha
         subst ha
         rw[←g1]
         simp[h0,Array.range_zero']
        ·simp only[h0,iV]at ha
         subst ha
         exact g1
       by_cases h0:len*z=0
       ·simp only[h0,fH,Result.andThen_ok]
        have:=hfin #[] (by simp[h0])
        simp only[h0]at this
        simp only[this,newRow,Sem.run_bind,run_newObj,Result.andThen_ok,Sem.run_pure]
        rfl
       ·simp only[h0,iV,Result.andThen_ok]
        have:=hfin Z.cells (by simp[h0])
        simp[this,newRow]
    ·cases hq
   ·cases hq
 ·rename_i t l c
  split at hq
  ·cases hq
  ·rename_i u hu
   split at hq
   ·cases hq
   ·rename_i v hv
    have h1:=hρ _ _ hu
    have h2:=hρ _ _ hv
    unfold Av at hq
    split at hq
    ·rename_i kl l' kc c'
     cases hL:R l<;>rw[hL]at h1<;>cases h1
     cases hC:R c<;>rw[hC]at h2<;>cases h2
     split at hq
     ·rename_i el hd
      split at hq
      ·rename_i z by_ zs hz hby hzs
       cases hb:(decide (0≤l')&&decide (l'≤c')&&decide (c'≤1000000000)&&decide ((by_:Int)*c'≤281474976710656)&&!zs.isEmpty)with
       |false=>simp[hb]at hq
       |true=>
        simp only[hb,aM,bw]at hq
        subst hq
        simp only[aX,gC]at hb
        obtain⟨⟨⟨⟨b1,b2⟩,b3⟩,b4⟩,b5⟩:=hb
        have hne:zs≠[]:=by intro e;rw[e]at b5;simp at b5
        obtain⟨inf,Z,g1,g2,g3⟩:=mb (P:=P) (γ:=γ) ht hzs
        obtain⟨inf',q1,q2⟩:=j4 ht hz
        rw[g1]at q1
        cases q1
        have hbytes:inf.bytes=by_:=m8 ht hby g1
        have hu2:P.underlying t=some (.slice el):=ip ht hd
        have hrun:=run_make (P:=P) w t el inf Z hu2 g1 g2 kl kc l' c' b1 b2 (by rw[hbytes];exact b4) om
        have hcy:=zO g3 hne (c'.toNat*z)
        refine⟨_,_,?_,vj hr hi hi' hn hcy el z,.slc (x:=0) 0 l'.toNat c'.toNat hg⟩
        simp only[execOp,hL,hC,Sem.run_bind,hrun,Result.andThen_ok,Sem.run_pure]
        rw[←q2]
        simp[madeCells]
      ·cases hq
     ·cases hq
    ·cases hq
 ·cases hq
end
structure Hs where
 m:Tr ai
 nx:Nat
 tp:List Bool
 ms:List Prop
def X2 (k:ai)(o:Nat)(vs:List AV):ai:={k with view:=.plain (k.cells.take o++vs++k.cells.drop (o+vs.length))}
def qm (h:Tr ai)(b o:Nat)(vs:List AV):Option (Tr ai):=
 match h.get b with
 |none=>none
 |some k=>bif k.own&&vs.all AV.one&&Nat.ble (o+vs.length) k.cells.length then h.set b (some (X2 k o vs))else none
theorem eo {α:Type}{t t':Tr α}{n:Nat}{v:Option α}(h:t.set n v=some t'):t'.get=dY t.get n v:=by
 funext m
 rw[Tr.get_set h m]
 rfl
theorem uu {γ:Gm}{h h':Tr ai}{nx:Nat}{w:World}(hr:aQ γ h.get nx w){b B x o:Nat}(hg:γ b=some (B,x)){vs:List AV}{Vs:List Value}(hv:au γ vs Vs)(hq:qm h b o vs=some h')(P:Program):
 ∃w',(storeCells ⟨B,o,none⟩ Vs).run P w=.ok () w'∧bj γ h.get w γ h'.get nx w':=by
 unfold qm at hq
 cases hk:h.get b with
 |none=>simp[hk]at hq
 |some k=>
  simp only[hk]at hq
  cases hb:(k.own&&vs.all AV.one&&Nat.ble (o+vs.length) k.cells.length)with
  |false=>simp[hb]at hq
  |true=>
   simp only[hb,aM]at hq
   obtain⟨b1,b2⟩:=bq hb
   obtain⟨b0,b1⟩:=bq b1
   obtain⟨w',h1,h2⟩:=hr.store hk b0 hg o hv b1 (aU b2) P
   refine⟨w',h1,?_⟩
   rw[eo hq]
   exact h2
def vm (ti:Tr TypeInfo)(h:Tr ai)(t:Nat)(x v:AV):Option (Tr ai):=
 match x with
 |.ptr b o=>match cx ti t with
  |none=>none
  |some n=>bif Nat.beq v.cells.length n then qm h b o v.cells else none
 |_=>none
theorem DW {P:Program}{ti:Tr TypeInfo}(ht:dM P ti){γ:Gm}{h h':Tr ai}{nx:Nat}{w:World}(hr:aQ γ h.get nx w){t:Nat}{x v:AV}{X V:Value}(hx:ap γ x X)(hv:ap γ v V)(hq:vm ti h t x v=some h'):
 ∃w',(Instr.storeAt t X V).run P w=.ok () w'∧bj γ h.get w γ h'.get nx w':=by
 unfold vm at hq
 split at hq
 ·rename_i b o
  cases hx with
  |ptr _ hg=>
   split at hq
   ·cases hq
   ·rename_i n hn
    cases hb:Nat.beq v.cells.length n with
    |false=>simp[hb]at hq
    |true=>
     simp only[hb,aM]at hq
     have hc:=hv.cells
     have hl:=hc.length
     obtain⟨w',h1,h2⟩:=uu hr hg hc hq P
     refine⟨w',?_,h2⟩
     have hsz:V.cells.size=n:=by rw[←aN hb,←hl];simp
     simp[Instr.storeAt,Instr.sureAddr,storeVar,df ht hn,hsz,h1]
 ·cases hq
def fV (ts:Array TypeId):Sem Bool:=
 match ts[1]? with
 |some xType=>do pure ((←underlying xType) matches .int _)
 |none=>pure false
def fW (elem:TypeId)(zeros:Bool)(x:Value):Sem Nat:=
 if zeros then do
  let l:=w6.wrap (←asInt x)
  if l<0 then runtimePanic (.error "makeslice: len out of range")
  if l*(←typeInfo elem).bytes>2^48 then
   let made←choose (.extern "append.ofMake.carriedOut" 2)
   runtimePanic (.error (if made==1 then "makeslice: len out of range" else "growslice: len out of range"))
  pure l.toNat
  else Builtin.lenOf x
def gv (size:Nat)(elem:TypeId)(zeros:Bool)(n:Nat)(x:Value):Sem (Array Value):=
 if !zeros then Builtin.firstCells size n x
 else if n*size=0 then pure #[]
 else do pure (Builtin.zeroCells (←zeroValue elem).cells n)
def jF (argTypes:Array TypeId)(args:Array Value):Sem Value:=do
 let(some sType,some s,some x):=(argTypes[0]?,args[0]?,args[1]?)|stuck "append: two arguments expected"
 let .slice elem←underlying sType|stuck "append: slice type expected"
 let .slice base sLen sCap:=s|stuck "append: slice expected"
 let size←sizeOf elem
 let zeros←fV argTypes
 let n←fW elem zeros x
 let appended:Sem (Array Value):=gv size elem zeros n x
 let need:=sLen+n
 if need≤sCap then
  let new←appended
  if let some a:=base then storeCells (a.add (sLen*size)) new.toList
  pure (.slice base need sCap)
 else
  if(need:Int)>IntKind.i64.max∧(zeros∨(←typeInfo elem).bytes=0)then runtimePanic (.error "growslice: len out of range")
  if Builtin.nextslicecap need sCap*(←typeInfo elem).bytes>2^48 then(if zeros then runtimePanic (.error "growslice: len out of range")else do
   if !(←Builtin.mayShare size sLen n base x)then mark .noRoom
   unsupported (.resourceLimit "append: a slice or a string whose bytes no memory bears"))
  let newCap←choose (.appendCap need sCap elem)
  askRoom (newCap*(←typeInfo elem).bytes)
  let old←Builtin.firstCells size sLen s
  let new←appended
  let rest:=Builtin.zeroCells (←zeroValue elem).cells (newCap-need)
  pure (.slice (some (←newRow elem (old++new++rest))) need newCap)
theorem Px (elem:TypeId)(x:Value)(K:Nat→Sem Value):(fW elem true x >>= K)=(do
 let a←asInt x
 if w6.wrap a<0 then
  runtimePanic (.error "makeslice: len out of range")
 if w6.wrap a*(←typeInfo elem).bytes>2^48 then
  let made←choose (.extern "append.ofMake.carriedOut" 2)
  runtimePanic (.error (if made==1 then "makeslice: len out of range" else "growslice: len out of range"))
 K (w6.wrap a).toNat):=by
 unfold fW
 simp only[fH,bind_assoc]
 congr 1
 funext a
 by_cases h1:w6.wrap a<0
 ·simp only[h1,fH,bind_assoc]
  congr 1
  funext _
  congr 1
  funext ii
  by_cases h2:w6.wrap a*ii.bytes>2^48
  ·simp only[h2,fH,bind_assoc,pure_bind]
  ·simp only[h2,iV,pure_bind]
 ·simp only[h1,iV,bind_assoc]
  congr 1
  funext ii
  by_cases h2:w6.wrap a*ii.bytes>2^48
  ·simp only[h2,fH,bind_assoc,pure_bind]
  ·simp only[h2,iV,pure_bind]
theorem rN (ts:Array TypeId)(ty:TypeId)(args:Array Value):Builtin.append_ ts ty args=jF ts args:=by
 unfold Builtin.append_ jF fV fW gv
 cases ts[0]? <;>cases args[0]? <;>cases args[1]? <;>try rfl
 rename_i sType s x
 simp only[]
 congr 1
 funext d
 cases d<;>try rfl
 rename_i elem
 cases s<;>try rfl
 rename_i base sLen sCap
 simp only[]
 congr 1
 funext size
 cases ts[1]? with
 |none=>simp only[pure_bind,n5,iV];rfl
 |some xType=>
  simp only[bind_assoc,pure_bind]
  congr 1
  funext u
  cases u<;>try rfl
  symm
  refine(Px elem x _).trans ?_
  rfl
section
variable {P:Program}(w:World)
theorem pL {t0 e size n sLen sCap:Nat}{i:TypeInfo}{ts:Array TypeId}{args:Array Value}{base:Option Addr}{x:Value}{zeros:Bool}{news:List Value}
 (ht0:ts[0]? =some t0)(ha0:args[0]? =some (.slice base sLen sCap))(ha1:args[1]? =some x)(hu:P.underlying t0=some (.slice e))(hi:P.info? e=some i)(hs:i.size=size)
 (hz:(fV ts).run P w=.ok zeros w)(hn:(fW e zeros x).run P w=.ok n w)(ha:(gv size e zeros n x).run P w=.ok news.toArray w)(hroom:sLen+n≤sCap):
 (jF ts args).run P w=(match base with
   |some a=>((storeCells (a.add (sLen*size)) news).run P w).andThen fun _ w'=>.ok (.slice base (sLen+n) sCap) w'
   |none=>.ok (.slice base (sLen+n) sCap) w):=by
 unfold jF
 simp only[ht0,ha0,ha1,Sem.run_bind,run_underlying hu,Result.andThen_ok,sizeOf,typeInfo,run_program,hi,hs,Sem.run_pure,hz,hn,Sem.run_ite,hroom,fH,ha]
 cases base<;>simp
theorem NO {t0 e size n sLen sCap:Nat}{i:TypeInfo}{z:Value}{ts:Array TypeId}{args:Array Value}{base:Option Addr}{x:Value}{zeros:Bool}{olds news:List Value}
 (ht0:ts[0]? =some t0)(ha0:args[0]? =some (.slice base sLen sCap))(ha1:args[1]? =some x)(hu:P.underlying t0=some (.slice e))(hi:P.info? e=some i)(hs:i.size=size)(hz0:i.zero=some z)
 (hz:(fV ts).run P w=.ok zeros w)(hn:(fW e zeros x).run P w=.ok n w)(ha:(gv size e zeros n x).run P w.drew=.ok news.toArray w.drew)(ho:(Builtin.firstCells size sLen (.slice base sLen sCap)).run P w.drew=.ok olds.toArray w.drew)
 (hroom:sCap<sLen+n)(h63:sLen+n≤9223372036854775807)(hb:(sLen+n)*i.bytes≤140737488355328):
 (jF ts args).run P w=.ok (.slice (some ⟨w.heap.size,0,none⟩) (sLen+n) (grownCap w (sLen+n) sCap e))
   (w.drew.alloc (.cells (olds.toArray++news.toArray++Builtin.zeroCells z.cells (grownCap w (sLen+n) sCap e-(sLen+n))) e)):=by
 have h1:¬(sLen+n≤sCap):=by omega
 have h2:¬(((sLen+n:Nat):Int)>IntKind.i64.max):=by rw[IntKind.max_i64];omega
 have h3:¬(Builtin.nextslicecap (sLen+n) sCap*i.bytes>2^48):=by have:=growslice_fits hroom hb;omega
 unfold jF
 simp only[ht0,ha0,ha1,Sem.run_bind,run_underlying hu,Result.andThen_ok,sizeOf,typeInfo,run_program,hi,hs,Sem.run_pure,hz,hn,Sem.run_ite,h1,iV,h2,h3,false_and,run_choose,Question.forced,n5,World.drew_eq,run_askRoom,zeroValue,hz0,ha,ho,newRow,run_newObj,World.alloc_eq]
 rfl
end
def nB (ti:Tr TypeInfo)(h:Tr ai)(e z:Nat)(t:Nat)(x:AV):Option (Nat×List AV):=
 match bE ti t with
 |some (.slice _)=>match x with
  |.slc b o n _=>match h.get b with
   |none=>none
   |some k=>bif Nat.ble (o+n*z) k.cells.length then some (n,(k.cells.drop o).take (n*z))else none
  |.nils=>some (0,[])
  |.emp=>some (0,[])
  |.zer=>some (0,[])
  |_=>none
 |some .string=>match x with
  |.str s=>bif Nat.beq z 1 then some (s.size,s.data.toList.map fun b=>.int .u8 b.toNat)else none
  |_=>none
 |some (.int _)=>match x with
  |.int _ l=>match lh ti e,iX ti e with
   |some by_,some zs=>bif decide (0≤l)&&decide (l≤1000000)&&decide (l*by_≤281474976710656)&&!zs.isEmpty&&Nat.beq zs.length z then some (l.toNat,wX zs (l.toNat*z))else none
   |_,_=>none
  |_=>none
 |_=>none
theorem DX (γ:Gm)(l:List UInt8):au γ (l.map fun b=>.int .u8 b.toNat) (l.map fun b=>Value.int .u8 b.toNat):=by
 induction l with
 |nil=>exact .nil
 |cons b l ih=>exact .cons (.int _ _) ih
theorem sm {P:Program}{ti:Tr TypeInfo}(ht:dM P ti){γ:Gm}{h:Tr ai}{nx:Nat}{w:World}(hr:aQ γ h.get nx w){e z t:Nat}(hz:cx ti e=some z){x:AV}{X:Value}(hx:ap γ x X){n:Nat}{vs:List AV}(hq:nB ti h e z t x=some (n,vs))
 {ts:Array TypeId}(ht1:ts[1]? =some t):
 ∃zeros news,(fV ts).run P w=.ok zeros w∧(fW e zeros X).run P w=.ok n w∧(∀w',w'.heap=w.heap→(gv z e zeros n X).run P w'=.ok news.toArray w')∧au γ vs news∧news.length=n*z:=by
 unfold nB at hq
 split at hq
 ·rename_i e' hd
  have hZ:(fV ts).run P w=.ok false w:=by simp[fV,ht1,bC ht hd]
  refine⟨false,?_⟩
  split at hq
  ·rename_i b o m c
   cases hx with
   |slc _ _ _ hg=>
    split at hq
    ·cases hq
    ·rename_i k hk
     cases hb:Nat.ble (o+m*z) k.cells.length with
     |false=>simp[hb]at hq
     |true=>
      simp only[hb,aM,bw,dQ]at hq
      obtain⟨rfl,rfl⟩:=hq
      obtain⟨Vs,g1,g2,g3⟩:=hr.load hk hg o (m*z) (aU hb)
      refine⟨Vs,hZ,by simp[fW,Builtin.lenOf],fun w' hw'=>?_,g1,g2⟩
      simp only[gv,kY,fH]
      refine run_firstCells_some (P:=P) w' z m _ _ _ Vs g2 (fun j v hv=>?_)
      have:=g3 j v hv
      simpa [World.cell?,hw']using this
  ·cases hq;cases hx;exact⟨[],hZ,by simp[fW,Builtin.lenOf],fun w' _=>by simp[gv,Builtin.firstCells],.nil,si⟩
  ·cases hq
   cases hx
   rename_i a c
   refine⟨[],hZ,by simp[fW,Builtin.lenOf],fun w' _=>?_,.nil,si⟩
   cases a<;>simp[gv,Builtin.firstCells,loadCells,loadCellsFrom]
  ·cases hq;cases hx;exact⟨[],hZ,by simp[fW,Builtin.lenOf],fun w' _=>by simp[gv,Builtin.firstCells,loadCells,loadCellsFrom],.nil,si⟩
  ·cases hq
 ·rename_i hd
  have hZ:(fV ts).run P w=.ok false w:=by simp[fV,ht1,bC ht hd]
  refine⟨false,?_⟩
  split at hq
  ·rename_i s
   cases hx
   cases hb:Nat.beq z 1 with
   |false=>simp[hb]at hq
   |true=>
    simp only[hb,aM,bw,dQ]at hq
    obtain⟨rfl,rfl⟩:=hq
    refine⟨s.data.toList.map fun b=>Value.int .u8 b.toNat,hZ,by simp[fW,Builtin.lenOf],fun w' _=>?_,DX γ _,by rw[aN hb];simp⟩
    simp only[gv,kY,fH,Builtin.firstCells,Sem.run_pure]
    congr 1
    apply Array.ext'
    have:s.extract 0 s.size=s:=by simp
    rw[this]
    simp
  ·cases hq
 ·rename_i k hd
  have hZ:(fV ts).run P w=.ok true w:=by simp[fV,ht1,bC ht hd]
  refine⟨true,?_⟩
  split at hq
  ·rename_i kk l
   cases hx
   split at hq
   ·rename_i by_ zs hby hzs
    cases hb:(decide (0≤l)&&decide (l≤1000000)&&decide (l*by_≤281474976710656)&&!zs.isEmpty&&Nat.beq zs.length z)with
    |false=>simp[hb]at hq
    |true=>
     simp only[hb,aM,bw,dQ]at hq
     obtain⟨rfl,rfl⟩:=hq
     simp only[aX,gC]at hb
     obtain⟨⟨⟨⟨b1,b2⟩,b3⟩,b4⟩,b5⟩:=hb
     have b5:=aN b5
     have hne:zs≠[]:=by intro e;rw[e]at b4;simp at b4
     obtain⟨inf,Z,g1,g2,g3⟩:=mb (P:=P) (γ:=γ) ht hzs
     have hbytes:inf.bytes=by_:=m8 ht hby g1
     have hZl:Z.cells.size=z:=by have:=g3.length;simp at this;omega
     have hcy:=zO g3 hne (l.toNat*z)
     refine⟨((Array.range (l.toNat*z)).map (Z.cells[·%Z.cells.size]!)).toList,hZ,?_,fun w' _=>?_,hcy,si⟩
     ·have wl:w6.wrap l=l:=by rw[IntKind.wrap_i64];omega
      have n1:¬l<0:=by omega
      have n2:¬(l*inf.bytes>2^48):=by rw[hbytes];omega
      simp only[fW,fH,Sem.run_bind,asInt,asIntOf,Sem.run_pure,Result.andThen_ok,wl,Sem.run_ite,n1,iV,typeInfo,run_program,g1,n2]
     ·simp only[gv,oh,n5,iV]
      by_cases h0:l.toNat*z=0
      ·simp[h0,Array.range_zero']
      ·simp[h0,zeroValue,typeInfo,g1,g2,Builtin.zeroCells,hZl]
       apply Array.ext'
       simp
   ·cases hq
  ·cases hq
 ·cases hq
def Be (ti:Tr TypeInfo)(h:Tr ai)(i t0 t1:Nat)(s x:AV):Option (AV×Tr ai):=
 match bE ti t0 with
 |some (.slice e)=>match cx ti e,lh ti e,iX ti e with
  |some z,some by_,some zs=>match nB ti h e z t1 x with
   |none=>none
   |some (n,vs)=>
    bif !Nat.beq zs.length z||!vs.all AV.one then none else
    let grown (olds:List AV) (m:Nat) (h:Tr ai):Option (AV×Tr ai):=
     bif Nat.ble (m+n) 1000000000&&Nat.ble ((m+n)*by_) 140737488355328 then
      match h.set i (some ⟨.plain (olds++vs),e,z,true,true⟩)with
      |none=>none
      |some h'=>some (.slc i 0 (m+n) (m+n),h')
     else none
    match s with
    |.nils=>bif Nat.beq n 0 then some (.nils,h)else grown [] 0 h
    |.zer=>bif Nat.beq n 0 then some (.zer,h)else grown [] 0 h
    |.emp=>bif Nat.beq n 0 then some (.emp,h)else none
    |.slc b o m c=>match h.get b with
     |none=>none
     |some k=>
      bif Nat.ble (m+n) c then
       match qm h b (o+m*z) vs with
       |none=>none
       |some h'=>some (.slc b o (m+n) c,h')
      else bif !k.opn then
       (bif Nat.ble (o+m*z) k.cells.length then grown ((k.cells.drop o).take (m*z)) m h else none)
      else
       (bif Nat.beq o 0&&Nat.beq k.cells.length (c*z)&&k.own&&Nat.beq k.sz z&&Nat.beq k.elem e&&Nat.ble m c then
         match h.set b none with
         |none=>none
         |some h1=>grown (k.cells.take (m*z)) m h1
       else none)
    |_=>none
  |_,_,_=>none
 |_=>none
theorem bj.weaken {γ γ':Gm}{f f1 f':Hf}{nx':Nat}{w w':World}(h:bj γ f1 w γ' f' nx' w')(hsub:∀b k,f1 b=some k→f b=some k)(hs:∀k,fI γ f1 k→fI γ f k):bj γ f w γ' f' nx' w':=
 ⟨h.le,h.rel,h.size,h.os,h.tape,h.output,fun k hk hn=>h.frame k hk (fun ho=>hn (hs k ho)),fun k hk ho=>hs k (h.own k hk ho),fun b k hb ho=>hsub b k (h.ro b k hb ho),fun b k hb=>(h.dom b k hb).imp (fun⟨k',hk'⟩=>⟨k',hsub b k' hk'⟩) id,fun B x hB=>(h.fzn B x hB).imp id (Or.imp id (hs B)),h.drawn⟩
theorem fI.sub {γ:Gm}{f f1:Hf}(hs:∀b k,f1 b=some k→f b=some k){k:Nat}(h:fI γ f1 k):fI γ f k:=by
 obtain⟨b,kk,x,h1,h2,h3⟩:=h
 exact⟨b,kk,x,hs _ _ h1,h2,h3⟩
section
variable {P:Program}{ti:Tr TypeInfo}
theorem pV {γ:Gm}{f f1:Hf}{nx:Nat}{w:World}(hr:aQ γ f nx w)(hsub:∀b k,f1 b=some k→f b=some k){i nx':Nat}(hi:γ i=none)(hi':i<nx')(hn:nx≤nx')
 {t0 e z n m sCap:Nat}{inf:TypeInfo}{Z:Value}{ts:Array TypeId}{args:Array Value}{base:Option Addr}{X:Value}{zeros:Bool}{olds vs:List AV}{Olds news:List Value}
 (ht0:ts[0]? =some t0)(ha0:args[0]? =some (.slice base m sCap))(ha1:args[1]? =some X)(hu:P.underlying t0=some (.slice e))(hinf:P.info? e=some inf)(hsz:inf.size=z)(hz0:inf.zero=some Z)(hZ:Z.cells.size=z)
 (hz:(fV ts).run P w=.ok zeros w)(hN:(fW e zeros X).run P w=.ok n w)(hA:(gv z e zeros n X).run P w.drew=.ok news.toArray w.drew)(hO:(Builtin.firstCells z m (.slice base m sCap)).run P w.drew=.ok Olds.toArray w.drew)
 (hroom:sCap<m+n)(h63:m+n≤1000000000)(hb:(m+n)*inf.bytes≤140737488355328)(hol:au γ olds Olds)(hvs:au γ vs news):
 ∃V γ' w',(jF ts args).run P w=.ok V w'∧bj γ f w γ' (dY f1 i (some ⟨.plain (olds++vs),e,z,true,true⟩)) nx' w'∧ap γ' (.slc i 0 (m+n) (m+n)) V∧∀j,j≠i→γ' j=γ j:=by
 have hrun:=NO (P:=P) w ht0 ha0 ha1 hu hinf hsz hz0 hz hN hA hO hroom om hb
 have hge:=grownCap_ge w (m+n) sCap e
 have hstp:=(hr.sub hsub).new i nx' hi hi' hn (hol.append hvs) (ex:=(Builtin.zeroCells Z.cells (grownCap w (m+n) sCap e-(m+n))).toList) e z true (grownCap w (m+n) sCap e-(m+n)) (by simp[size_zeroCells,hZ]) si (w1:=w.drew) rfl rfl rfl rfl (Nat.le_succ _)
 refine⟨_,γ.put i (some (w.heap.size,grownCap w (m+n) sCap e-(m+n))),_,hrun,?_,?_,fun j hj=>Gm.put_other _ _ hj⟩
 ·have:=hstp.weaken hsub (fun k=>fI.sub hsub (k:=k))
  have e1:((Olds++news)++(Builtin.zeroCells Z.cells (grownCap w (m+n) sCap e-(m+n))).toList).toArray=(Olds.toArray++news.toArray++Builtin.zeroCells Z.cells (grownCap w (m+n) sCap e-(m+n))):=by
   apply Array.ext'
   simp
  rw[e1]at this
  exact this
 ·have hv:ap (γ.put i (some (w.heap.size,grownCap w (m+n) sCap e-(m+n)))) (.slc i 0 (m+n) (m+n)) (.slice (some ⟨w.heap.size,0,none⟩) (m+n) ((m+n)+(grownCap w (m+n) sCap e-(m+n)))):=.slc 0 (m+n) (m+n) (Gm.put_same _ _ _)
  rwa[show(m+n)+(grownCap w (m+n) sCap e-(m+n))=grownCap w (m+n) sCap e by omega]at hv
theorem TT (ht:dM P ti){γ:Gm}{h h':Tr ai}{nx:Nat}{w:World}(hr:aQ γ h.get nx w){i nx':Nat}(hi:γ i=none)(hi':i<nx')(hn:nx≤nx'){t0 t1:Nat}{s x v:AV}{S X:Value}(hs:ap γ s S)(hx:ap γ x X)
 (hq:Be ti h i t0 t1 s x=some (v,h')){ts:Array TypeId}{args:Array Value}(ty:TypeId)(ht0:ts[0]? =some t0)(ht1:ts[1]? =some t1)(ha0:args[0]? =some S)(ha1:args[1]? =some X):
 ∃V γ' w',(Builtin.append_ ts ty args).run P w=.ok V w'∧bj γ h.get w γ' h'.get nx' w'∧ap γ' v V∧∀j,j≠i→γ' j=γ j:=by
 rw[rN]
 unfold Be at hq
 split at hq
 case h_2=>cases hq
 rename_i e hd
 have hu:P.underlying t0=some (.slice e):=ip ht hd
 split at hq
 case h_2=>cases hq
 rename_i z by_ zs hz hby hzs
 obtain⟨inf,Z,g1,g2,g3⟩:=mb (P:=P) (γ:=γ) ht hzs
 obtain⟨inf',q1,q2⟩:=j4 ht hz
 rw[g1]at q1
 cases q1
 have hbytes:inf.bytes=by_:=m8 ht hby g1
 split at hq
 ·cases hq
 rename_i n vs hsrc
 obtain⟨zeros,news,c1,c2,c3,c4,c5⟩:=sm ht hr hz hx hsrc ht1
 have c3w:=c3 w rfl
 have c3d:=c3 w.drew rfl
 cases hzl:(!Nat.beq zs.length z||!vs.all AV.one)with
 |true=>simp[hzl]at hq
 |false=>
  simp only[hzl,bg]at hq
  have hzl':zs.length=z∧vs.all AV.one=true:=by
   cases a1:Nat.beq zs.length z with
   |false=>rw[a1]at hzl;simp at hzl
   |true=>
    rw[a1]at hzl
    exact⟨aN a1,by simpa using hzl⟩
  obtain⟨hzl1,hone⟩:=hzl'
  have hZ:Z.cells.size=z:=by have:=g3.length;simp at this;omega
  -- what growing gives
  have grown:∀(olds:List AV)(m:Nat)(h1:Tr ai)(base:Option Addr)(sCap:Nat)(Olds:List Value),(bif Nat.ble (m+n) 1000000000&&Nat.ble ((m+n)*by_) 140737488355328 then
   match h1.set i (some ⟨.plain (olds++vs),e,z,true,true⟩)with
   |none=>none
   |some h'=>some (AV.slc i 0 (m+n) (m+n),h')
   else none)=some (v,h')→(∀b k,h1.get b=some k→h.get b=some k)→S=.slice base m sCap→(Builtin.firstCells z m (.slice base m sCap)).run P w.drew=.ok Olds.toArray w.drew→sCap<m+n→au γ olds Olds→
   ∃V γ' w',(jF ts args).run P w=.ok V w'∧bj γ h.get w γ' h'.get nx' w'∧ap γ' v V∧∀j,j≠i→γ' j=γ j:=by
   intro olds m h1 base sCap Olds hg hsub hS hO hroom hol
   cases hb:(Nat.ble (m+n) 1000000000&&Nat.ble ((m+n)*by_) 140737488355328)with
   |false=>simp[hb]at hg
   |true=>
    simp only[hb,aM]at hg
    obtain⟨b1,b2⟩:=bq hb
    split at hg
    ·cases hg
    ·rename_i h2 hset
     cases hg
     rw[eo hset]
     exact pV hr hsub hi hi' hn ht0 (by rw[ha0,hS]) ha1 hu g1 q2 g2 hZ c1 c2 c3d hO hroom (aU b1) (by rw[hbytes];exact aU b2) hol c4
  have still:n=0→∀(base:Option Addr)(c:Nat),S=.slice base 0 c→(jF ts args).run P w=.ok (.slice base 0 c) w:=by
   intro h0 base c hS
   subst h0
   have hnews:news=[]:=kT (by simpa using c5)
   subst hnews
   have:=pL (P:=P) w ht0 (by rw[ha0,hS]) ha1 hu g1 q2 c1 c2 c3w (sLen:=0) (sCap:=c) (base:=base) om
   rw[this]
   cases base<;>simp[storeCells]
  have stay:aQ γ h.get nx' w:=hr.nx_mono hn
  split at hq
  ·-- nil
   cases hb:Nat.beq n 0 with
   |true=>
    simp only[hb,aM,bw,dQ]at hq
    obtain⟨rfl,rfl⟩:=hq
    cases hs
    exact⟨_,γ,w,still (aN hb) none 0 rfl,bj.refl stay,.nils,fun _ _=>rfl⟩
   |false=>
    simp only[hb,bg]at hq
    have h0:=nn hb
    cases hs
    exact grown [] 0 h none 0 [] hq (fun _ _ h=>h) rfl (by simp[Builtin.firstCells]) om .nil
  ·-- an empty slice without capacity
   cases hb:Nat.beq n 0 with
   |true=>
    simp only[hb,aM,bw,dQ]at hq
    obtain⟨rfl,rfl⟩:=hq
    cases hs
    exact⟨_,γ,w,still (aN hb) _ 0 rfl,bj.refl stay,.zer _,fun _ _=>rfl⟩
   |false=>
    simp only[hb,bg]at hq
    have h0:=nn hb
    cases hs
    exact grown [] 0 h _ 0 [] hq (fun _ _ h=>h) rfl (by simp[Builtin.firstCells,loadCells,loadCellsFrom]) om .nil
  ·cases hb:Nat.beq n 0 with
   |true=>
    simp only[hb,aM,bw,dQ]at hq
    obtain⟨rfl,rfl⟩:=hq
    cases hs
    exact⟨_,γ,w,still (aN hb) _ _ rfl,bj.refl stay,.emp _ _,fun _ _=>rfl⟩
   |false=>simp[hb]at hq
  ·rename_i b o m c
   cases hs with
   |slc _ _ _ hg=>
    rename_i B x
    split at hq
    ·cases hq
    ·rename_i k hk
     cases hle:Nat.ble (m+n) c with
     |true=>
      simp only[hle,aM]at hq
      have hle:=aU hle
      split at hq
      ·cases hq
      ·rename_i h2 hst
       cases hq
       obtain⟨w',s1,s2⟩:=uu hr hg c4 hst P
       refine⟨_,γ,w',?_,⟨s2.le,s2.rel.nx_mono hn,s2.size,s2.os,s2.tape,s2.output,s2.frame,s2.own,s2.ro,s2.dom,s2.fzn,s2.drawn⟩,.slc o (m+n) c hg,fun _ _=>rfl⟩
       rw[pL (P:=P) w ht0 ha0 ha1 hu g1 q2 c1 c2 c3w om]
       simp only[dg,s1,Result.andThen_ok]
     |false=>
      simp only[hle,bg]at hq
      have hle:c<m+n:=by
       rcases bA c (m+n)with h'|h'
       ·exact h'
       ·rw[gK h']at hle;cases hle
      cases hop:k.opn with
      |false=>
       simp only[hop,kY,aM]at hq
       have hx0:x=0:=by
        obtain⟨B',x',cs,ex,p1,p2,p3,p4,p5⟩:=hr.blk b k hk
        rw[hg]at p1;cases p1;exact p5 hop
       subst hx0
       cases hl:Nat.ble (o+m*z) k.cells.length with
       |false=>simp[hl]at hq
       |true=>
        simp only[hl,aM]at hq
        obtain⟨Vs,p1,p2,p3⟩:=hr.load hk hg o (m*z) (aU hl)
        refine grown _ m h _ _ Vs hq (fun _ _ h=>h) rfl ?_ om p1
        exact run_firstCells_some (P:=P) w.drew z m _ _ _ Vs p2 (fun j u hu=>by simpa using p3 j u hu)
      |true=>
       simp only[hop,oh,bg]at hq
       cases hc:(Nat.beq o 0&&Nat.beq k.cells.length (c*z)&&k.own&&Nat.beq k.sz z&&Nat.beq k.elem e&&Nat.ble m c)with
       |false=>simp[hc]at hq
       |true=>
        simp only[hc,aM]at hq
        simp only[aX]at hc
        obtain⟨⟨⟨⟨⟨d1,d2⟩,d3⟩,d4⟩,d5⟩,d6⟩:=hc
        have d1:=aN d1
        have d2:=aN d2
        have d4:=aN d4
        have d5:=aN d5
        have d6:=aU d6
        subst d1
        split at hq
        ·cases hq
        ·rename_i h1 hkill
         have hget1:=eo hkill
         have hsub:∀b' k',h1.get b'=some k'→h.get b'=some k':=by
          intro b' k' hb'
          rw[hget1]at hb'
          by_cases e1:b'=b
          ·subst e1;rw[fb]at hb';cases hb'
          ·rw[dl _ _ e1]at hb';exact hb'
         obtain⟨B',x',cs,ex,p1,p2,p3,p4,p5⟩:=hr.blk b k hk
         rw[hg]at p1
         cases p1
         have hcl:=p3.length
         have hmz:m*z≤c*z:=il _ d6
         by_cases hroom:m+n≤c+x
         ·-- at its place
          cases hb:(Nat.ble (m+n) 1000000000&&Nat.ble ((m+n)*by_) 140737488355328)with
          |false=>simp[hb]at hq
          |true=>
           simp only[hb,aM]at hq
           split at hq
           ·cases hq
           ·rename_i h2 hset
            cases hq
            have hnl:=c4.length
            have hfit:(m+n)*z≤(c+x)*z:=il _ hroom
            have htot:(cs++ex).length=(c+x)*z:=by
             rw[bU,hcl,d2,p4,d4,gk]
            have hst:=run_storeCells_at P B (m*z) k.elem news 0 (cs++ex).toArray w p2 (by
             simp only[t7]
             rw[htot,c5,gj,←gk];exact hfit) (c4.ones hone)
            have hrun:=pL (P:=P) w ht0 ha0 ha1 hu g1 q2 c1 c2 c3w hroom
            simp only[dg,gN,hst,Result.andThen_ok]at hrun
            have hren:=hr.rename hk d3 hg i nx' hi hi' hn (vs:=k.cells.take (m*z)++vs) (Vs:=cs.take (m*z)++news) (ex:=(cs++ex).drop ((m+n)*z)) ((p3.take (m*z)).append c4) (c+x-(m+n)) (by
             rw[pH,htot,d4,←Nat.sub_mul])
            refine⟨_,γ.put i (some (B,c+x-(m+n))),_,hrun,?_,?_,fun j hj=>Gm.put_other _ _ hj⟩
            ·rw[eo hset,hget1]
             rw[d4,d5]at hren
             have e3:(cs++ex).take (m*z+0)++news++(cs++ex).drop (m*z+0+news.length)=(cs.take (m*z)++news)++(cs++ex).drop ((m+n)*z):=by
              simp only[gj,c5,←gk]
              rw[ry om]
             rw[e3]
             exact hren
            ·have hv:ap (γ.put i (some (B,c+x-(m+n)))) (.slc i 0 (m+n) (m+n)) (.slice (some ⟨B,0,none⟩) (m+n) ((m+n)+(c+x-(m+n)))):=.slc 0 (m+n) (m+n) (Gm.put_same _ _ _)
             rwa[show(m+n)+(c+x-(m+n))=c+x by omega]at hv
         ·-- anew
          obtain⟨Vs,r1,r2,r3⟩:=hr.load hk hg 0 (m*z) om
          rw[mW]at r1
          refine grown _ m h1 _ _ Vs hq hsub rfl ?_ om r1
          exact run_firstCells_some (P:=P) w.drew z m _ _ _ Vs r2 (fun j u hu=>by simpa using r3 j u hu)
  ·cases hq
noncomputable def AJ (ti:Tr TypeInfo)(h:Tr ai)(t0:Nat)(d x:AV):Option (AV×Tr ai):=
 match bE ti t0 with
 |some (.slice e)=>match cx ti e with
  |none=>none
  |some z=>match d with
   |.slc b o dn _=>match x with
    |.slc b2 o2 n _=>match h.get b2 with
     |none=>none
     |some k=>
      let c:=Nat.min n dn
      bif Nat.ble (o2+c*z) k.cells.length then
       match qm h b o ((k.cells.drop o2).take (c*z))with
       |none=>none
       |some h'=>some (.int .i64 c,h')
      else none
    |.nils=>some (.int .i64 0,h)
    |.emp=>some (.int .i64 0,h)
    |.zer=>some (.int .i64 0,h)
    |.str s=>bif Nat.beq z 1 then
     let c:=Nat.min s.size dn
     match qm h b o (((s.extract 0 c).data.toList).map fun u=>.int .u8 u.toNat)with
     |none=>none
     |some h'=>some (.int .i64 c,h')
     else none
    |_=>none
   |_=>none
 |_=>none
theorem Rj (ht:dM P ti){γ:Gm}{h h':Tr ai}{nx:Nat}{w:World}(hr:aQ γ h.get nx w){t0:Nat}{d x v:AV}{D X:Value}(hd:ap γ d D)(hx:ap γ x X)
 (hq:AJ ti h t0 d x=some (v,h')){ts:Array TypeId}{args:Array Value}(ty:TypeId)(ht0:ts[0]? =some t0)(ha0:args[0]? =some D)(ha1:args[1]? =some X):
 ∃V w',(Builtin.copy_ ts ty args).run P w=.ok V w'∧bj γ h.get w γ h'.get nx w'∧ap γ v V:=by
 unfold AJ at hq
 split at hq
 case h_2=>cases hq
 rename_i e hu
 split at hq
 ·cases hq
 rename_i z hz
 split at hq
 case h_2=>cases hq
 rename_i b o dn dc
 cases hd with
 |slc _ _ _ hg=>
  rename_i B xx
  split at hq
  ·rename_i b2 o2 n c2
   cases hx with
   |slc _ _ _ hg2=>
    split at hq
    ·cases hq
    ·rename_i k hk
     cases hl:Nat.ble (o2+Nat.min n dn*z) k.cells.length with
     |false=>simp[hl]at hq
     |true=>
      simp only[hl,aM]at hq
      split at hq
      ·cases hq
      ·rename_i h2 hst
       cases hq
       obtain⟨Vs,p1,p2,p3⟩:=hr.load hk hg2 o2 (Nat.min n dn*z) (aU hl)
       obtain⟨w',s1,s2⟩:=uu hr hg p1 hst P
       refine⟨_,w',?_,s2,.int _ _⟩
       have hf:=fun cap=>run_firstCells_some (P:=P) w z (Nat.min n dn) _ n cap Vs p2 p3
       simp only[Builtin.copy_,ht0,ha0,ha1,Sem.run_bind,bC ht hu,Result.andThen_ok,Builtin.lenOf,Sem.run_pure,df ht hz,hf,s1,goInt]
  ·cases hq
   cases hx
   refine⟨_,w,?_,bj.refl hr,.int _ _⟩
   have:Nat.min 0 dn=0:=Nat.zero_min dn
   simp[Builtin.copy_,ht0,ha0,ha1,bC ht hu,Builtin.lenOf,df ht hz,this,Builtin.firstCells,storeCells,goInt]
  ·cases hq
   cases hx
   rename_i a cc
   refine⟨_,w,?_,bj.refl hr,.int _ _⟩
   have:Nat.min 0 dn=0:=Nat.zero_min dn
   cases a<;>simp[Builtin.copy_,ht0,ha0,ha1,bC ht hu,Builtin.lenOf,df ht hz,this,Builtin.firstCells,storeCells,goInt,loadCells,loadCellsFrom]
  ·cases hq
   cases hx
   refine⟨_,w,?_,bj.refl hr,.int _ _⟩
   have:Nat.min 0 dn=0:=Nat.zero_min dn
   simp[Builtin.copy_,ht0,ha0,ha1,bC ht hu,Builtin.lenOf,df ht hz,this,Builtin.firstCells,storeCells,goInt,loadCells,loadCellsFrom]
  ·rename_i s
   cases hx
   cases hb:Nat.beq z 1 with
   |false=>simp[hb]at hq
   |true=>
    simp only[hb,aM]at hq
    split at hq
    ·cases hq
    ·rename_i h2 hst
     cases hq
     obtain⟨w',s1,s2⟩:=uu hr hg (DX γ _) hst P
     refine⟨_,w',?_,s2,.int _ _⟩
     simp only[Builtin.copy_,ht0,ha0,ha1,Sem.run_bind,bC ht hu,Result.andThen_ok,Builtin.lenOf,Sem.run_pure,df ht hz,Builtin.firstCells,Array.toList_map,s1,goInt]
  ·cases hq
end
section
def clr:AV→AV
 |.vbool b=>.bool b
 |.vint k n=>.int k n
 |.vstr s=>.str s
 |v=>v
def tnt:AV→AV
 |.bool b=>.vbool b
 |.int k n=>.vint k n
 |.str s=>.vstr s
 |v=>v
def pd:AV→Bool
 |.vbool _=>true
 |.vint _ _=>true
 |.vstr _=>true
 |_=>false
theorem ap.clr {γ:Gm}{v:AV}{V:Value}(h:ap γ v V):ap γ (clr v) V:=by
 cases h with
 |vbool b=>exact .bool b
 |vint k n=>exact .int k n
 |vstr s=>exact .str s
 |verr h=>exact .verr h
 |vnum k n=>exact .vnum k n
 |ro h=>exact .ro h
 |rp h hf=>exact .rp h hf
 |lo n h=>exact .lo n h
 |lp i z j h=>exact .lp i z j h
 |ls o z e h ha hc he=>exact .ls o z e h ha hc he
 |z0 a=>exact .z0 a
 |bool b=>exact .bool b
 |int k n=>exact .int k n
 |str s=>exact .str s
 |ptr o h=>exact .ptr o h
 |nilp=>exact .nilp
 |slc o n c h=>exact .slc o n c h
 |nils=>exact .nils
 |emp a c=>exact .emp a c
 |zer a=>exact .zer a
 |fn f h=>exact .fn f h
 |nilfn=>exact .nilfn
 |ifc t h=>exact .ifc t h
 |nilif=>exact .nilif
 |agg h=>exact .agg h
 |tup h=>exact .tup h
theorem ap.tnt {γ:Gm}{v:AV}{V:Value}(h:ap γ v V):ap γ (tnt v) V:=by
 cases h with
 |vbool b=>exact .vbool b
 |vint k n=>exact .vint k n
 |vstr s=>exact .vstr s
 |verr h=>exact .verr h
 |vnum k n=>exact .vnum k n
 |ro h=>exact .ro h
 |rp h hf=>exact .rp h hf
 |lo n h=>exact .lo n h
 |lp i z j h=>exact .lp i z j h
 |ls o z e h ha hc he=>exact .ls o z e h ha hc he
 |z0 a=>exact .z0 a
 |bool b=>exact .vbool b
 |int k n=>exact .vint k n
 |str s=>exact .vstr s
 |ptr o h=>exact .ptr o h
 |nilp=>exact .nilp
 |slc o n c h=>exact .slc o n c h
 |nils=>exact .nils
 |emp a c=>exact .emp a c
 |zer a=>exact .zer a
 |fn f h=>exact .fn f h
 |nilfn=>exact .nilfn
 |ifc t h=>exact .ifc t h
 |nilif=>exact .nilif
 |agg h=>exact .agg h
 |tup h=>exact .tup h
mutual
theorem bW.av {γ:Gm}{r:RV}{V:Value}(h:bW γ.fz r V):ap γ r.av V:=by
 cases h with
 |bool b=>simp only[RV.av];exact .vbool b
 |int k n=>simp only[RV.av];exact .vint k n
 |str s=>simp only[RV.av];exact .vstr s
 |err h=>simp only[RV.av];exact .verr h
 |sl0 sz row a c hn=>simp only[RV.av];exact .ro (.sl0 _ _ _ _ hn)
 |sl cs hc hl hf h=>simp only[RV.av];exact .ro (.sl cs hc hl hf h)
 |agg h=>simp only[RV.av];exact .agg (bM.avl h)
 |tup h=>simp only[RV.av];exact .tup (bM.avl h)
theorem bM.avl {γ:Gm}{rs:List RV}{Vs:List Value}(h:bM γ.fz rs Vs):au γ (RV.avl rs) Vs:=by
 cases h with
 |nil=>simp only[RV.avl];exact .nil
 |cons h t=>simp only[RV.avl];exact .cons (bW.av h) (bM.avl t)
end
theorem bM.length {F:Fz}{vs:List RV}{Vs:List Value}(h:bM F vs Vs):Vs.length=vs.length:=by
 induction vs generalizing Vs with
 |nil=>cases h;rfl
 |cons v vs ih=>cases h with|cons h t=>simp[ih t]
theorem bM.drop {F:Fz}{vs:List RV}{Vs:List Value}(h:bM F vs Vs)(n:Nat):bM F (vs.drop n) (Vs.drop n):=by
 induction vs generalizing Vs n with
 |nil=>cases h;simp;exact .nil
 |cons v vs ih=>
  cases h with
  |cons h t=>
   cases n with
   |zero=>exact .cons h t
   |succ n=>exact ih t n
theorem bM.take {F:Fz}{vs:List RV}{Vs:List Value}(h:bM F vs Vs)(n:Nat):bM F (vs.take n) (Vs.take n):=by
 induction vs generalizing Vs n with
 |nil=>cases h;simp;exact .nil
 |cons v vs ih=>
  cases h with
  |cons h t=>
   cases n with
   |zero=>simp;exact .nil
   |succ n=>exact .cons h (ih t n)
theorem lB.cell {γ:Gm}{f:Hf}{nx:Nat}{w:World}(hr:aQ γ f nx w){B o:Nat}{v:Value}(h:lB γ.fz B o v):w.cell? ⟨B,o,none⟩=some v:=by
 obtain⟨cs,el,fr,h1,h2⟩:=h
 rw[cell_of_row w B o cs el fr (hr.fzr _ _ h1)]
 exact h2
noncomputable def oy (ti:Tr TypeInfo)(t:Nat)(x i:AV):Option (AV×List Prop):=
 match clr i with
 |.int _ j=>
  match bE ti t with
  |some (.slice e)=>match cx ti e with
   |none=>none
   |some z=>match x with
    |.ro n sz row=>bif Nat.beq z sz then some (.rp (row j.toNat) 0,[0≤j∧j<n])else none
    |.lo b n=>some (.lp b j.toNat z 0,[0≤j∧j<n])
    |.slc b o n _=>some (.lp b j.toNat z o,[0≤j∧j<n])
    |_=>none
  |some (.array len e)=>match cx ti e with
   |none=>none
   |some z=>match x with
    |.ptr b o=>some (.lp b j.toNat z o,[0≤j∧j<len])
    |.rp cs 0=>bif Nat.beq z 1&&Nat.ble len cs.length then some (.rp (cs.drop j.toNat) 0,[0≤j∧j<len])else none
    |_=>none
  |_=>none
 |_=>none
theorem az {α:Type}{c:Bool}{x:Option α}{y:α}(h:(bif c then x else none)=some y):c=true∧x=some y:=by
 cases c with
 |true=>exact⟨rfl,h⟩
 |false=>cases h
theorem ay {p:Prop}(h:∀q∈[p],q):p:=h p si
section
variable {P:Program}{ti:Tr TypeInfo}(ht:dM P ti){γ:Gm}(w:World)
include ht
theorem NR {t:Nat}{x i v:AV}{ms:List Prop}{X I:Value}(hx:ap γ x X)(hi:ap γ i I)(hq:oy ti t x i=some (v,ms))(hm:∀p∈ms,p):∃V,(Instr.indexAt t X I).run P w=.ok V w∧ap γ v V:=by
 have hi:=hi.clr
 unfold oy at hq
 split at hq
 ·rename_i k j hc
  rw[hc]at hi
  cases hi
  split at hq
  ·rename_i e hd
   split at hq
   ·cases hq
   ·rename_i z hz
    split at hq
    ·rename_i n sz row
     obtain⟨hb,hq⟩:=az hq
     cases hq
     have hb:=aN hb
     subst hb
     have hj:=ay hm
     cases hx with
     |ro h=>
      cases h with
      |sl0 _ _ _ _ hn=>omega
      |sl cs hc hl hf h=>
       rename_i B o c
       have hlt:j.toNat<n:=by omega
       refine⟨.pointer (some ⟨B,o+j.toNat*z+0,none⟩),?_,.rp (h _ hlt) (fun i v hv=>hf _ i v hlt hv)⟩
       simp[Instr.indexAt,asIntOf,bC ht hd,df ht hz,hj,dg]
    ·rename_i b n
     cases hq
     have hj:=ay hm
     cases hx with
     |lo _ hg=>
      rename_i B x
      refine⟨.pointer (some ⟨B,j.toNat*z+0,none⟩),?_,.lp _ _ _ hg⟩
      simp[Instr.indexAt,asIntOf,bC ht hd,df ht hz,hj,dg]
    ·rename_i b o n c
     cases hq
     have hj:=ay hm
     cases hx with
     |slc _ _ _ hg=>
      rename_i B x
      refine⟨.pointer (some ⟨B,j.toNat*z+o,none⟩),?_,.lp _ _ _ hg⟩
      simp[Instr.indexAt,asIntOf,bC ht hd,df ht hz,hj,dg]
      omega
    ·cases hq
  ·rename_i len e hd
   split at hq
   ·cases hq
   ·rename_i z hz
    split at hq
    ·rename_i b o
     cases hq
     have hj:=ay hm
     cases hx with
     |ptr _ hg=>
      rename_i B x
      refine⟨.pointer (some ⟨B,j.toNat*z+o,none⟩),?_,.lp _ _ _ hg⟩
      simp[Instr.indexAt,asIntOf,bC ht hd,df ht hz,hj,dg,Instr.sureAddr]
      omega
    ·rename_i cs
     obtain⟨hb,hq⟩:=az hq
     cases hq
     obtain⟨hb1,hb2⟩:=bq hb
     have hb1:=aN hb1
     subst hb1
     have hj:=ay hm
     cases hx with
     |rp h hf=>
      rename_i B o Cs
      refine⟨.pointer (some ⟨B,o+j.toNat+0,none⟩),?_,.rp (h.drop j.toNat) (fun i v hv=>?_)⟩
      ·simp[Instr.indexAt,asIntOf,bC ht hd,df ht hz,hj,dg,Instr.sureAddr]
      ·rw[lX]at hv
       have:=hf _ _ hv
       rwa[←Nat.add_assoc]at this
    ·cases hq
  ·cases hq
 ·cases hq
end
end
def rO (ti:Tr TypeInfo)(s:Nat)(x:AV)(f:Nat):Option AV:=
 match bE ti s with
 |some (.struct fields)=>match fields[f]? with
  |none=>none
  |some fd=>match cx ti fd.type with
   |some (_+1)=>match x with
    |.rp cs j=>some (.rp cs (j+fd.offset))
    |.lp b i z j=>some (.lp b i z (j+fd.offset))
    |_=>none
   |_=>none
 |_=>none
theorem EW (L:List Con):∀(i j:Nat),i<L.length→j<5→(L.flatMap Con.avs)[i*5+j]? =(L.getD i Con.zero).avs[j]? :=by
 induction L with
 |nil=>intro i j h;simp at h
 |cons c L ih=>
  intro i j hi hj
  rw[fo]
  cases i with
  |zero=>
   rw[gB (by simp[Con.avs];omega)]
   simp
  |succ i=>
   rw[mS (by simp[Con.avs];omega)]
   have e:(i+1)*5+j-c.avs.length=i*5+j:=by simp[Con.avs];omega
   rw[e,ih i j (by simpa using hi) hj]
   simp
theorem lc (L:List Con):(L.flatMap Con.avs).length=L.length*5:=by
 induction L with
 |nil=>rfl
 |cons c L ih=>rw[fo,bU,ih];simp[Con.avs];omega
theorem EX (L:List Con)(i:Nat)(hi:i<L.length):((L.flatMap Con.avs).drop (i*5)).take 5=(L.getD i Con.zero).avs:=by
 apply List.ext_getElem?
 intro j
 rw[pF]
 split
 ·rename_i hj
  rw[lX]
  exact EW L i j hi hj
 ·rw[gL]
  simp[Con.avs];omega
theorem uP:∀rs:List RV,RV.avl rs=rs.map RV.av
 |[]=>rfl
 |r::rs=>by simp only[RV.avl,jY,uP rs]
theorem oJ (rs:List RV):(RV.avl rs).length=rs.length:=by rw[uP,iT]
theorem Rk (rs:List RV)(j n:Nat):RV.avl ((rs.drop j).take n)=((RV.avl rs).drop j).take n:=by
 simp only[uP,List.map_take,List.map_drop]
def bS (τ:aa)(L:List τ.car):List AV:=L.flatMap (fun c=>RV.avl (τ.rvs c))
theorem jD (τ:aa)(L:List τ.car):(bS τ L).length=L.length*τ.sz:=by
 unfold bS
 induction L with
 |nil=>simp
 |cons c L ih=>rw[fo,bU,ih,oJ,aa.rvs_len,cR,gk];omega
theorem yU (τ:aa):∀(L:List τ.car)(i:Nat),i<L.length→((bS τ L).drop (i*τ.sz)).take τ.sz=RV.avl (τ.rvs (L.getD i τ.zero))
 |[],i,h=>by simp at h
 |c::L,0,h=>by
  have e:(RV.avl (τ.rvs c)).length=τ.sz:=by rw[oJ,aa.rvs_len]
  simp only[bS,fo,l4,mW]
  rw[←e,List.take_left']
  ·rfl
  ·rfl
 |c::L,i+1,h=>by
  have e:(RV.avl (τ.rvs c)).length=τ.sz:=by rw[oJ,aa.rvs_len]
  have ih:=yU τ L i (by simpa using h)
  simp only[bS,fo]at ih⊢
  rw[show(i+1)*τ.sz=(RV.avl (τ.rvs c)).length+i*τ.sz by rw[e,gk];omega,List.drop_length_add_append,ih]
  rfl
theorem D5 (τ:aa)(L:List τ.car)(i j n:Nat)(hi:i<L.length)(h:j+n≤τ.sz):((bS τ L).drop (i*τ.sz+j)).take n=RV.avl (((τ.rvs (L.getD i τ.zero)).drop j).take n):=by
 rw[Rk,←yU τ L i hi,←List.drop_drop,List.drop_take,List.take_take]
 congr 1
 omega
def np (k:IntKind):List AV→Option (List Int)
 |[]=>some []
 |v::vs=>match clr v with
  |.int k' n=>bif decide (k=k')then(match np k vs with|none=>none|some l=>some (n::l))else none
  |_=>none
theorem ux {γ:Gm}{k:IntKind}{vs:List AV}{Vs:List Value}(h:au γ vs Vs){l:List Int}(hq:np k vs=some l):Vs=l.map (Value.int k):=by
 induction vs generalizing Vs l with
 |nil=>cases h;simp[np]at hq;subst hq;rfl
 |cons v vs ih=>
  cases h with
  |cons hv ht=>
   have hv:=hv.clr
   simp only[np]at hq
   split at hq
   ·rename_i k' n hc
    rw[hc]at hv
    cases hv
    obtain⟨hk,hq'⟩:=az hq
    have hk:=dE hk
    clear hq
    subst hk
    split at hq'
    ·cases hq'
    ·rename_i l' hl'
     cases hq'
     rw[ih ht hl']
     rfl
   ·cases hq
def kE:List AV→Option (List Bool)
 |[]=>some []
 |v::vs=>match clr v with
  |.bool b=>match kE vs with|none=>none|some l=>some (b::l)
  |_=>none
theorem Dj {γ:Gm}{vs:List AV}{Vs:List Value}(h:au γ vs Vs){l:List Bool}(hq:kE vs=some l):Vs=l.map Value.bool:=by
 induction vs generalizing Vs l with
 |nil=>cases h;simp[kE]at hq;subst hq;rfl
 |cons v vs ih=>
  cases h with
  |cons hv ht=>
   have hv:=hv.clr
   simp only[kE]at hq
   split at hq
   ·rename_i b hc
    rw[hc]at hv
    cases hv
    split at hq
    ·cases hq
    ·rename_i l' hl'
     cases hq
     rw[ih ht hl']
     rfl
   ·cases hq
def qN (ti:Tr TypeInfo)(t:Nat):Option IntKind:=match bE ti t with
 |some (.int k)=>some k
 |_=>none
def s7 (ti:Tr TypeInfo)(h:Tr ai)(t:Nat)(x:AV):Option (AV×List Prop):=
 match bE ti t with
 |none=>none
 |some d=>match x with
  |.rp cs j=>
   bif gw d then
    match cx ti t with
    |none=>none
    |some n=>bif Nat.ble (j+n) cs.length then some (.agg (RV.avl ((cs.drop j).take n)),[])else none
   else(match(cs.drop j).head? with
    |none=>none
    |some r=>some (r.av,[]))
  |.lp b i z j=>match h.get b with
   |none=>none
   |some k=>match k.view with
    |.con L=>
     bif Nat.beq z 5 then
      bif gw d then
       match cx ti t with
       |none=>none
       |some n=>bif Nat.beq n 5&&Nat.beq j 0 then some (.agg (L.getD i Con.zero).avs,[i<L.length])else none
      else(match(L.getD i Con.zero).avs[j]? with
       |none=>none
       |some v=>some (v,[i<L.length]))
     else none
    |.ints kk L=>bif gw d then none else bif Nat.beq z 1&&Nat.beq j 0 then some (.vint kk (L.getD i 0),[i<L.length])else none
    |.rows _ L c n=>bif gw d then none else bif Nat.beq z 1&&Nat.beq j 0 then some (.lo c n,[i=L.length])else none
    |.vals τ L=>
     bif Nat.beq z τ.sz then
      bif gw d then
       match cx ti t with
       |none=>none
       |some n=>bif Nat.ble (j+n) τ.sz then some (.agg (RV.avl (((τ.rvs (List.getD (α:=τ.car) L i τ.zero)).drop j).take n)),[i<List.length (α:=τ.car) L])else none
      else(match((τ.rvs (List.getD (α:=τ.car) L i τ.zero)).drop j).head? with
       |none=>none
       |some r=>some (r.av,[i<List.length (α:=τ.car) L]))
     else none
    |.plain cs=>bif gw d then none else match qN ti t with
     |none=>match kE cs with
      |none=>none
      |some l=>bif Nat.beq z 1 then some (.vbool (l.getD (i+j) false),[i+j<l.length])else none
     |some kk=>match np kk cs with
      |none=>none
      |some l=>bif Nat.beq z 1 then some (.vint kk (l.getD (i+j) 0),[i+j<l.length])else none
  |_=>none
section
variable {P:Program}{ti:Tr TypeInfo}(ht:dM P ti){γ:Gm}{w:World}
include ht
theorem NW {s f:Nat}{x v:AV}{X:Value}(hx:ap γ x X)(hq:rO ti s x f=some v):∃V,(Instr.fieldAt s X f).run P w=.ok V w∧ap γ v V:=by
 unfold rO at hq
 split at hq
 ·rename_i fields hd
  split at hq
  ·cases hq
  ·rename_i fd hf
   split at hq
   ·rename_i n hs
    split at hq
    ·rename_i cs j
     cases hq
     cases hx with
     |rp h hc=>
      rename_i B o Cs
      refine⟨.pointer (some ⟨B,o+(j+fd.offset),none⟩),?_,.rp h hc⟩
      simp[Instr.fieldAt,bC ht hd,hf,Instr.sureAddr,fieldPlace,df ht hs,dg,Nat.add_assoc]
    ·rename_i b i z j
     cases hq
     cases hx with
     |lp _ _ _ hg=>
      rename_i B x
      refine⟨.pointer (some ⟨B,i*z+(j+fd.offset),none⟩),?_,.lp _ _ _ hg⟩
      simp[Instr.fieldAt,bC ht hd,hf,Instr.sureAddr,fieldPlace,df ht hs,dg,Nat.add_assoc]
    ·cases hq
   ·cases hq
 ·cases hq
omit ht in
theorem x9 (ht:dM P ti){t n:Nat}{d:TypeDesc}(hd:bE ti t=some d)(hag:gw d=true)(hs:cx ti t=some n){B o:Nat}{Vs:List Value}(hl:Vs.length=n)(hc:∀j v,Vs[j]? =some v→w.cell? ⟨B,o+j,none⟩=some v):
 (loadVar t ⟨B,o,none⟩).run P w=.ok (.agg Vs.toArray) w:=by
 have hl':=run_loadCells_list (P:=P) w ⟨B,o,none⟩ Vs (fun j v hv=>by rw[dg];exact hc j v hv)
 rw[hl]at hl'
 simp[loadVar,oA ht hd,hag,df ht hs,hl']
omit ht in
theorem ox (ht:dM P ti){t:Nat}{d:TypeDesc}(hd:bE ti t=some d)(hag:gw d=false){B o:Nat}{V:Value}(hc:w.cell? ⟨B,o,none⟩=some V):
 (loadVar t ⟨B,o,none⟩).run P w=.ok V w:=by
 simp[loadVar,oA ht hd,hag,hc]
theorem Rl {h:Tr ai}{nx:Nat}(hr:aQ γ h.get nx w){t:Nat}{x v:AV}{ms:List Prop}{X:Value}(hx:ap γ x X)(hq:s7 ti h t x=some (v,ms))(hm:∀p∈ms,p):
 ∃V a,X=.pointer (some a)∧(loadVar t a).run P w=.ok V w∧ap γ v V:=by
 unfold s7 at hq
 split at hq
 ·cases hq
 ·rename_i d hd
  split at hq
  ·rename_i cs j
   cases hx with
   |rp h1 hf=>
    rename_i B o Cs
    have hlen:=h1.length
    cases hag:gw d with
    |true=>
     rw[hag]at hq
     simp only[aM]at hq
     split at hq
     ·cases hq
     ·rename_i n hs
      obtain⟨hb,hq⟩:=az hq
      cases hq
      have hb:=aU hb
      refine⟨_,_,rfl,x9 ht hd hag hs (Vs:=(Cs.drop j).take n) (by simp;omega) (fun i u hu=>?_),.agg (bM.avl ((h1.drop j).take n))⟩
      rw[pF]at hu
      split at hu
      ·rw[lX]at hu
       have:=(hf _ _ hu).cell hr
       rwa[←Nat.add_assoc]at this
      ·cases hu
    |false=>
     rw[hag]at hq
     simp only[bg]at hq
     split at hq
     ·cases hq
     ·rename_i r hr0
      cases hq
      have h2:=h1.drop j
      cases hcs:cs.drop j with
      |nil=>rw[hcs]at hr0;simp at hr0
      |cons r' l=>
       rw[hcs]at hr0 h2
       simp at hr0
       subst hr0
       generalize hCs:Cs.drop j=Ds at h2
       cases h2 with
       |@cons _ V _ _ hv _=>
        refine⟨V,_,rfl,ox ht hd hag ?_,hv.av⟩
        refine(hf j V ?_).cell hr
        have:(Cs.drop j)[0]? =some V:=by rw[hCs];rfl
        rwa[lX,gj]at this
  ·rename_i b i z j
   cases hx with
   |lp _ _ _ hg=>
    rename_i B x
    split at hq
    ·cases hq
    ·rename_i k hk
     split at hq
     ·rename_i L hv
      obtain⟨hz,hq⟩:=az hq
      have hz:=aN hz
      subst hz
      have hcells:k.cells=L.flatMap Con.avs:=by unfold ai.cells;rw[hv];rfl
      cases hag:gw d with
      |true=>
       rw[hag]at hq
       simp only[aM]at hq
       split at hq
       ·cases hq
       ·rename_i n hs
        obtain⟨hb,hq'⟩:=az (c:=Nat.beq n 5&&Nat.beq j 0) hq
        clear hq
        obtain⟨hb1,hb2⟩:=bq hb
        have hb1:=aN hb1
        have hb2:=aN hb2
        subst hb1 hb2
        cases hq'
        have hi:=ay hm
        obtain⟨Vs,q1,q2,q3⟩:=hr.load hk hg (i*5) 5 (by rw[hcells,lc];omega)
        rw[hcells,EX L i hi]at q1
        exact⟨_,_,rfl,x9 ht hd hag hs q2 (fun j u hu=>by have:=q3 j u hu;rwa[dg]at this),.agg q1⟩
      |false=>
       rw[hag]at hq
       simp only[bg]at hq
       split at hq
       ·cases hq
       ·rename_i u hu
        cases hq
        have hi:=ay hm
        have hj:j<5:=by
         have:=(xQ.1 hu).1
         simpa [Con.avs]using this
        obtain⟨Vs,q1,q2,q3⟩:=hr.load hk hg (i*5+j) 1 (by rw[hcells,lc];omega)
        have e:(k.cells.drop (i*5+j)).take 1=[v]:=by
         rw[List.take_one,oc,hcells,EW L i j hi hj,hu];rfl
        rw[e]at q1
        cases q1 with
        |@cons _ V _ _ hv' _=>
         have:=q3 0 V rfl
         rw[dg,gj]at this
         exact⟨V,_,rfl,ox ht hd hag this,hv'⟩
     ·rename_i kk L hv
      cases hag:gw d with
      |true=>rw[hag]at hq;cases hq
      |false=>
       rw[hag]at hq
       simp only[bg]at hq
       obtain⟨hb,hq⟩:=az hq
       cases hq
       obtain⟨hb1,hb2⟩:=bq hb
       have hb1:=aN hb1
       have hb2:=aN hb2
       subst hb1 hb2
       have hi:=ay hm
       have hcells:k.cells=L.map (AV.vint kk):=by unfold ai.cells;rw[hv];rfl
       obtain⟨Vs,q1,q2,q3⟩:=hr.load hk hg (i*1+0) 1 (by rw[hcells];simp;omega)
       have e:(k.cells.drop (i*1+0)).take 1=[AV.vint kk (L.getD i 0)]:=by
        rw[List.take_one,oc,hcells]
        simp[hi]
       rw[e]at q1
       cases q1 with
       |@cons _ V _ _ hv' _=>
        have:=q3 0 V rfl
        rw[dg,gj]at this
        exact⟨V,_,rfl,ox ht hd hag this,hv'⟩
     ·rename_i kk L c n hv
      cases hag:gw d with
      |true=>rw[hag]at hq;cases hq
      |false=>
       rw[hag]at hq
       simp only[bg]at hq
       obtain⟨hb,hq⟩:=az hq
       cases hq
       obtain⟨hb1,hb2⟩:=bq hb
       have hb1:=aN hb1
       have hb2:=aN hb2
       subst hb1 hb2
       have hi:=ay hm
       have hcells:k.cells=L.map (fZ kk)++[AV.lo c n]:=by unfold ai.cells;rw[hv];rfl
       obtain⟨Vs,q1,q2,q3⟩:=hr.load hk hg (i*1+0) 1 (by rw[hcells];simp;omega)
       have e:(k.cells.drop (i*1+0)).take 1=[AV.lo c n]:=by
        rw[List.take_one,oc,hcells]
        simp[hi]
       rw[e]at q1
       cases q1 with
       |@cons _ V _ _ hv' _=>
        have:=q3 0 V rfl
        rw[dg,gj]at this
        exact⟨V,_,rfl,ox ht hd hag this,hv'⟩
     ·rename_i τ L hv
      obtain⟨hz,hq'⟩:=az hq
      clear hq
      have hz:=aN hz
      subst hz
      have hcells:k.cells=bS τ L:=by unfold ai.cells;rw[hv];rfl
      cases hag:gw d with
      |true=>
       rw[hag]at hq'
       simp only[aM]at hq'
       split at hq'
       ·cases hq'
       ·rename_i n hs
        obtain⟨hb,hq⟩:=az hq'
        cases hq
        have hb:=aU hb
        have hi:=ay hm
        have hsz:(i+1)*τ.sz≤L.length*τ.sz:=il _ hi
        rw[gk]at hsz
        obtain⟨Vs,q1,q2,q3⟩:=hr.load hk hg (i*τ.sz+j) n (by rw[hcells,jD];omega)
        rw[hcells,D5 τ L i j n hi hb]at q1
        exact⟨_,_,rfl,x9 ht hd hag hs q2 (fun q u hu=>by have:=q3 q u hu;rwa[dg]at this),.agg q1⟩
      |false=>
       rw[hag]at hq'
       simp only[bg]at hq'
       split at hq'
       ·cases hq'
       ·rename_i r hr0
        cases hq'
        have hi:=ay hm
        have hj:j<τ.sz:=by
         rw[oc]at hr0
         have:=(xQ.1 hr0).1
         rwa[aa.rvs_len]at this
        have hsz:(i+1)*τ.sz≤L.length*τ.sz:=il _ hi
        rw[gk]at hsz
        obtain⟨Vs,q1,q2,q3⟩:=hr.load hk hg (i*τ.sz+j) 1 (by rw[hcells,jD];omega)
        rw[hcells,D5 τ L i j 1 hi om,List.take_one,hr0]at q1
        simp only[Option.toList_some,RV.avl]at q1
        cases q1 with
        |@cons _ V _ _ hv' _=>
         have:=q3 0 V rfl
         rw[dg,gj]at this
         exact⟨V,_,rfl,ox ht hd hag this,hv'⟩
     ·rename_i cs hv
      cases hag:gw d with
      |true=>rw[hag]at hq;cases hq
      |false=>
       rw[hag]at hq
       simp only[bg]at hq
       split at hq
       ·split at hq
        ·cases hq
        ·rename_i l hl
         obtain⟨hb,hq⟩:=az hq
         cases hq
         have hb:=aN hb
         subst hb
         have hi:=ay hm
         have hcells:k.cells=cs:=by unfold ai.cells;rw[hv];rfl
         obtain⟨B',x',Cs,ex,g1,g2,g3,_⟩:=hr.blk b k hk
         rw[hg]at g1
         cases g1
         rw[hcells]at g3
         have hCs:=Dj g3 hl
         subst hCs
         refine⟨.bool (l.getD (i+j) false),_,rfl,ox ht hd hag ?_,.vbool _⟩
         rw[Nat.mul_one,cell_of_row w B (i+j) _ _ _ g2,ku,gB (by simpa using hi)]
         simp[hi]
       ·rename_i kk hkk
        split at hq
        ·cases hq
        ·rename_i l hl
         obtain⟨hb,hq⟩:=az hq
         cases hq
         have hb:=aN hb
         subst hb
         have hi:=ay hm
         have hcells:k.cells=cs:=by unfold ai.cells;rw[hv];rfl
         obtain⟨B',x',Cs,ex,g1,g2,g3,_⟩:=hr.blk b k hk
         rw[hg]at g1
         cases g1
         rw[hcells]at g3
         have hCs:=ux g3 hl
         subst hCs
         refine⟨.int kk (l.getD (i+j) 0),_,rfl,ox ht hd hag ?_,.vint _ _⟩
         rw[Nat.mul_one,cell_of_row w B (i+j) _ _ _ g2,ku,gB (by simpa using hi)]
         simp[hi]
  ·cases hq
end
theorem au.parts {γ:Gm}:∀{us vs:List AV}{Vs:List Value},au γ (us++vs) Vs→∃V1 V2,Vs=V1++V2∧au γ us V1∧au γ vs V2
 |[],vs,Vs,h=>⟨[],Vs,rfl,.nil,h⟩
 |u::us,vs,Vs,h=>by
  cases h with
  |cons h t=>
   obtain⟨V1,V2,rfl,h1,h2⟩:=au.parts t
   exact⟨_::V1,V2,rfl,.cons h h1,h2⟩
theorem aQ.freeze {γ:Gm}{f:Hf}{nx:Nat}{w:World}(h:aQ γ f nx w){b:Nat}{k:ai}(hb:f b=some k)(hown:k.own=true){B x:Nat}(hg:γ b=some (B,x)){y:Obj}(hy:w.heap[B]? =some y):
 bj γ f w ⟨γ.nm,fun B'=>if B'=B then some y else γ.fz B'⟩ (dY f b none) nx w:=by
 have hz:γ.fz B=none:=h.fzo b k B x hb hown hg
 have hle:γ.le ⟨γ.nm,fun B'=>if B'=B then some y else γ.fz B'⟩:=by
  refine⟨fun _ _ h=>h,fun B' z hz'=>?_⟩
  show(if B'=B then some y else γ.fz B')=some z
  rw[if_neg]
  ·exact hz'
  ·intro e;rw[e,hz]at hz';cases hz'
 have hold:∀c kc,dY f b none c=some kc→f c=some kc∧c≠b:=by
  intro c kc hc
  by_cases e:c=b
  ·subst e;rw[fb]at hc;cases hc
  ·rw[dl f _ e]at hc;exact⟨hc,e⟩
 refine⟨hle,⟨?_,?_,h.fresh,?_,?_⟩,aZ _,rfl,rfl,rfl,fun _ _ _=>rfl,?_,?_,?_,?_,aZ _⟩
 ·intro c kc hc
  obtain⟨B2,x2,cs2,ex2,q1,q2,q3,q4⟩:=h.blk c kc (hold c kc hc).1
  exact⟨B2,x2,cs2,ex2,q1,q2,q3.mono hle,q4⟩
 ·intro c c' kc kc' B' x' x'' q1 q2 q3 q4
  exact h.inj c c' kc kc' B' x' x'' (hold _ _ q1).1 (hold _ _ q2).1 q3 q4
 ·intro B' z hz'
  have hz':(if B'=B then some y else γ.fz B')=some z:=hz'
  by_cases e:B'=B
  ·rw[if_pos e]at hz';cases hz';rw[e];exact hy
  ·rw[if_neg e]at hz';exact h.fzr B' z hz'
 ·intro c kc B' x' hc ho hgc
  obtain⟨h1,h2⟩:=hold c kc hc
  show(if B'=B then some y else γ.fz B')=none
  rw[if_neg]
  ·exact h.fzo c kc B' x' h1 ho hgc
  ·intro e
   subst e
   exact h2 (h.inj c b kc k B' x' x h1 hb hgc hg)
 ·rintro k' hk ⟨c,kc,y',q1,q2,q3⟩
  exact⟨c,kc,y',(hold c kc q1).1,q2,q3⟩
 ·intro c kc hc ho
  exact(hold c kc hc).1
 ·intro c kc hc
  exact .inl ⟨kc,(hold c kc hc).1⟩
 ·intro B' z hz'
  have hz':(if B'=B then some y else γ.fz B')=some z:=hz'
  by_cases e:B'=B
  ·exact .inr (.inr ⟨b,k,x,hb,hown,e▸hg⟩)
  ·rw[if_neg e]at hz';exact .inl hz'
def Con.ofR:List RV→Con
 |[.int _ x,.int _ n,.int _ s,.bool o,.int _ t]=>⟨x,n,s,o,t⟩
 |_=>Con.zero
def ag (n:Nat)(row:Nat→List RV):List Con:=(List.range n).map fun i=>Con.ofR (row i)
def ge:List RV→Int
 |[.int _ x]=>x
 |_=>0
def b9 (n:Nat)(row:Nat→List RV):List Int:=(List.range n).map fun i=>ge (row i)
theorem bW.rows {F:Fz}{n sz:Nat}{row row':Nat→List RV}(h:∀i,i<n→row i=row' i){V:Value}(k:bW F (.sl n sz row) V):bW F (.sl n sz row') V:=by
 cases k with
 |sl0 sz row a c hn=>exact .sl0 sz _ a c hn
 |sl cs hc hl hf hr=>exact .sl cs hc hl hf (fun i hi=>h i hi▸hr i hi)
theorem UP (c:Con):Con.ofR c.rvs=c:=rfl
theorem bn (L:List Con):ag L.length (fun i=>(L.getD i Con.zero).rvs)=L:=by
 apply List.ext_getElem
 ·simp[ag]
 ·intro i h1 h2
  simp[ag,UP,h2]
mutual
theorem ap.rv {γ:Gm}:∀{r:RV}{V:Value},ap γ r.av V→bW γ.fz r V:=by
 intro r V h
 cases r with
 |bool b=>simp only[RV.av]at h;cases h;exact .bool _
 |int k n=>simp only[RV.av]at h;cases h;exact .int _ _
 |str s=>simp only[RV.av]at h;cases h;exact .str _
 |err b=>simp only[RV.av]at h;cases h with|verr h=>exact .err h
 |sl n z r=>simp only[RV.av]at h;cases h with|ro h=>exact h
 |agg vs=>simp only[RV.av]at h;cases h with|agg h=>exact .agg (au.rvs h)
 |tup vs=>simp only[RV.av]at h;cases h with|tup h=>exact .tup (au.rvs h)
theorem au.rvs {γ:Gm}:∀{rs:List RV}{Vs:List Value},au γ (RV.avl rs) Vs→bM γ.fz rs Vs:=by
 intro rs Vs h
 cases rs with
 |nil=>simp only[RV.avl]at h;cases h;exact .nil
 |cons r rs=>simp only[RV.avl]at h;cases h with|cons h t=>exact .cons (ap.rv h) (au.rvs t)
end
def Loc.ofR:List RV→Loc
 |[.int _ p,.sl n _ row]=>⟨p,ag n row⟩
 |_=>Loc.zero
def bb (n:Nat)(row:Nat→List RV):List Loc:=(List.range n).map fun i=>Loc.ofR (row i)
def af.ofR:List RV→af
 |[.int _ a,.int _ b,.sl n _ row]=>⟨a,b,bb n row⟩
 |_=>af.zero
def bB.ofR:List RV→bB
 |[.int _ a,.int _ b]=>⟨a,b⟩
 |_=>bB.zero
def Jb.ofR:List RV→Jb
 |[.int _ a,.int _ b,.int _ c,.int _ d,.int _ e]=>⟨a,b,c,d,e⟩
 |_=>Jb.zero
def kd.ofR:List RV→kd
 |[.bool b,.sl n _ row]=>⟨b,b9 n row⟩
 |_=>kd.zero
def aai:List RV→Bool
 |[.bool b]=>b
 |_=>false
def aa.of:(τ:aa)→List RV→τ.car
 |.con,rs=>Con.ofR rs
 |.num _,rs=>ge rs
 |.loc,rs=>Loc.ofR rs
 |.gen,rs=>af.ofR rs
 |.pow,rs=>bB.ofR rs
 |.jb,rs=>Jb.ofR rs
 |.bint,rs=>kd.ofR rs
 |.flag,rs=>aai rs
 |.list τ,rs=>match rs with
  |[.sl n _ row]=>(List.range n).map fun i=>τ.of (row i)
  |_=>[]
def cm (τ:aa)(n:Nat)(row:Nat→List RV):List τ.car:=match τ with
 |.con=>ag n row
 |.num _=>b9 n row
 |.loc=>bb n row
 |τ=>(List.range n).map fun i=>τ.of (row i)
theorem se (τ:aa)(n:Nat)(row:Nat→List RV):cm τ n row=(List.range n).map fun i=>τ.of (row i):=by
 cases τ<;>rfl
theorem uj {α:Type}(L:List α)(z:α):(List.range L.length).map (fun i=>L.getD i z)=L:=by
 apply List.ext_getElem
 ·simp
 ·intro i h1 h2
  simp[h2]
theorem j5 (k:IntKind)(L:List Int):b9 L.length (fun i=>[.int k (L.getD i 0)])=L:=uj L 0
theorem ze (x:Loc):Loc.ofR x.rvs=x:=by
 show(⟨x.prime,ag x.list.length (fun i=>(x.list.getD i Con.zero).rvs)⟩:Loc)=x
 rw[bn]
theorem f9 (L:List Loc):bb L.length (fun i=>(L.getD i Loc.zero).rvs)=L:=by
 unfold bb
 simp only[ze]
 exact uj L _
theorem aa.of_rvs:∀(τ:aa)(c:τ.car),τ.of (τ.rvs c)=c
 |.con,c=>rfl
 |.num _,c=>rfl
 |.loc,c=>ze c
 |.gen,c=>by
  show(⟨c.dim,c.det,bb c.locs.length (fun i=>(c.locs.getD i Loc.zero).rvs)⟩:af)=c
  rw[f9]
  cases c;rfl
 |.pow,c=>rfl
 |.jb,c=>rfl
 |.flag,_=>rfl
 |.bint,c=>by
  show(⟨c.neg,b9 c.mag.length (fun i=>[.int .u32 (c.mag.getD i 0)])⟩:kd)=c
  rw[j5]
  cases c;rfl
 |.list τ,c=>by
  show(List.range (List.length (α:=τ.car) c)).map (fun i=>τ.of (τ.rvs (List.getD (α:=τ.car) c i τ.zero)))=c
  simp only[aa.of_rvs τ]
  exact uj (α:=τ.car) c _
def aI (τ:aa)(L:List τ.car):RV:=.sl L.length τ.sz (fun i=>τ.rvs (L.getD i τ.zero))
theorem Sb (τ:aa)(L:List τ.car):cm τ L.length (fun i=>τ.rvs (L.getD i τ.zero))=L:=by
 rw[se]
 simp only[aa.of_rvs τ]
 exact uj L _
theorem Gk {τ:aa}{n:Nat}{row:Nat→List RV}(h:∀i,i<n→row i=τ.rvs (τ.of (row i))){F:Fz}{V:Value}(k:bW F (.sl n τ.sz row) V):bW F (aI τ (cm τ n row)) V:=by
 unfold aI
 have hn:(cm τ n row).length=n:=by rw[se];simp
 rw[hn]
 refine k.rows (fun i hi=>?_)
 rw[se]
 simp only[cj,lY,List.getElem?_range hi,kz,Option.getD_some]
 exact h i hi
theorem C6 {γ:Gm}{τ:aa}{L:List τ.car}{B c el:Nat}{fr:Nat×Nat}{cs ex:List Value}(hF:γ.fz B=some (.cells (cs++ex).toArray el fr))(hr:au γ (bS τ L) cs)(hc:L.length≤c):bW γ.fz (aI τ L) (.slice (some ⟨B,0,none⟩) L.length c):=by
 have hl:=hr.length
 rw[jD]at hl
 refine .sl (fun i=>(cs.drop (i*τ.sz)).take τ.sz) hc (fun i hi=>?_) (fun i j v hi hv=>?_) (fun i hi=>?_)
 ·have hsz:(i+1)*τ.sz≤L.length*τ.sz:=il _ hi
  rw[gk]at hsz
  simp;omega
 ·refine⟨_,_,_,hF,?_⟩
  rw[pF]at hv
  split at hv
  ·rw[lX]at hv
   have hlt:=(xQ.1 hv).1
   rw[ku,gB om,show 0+i*τ.sz+j=i*τ.sz+j by omega]
   exact hv
  ·cases hv
 ·have h:=(hr.drop (i*τ.sz)).take τ.sz
  rw[yU τ L i hi]at h
  exact h.rvs
def ws (τ τ':aa)(L:List τ.car):Option (List τ'.car):=match τ,τ',L with
 |.con,.con,L=>some L
 |.num k,.num k',L=>bif decide (k=k')then some L else none
 |.loc,.loc,L=>some L
 |.gen,.gen,L=>some L
 |.pow,.pow,L=>some L
 |.jb,.jb,L=>some L
 |.bint,.bint,L=>some L
 |.flag,.flag,L=>some L
 |.list .con,.list .con,L=>some L
 |.list (.num k),.list (.num k'),L=>bif decide (k=k')then some L else none
 |.list .loc,.list .loc,L=>some L
 |.list .gen,.list .gen,L=>some L
 |.list .pow,.list .pow,L=>some L
 |.list .jb,.list .jb,L=>some L
 |.list .bint,.list .bint,L=>some L
 |_,_,_=>none
theorem Fj {τ τ':aa}{L:List τ.car}{L':List τ'.car}(h:ws τ τ' L=some L'):bS τ L=bS τ' L':=by
 unfold ws at h
 split at h
 all_goals first
  |(cases h;rfl)
  |(cases h;done)
  |(obtain⟨h1,h2⟩:=az h
    have h1:=dE h1
    subst h1
    cases h2
    rfl)
def o7 (τ:aa):bN→Option (List τ.car)
 |.con L=>match τ with
  |.con=>some L
  |_=>none
 |.ints k L=>match τ with
  |.num k'=>bif decide (k'=k)then some L else none
  |_=>none
 |.vals τ' L=>ws τ' τ L
 |_=>none
theorem yh (k:IntKind):∀L:List Int,L.map (AV.vint k)=bS (.num k) L
 |[]=>rfl
 |a::L=>by rw[jY,yh k L];rfl
theorem sf {τ:aa}{V:bN}{L:List τ.car}(h:o7 τ V=some L):V.cells=bS τ L:=by
 unfold o7 at h
 split at h
 ·split at h
  ·cases h;rfl
  ·cases h
 ·split at h
  ·obtain⟨h1,h2⟩:=az h
   have h1:=dE h1
   subst h1
   cases h2
   exact yh _ _
  ·cases h
 ·exact Fj h
 ·cases h
noncomputable def lu (h:Tr ai)(τ:aa)(u:AV):Option (List τ.car×Tr ai×List Prop):=
 match u with
 |.ro n z row=>bif Nat.beq z τ.sz then some (cm τ n row,h,[∀i,i<n→row i=τ.rvs (τ.of (row i))])else none
 |.nils=>some ([],h,[])
 |.z0=>some ([],h,[])
 |.lo b n=>match h.get b with
  |none=>none
  |some k=>bif k.own then(match o7 τ k.view with
   |none=>none
   |some L=>match h.set b none with
    |none=>none
    |some h'=>some (L,h',[n=L.length]))else none
 |_=>none
structure eB (γ:Gm)(h:Tr ai)(nx:Nat)(w:World)(γ':Gm)(h':Tr ai):Prop where
 stp:bj γ h.get w γ' h'.get nx w
 nm:γ'.nm=γ.nm
 sub:∀b k,h'.get b=some k→h.get b=some k
theorem eB.refl {γ:Gm}{h:Tr ai}{nx:Nat}{w:World}(hr:aQ γ h.get nx w):eB γ h nx w γ h:=⟨bj.refl hr,rfl,fun _ _ h=>h⟩
theorem eB.trans {γ γ1 γ2:Gm}{h h1 h2:Tr ai}{nx:Nat}{w:World}(a:eB γ h nx w γ1 h1)(b:eB γ1 h1 nx w γ2 h2):eB γ h nx w γ2 h2:=
 ⟨a.stp.trans b.stp,b.nm.trans a.nm,fun c k hc=>a.sub c k (b.sub c k hc)⟩
theorem oE {γ:Gm}{h h':Tr ai}{nx:Nat}{w:World}(hr:aQ γ h.get nx w){τ:aa}{u:AV}{L:List τ.car}{ms:List Prop}(hq:lu h τ u=some (L,h',ms))(hm:∀p∈ms,p):
 u.one=true∧∃γ',eB γ h nx w γ' h'∧∀γ2:Gm,γ'.le γ2→∀V,ap γ2 u V→bW γ2.fz (aI τ L) V:=by
 unfold lu at hq
 split at hq
 ·rename_i n z row
  obtain⟨hz,hq'⟩:=az hq
  have hz:=aN hz
  subst hz
  cases hq'
  refine⟨rfl,γ,eB.refl hr,fun γ2 _ V hV=>?_⟩
  cases hV with|ro hR=>
  exact Gk (ay hm) hR
 ·cases hq
  exact⟨rfl,γ,eB.refl hr,fun γ2 _ V hV=>by cases hV;exact .sl0 _ _ _ _ rfl⟩
 ·cases hq
  exact⟨rfl,γ,eB.refl hr,fun γ2 _ V hV=>by cases hV;exact .sl0 _ _ _ _ rfl⟩
 ·rename_i b n
  split at hq
  ·cases hq
  ·rename_i k hk
   obtain⟨hown,hq'⟩:=az hq
   clear hq
   split at hq'
   ·cases hq'
   ·rename_i L' hL
    split at hq'
    ·cases hq'
    ·rename_i h2 hset
     cases hq'
     have hn:=ay hm
     have hcells:k.cells=bS τ L:=sf hL
     obtain⟨B,x,cs,ex,g1,g2,g3,g4,g5⟩:=hr.blk b k hk
     have hfz:=hr.freeze hk hown g1 g2
     refine⟨rfl,⟨γ.nm,fun B'=>if B'=B then some (Obj.cells (cs++ex).toArray k.elem)else γ.fz B'⟩,⟨by rw[eo hset];exact hfz,rfl,fun c kc hc=>?_⟩,fun γ2 hle V hV=>?_⟩
     ·rw[eo hset]at hc
      by_cases e:c=b
      ·subst e;rw[fb]at hc;cases hc
      ·rw[dl _ _ e]at hc;exact hc
     ·subst hn
      cases hV with
      |lo _ hg=>
       have:=hle.nm b _ (show γ.nm b=_ from g1)
       rw[hg]at this
       cases this
       refine C6 (el:=k.elem) (fr:=(0,0)) (cs:=cs) (ex:=ex) (hle.fz B _ ?_) ?_ om
       ·show(if B=B then _ else _)=_
        rw[if_pos rfl]
       ·rw[←hcells]
        refine(g3.mono ?_)
        exact Gm.le_trans hfz.le hle
 ·cases hq
theorem au.one1 {γ:Gm}{v:AV}{Vs:List Value}(h:au γ [v] Vs):∃V,Vs=[V]∧ap γ v V:=by
 cases h with|cons h t=>cases t;exact⟨_,rfl,h⟩
noncomputable def wL (h:Tr ai):(τ:aa)→τ.car→Nat→List AV→Option (τ.car×Tr ai×List Prop)
 |.flag,_,0,[v]=>match clr v with
  |.bool a=>some (a,h,[])
  |_=>none
 |.num k,_,0,[v]=>match clr v with
  |.int k' a=>bif decide (k'=k)then some (a,h,[])else none
  |_=>none
 |.loc,_,0,[v,u]=>match clr v with
  |.int .i64 p=>match lu h .con u with
   |none=>none
   |some (L,h',ms)=>some (⟨p,L⟩,h',ms)
  |_=>none
 |.loc,x,0,[v]=>match clr v with
  |.int .i64 p=>some (⟨p,x.list⟩,h,[])
  |_=>none
 |.loc,x,1,[u]=>match lu h .con u with
  |none=>none
  |some (L,h',ms)=>some (⟨x.prime,L⟩,h',ms)
 |.gen,_,0,[v,v',u]=>match clr v with
  |.int .i64 a=>match clr v' with
   |.int .i64 b=>match lu h .loc u with
    |none=>none
    |some (L,h',ms)=>some (⟨a,b,L⟩,h',ms)
   |_=>none
  |_=>none
 |.gen,x,2,[u]=>match lu h .loc u with
  |none=>none
  |some (L,h',ms)=>some (⟨x.dim,x.det,L⟩,h',ms)
 |.pow,_,0,[v,v']=>match clr v with
  |.int .i64 a=>match clr v' with
   |.int .i64 b=>some (⟨a,b⟩,h,[])
   |_=>none
  |_=>none
 |.jb,_,0,[v1,v2,v3,v4,v5]=>match clr v1,clr v2,clr v3,clr v4,clr v5 with
  |.int .i64 a,.int .i64 b,.int .i64 c,.int .i64 d,.int .i64 e=>some (⟨a,b,c,d,e⟩,h,[])
  |_,_,_,_,_=>none
 |.bint,_,0,[v,u]=>match clr v with
  |.bool b=>match lu h (.num .u32) u with
   |none=>none
   |some (L,h',ms)=>some (⟨b,L⟩,h',ms)
  |_=>none
 |.list τ,_,0,[u]=>match lu h τ u with
  |none=>none
  |some (L,h',ms)=>some (L,h',ms)
 |_,_,_,_=>none
theorem jo {v u:AV}(h:clr v=u)(hu:u.one=true):v.one=true:=by
 cases v<;>first|rfl|(simp only[clr]at h;rw[←h]at hu;exact hu)
theorem j7 {γ:Gm}{v:AV}{k:IntKind}{a:Int}(h:clr v=.int k a){V:Value}(hV:ap γ v V):V=.int k a:=by
 have:=hV.clr;rw[h]at this;cases this;rfl
theorem Fk {γ:Gm}{v:AV}{a:Bool}(h:clr v=.bool a){V:Value}(hV:ap γ v V):V=.bool a:=by
 have:=hV.clr;rw[h]at this;cases this;rfl
structure aaj (τ:aa)(c c':τ.car)(j:Nat)(vs:List AV)(rs:List RV)(γ':Gm):Prop where
 len:rs.length=vs.length
 fit:j+vs.length≤τ.sz
 eq:τ.rvs c'=(τ.rvs c).take j++rs++(τ.rvs c).drop (j+vs.length)
 one:vs.all AV.one=true
 rel:∀γ2:Gm,γ'.le γ2→∀Vs,au γ2 vs Vs→bM γ2.fz rs Vs
theorem Gl {γ:Gm}{h h':Tr ai}{nx:Nat}{w:World}(hr:aQ γ h.get nx w){τ:aa}{c c':τ.car}{j:Nat}{vs:List AV}{ms:List Prop}(hq:wL h τ c j vs=some (c',h',ms))(hm:∀p∈ms,p):
 ∃γ' rs,eB γ h nx w γ' h'∧aaj τ c c' j vs rs γ':=by
 unfold wL at hq
 split at hq
 ·rename_i c0 v
  split at hq
  ·rename_i a hv
   cases hq
   refine⟨γ,[.bool c'],eB.refl hr,rfl,aZ _,rfl,?_,fun γ2 _ Vs hVs=>?_⟩
   ·simp[jo hv rfl]
   ·obtain⟨V,rfl,hV⟩:=hVs.one1
    rw[Fk hv hV]
    exact .cons (.bool _) .nil
  ·cases hq
 ·rename_i k c0 v
  split at hq
  ·rename_i k' a hv
   obtain⟨hk,hq'⟩:=az hq
   have hk:=dE hk
   subst hk
   cases hq'
   refine⟨γ,[.int k' a],eB.refl hr,rfl,aZ _,rfl,?_,fun γ2 _ Vs hVs=>?_⟩
   ·simp[jo hv rfl]
   ·obtain⟨V,rfl,hV⟩:=hVs.one1
    rw[j7 hv hV]
    exact .cons (.int _ _) .nil
  ·cases hq
 ·rename_i c0 v u
  split at hq
  ·rename_i p hv
   split at hq
   ·cases hq
   ·rename_i L h1 ms1 hL
    cases hq
    obtain⟨ho,γ',hF,hrel⟩:=oE hr hL hm
    refine⟨γ',[.int .i64 p,aI .con L],hF,rfl,aZ _,rfl,?_,fun γ2 hle Vs hVs=>?_⟩
    ·simp[jo hv rfl,ho]
    ·cases hVs with|cons h1 t1=>
     cases t1 with|cons h2 t2=>
     cases t2
     rw[j7 hv h1]
     exact .cons (.int _ _) (.cons (hrel γ2 hle _ h2) .nil)
  ·cases hq
 ·rename_i x v
  split at hq
  ·rename_i p hv
   cases hq
   refine⟨γ,[.int .i64 p],eB.refl hr,rfl,by simp[aa.sz],rfl,?_,fun γ2 hle Vs hVs=>?_⟩
   ·simp[jo hv rfl]
   ·obtain⟨V,rfl,hV⟩:=hVs.one1
    rw[j7 hv hV]
    exact .cons (.int _ _) .nil
  ·cases hq
 ·rename_i x u
  split at hq
  ·cases hq
  ·rename_i L h1 ms1 hL
   cases hq
   obtain⟨ho,γ',hF,hrel⟩:=oE hr hL hm
   refine⟨γ',[aI .con L],hF,rfl,by simp[aa.sz],rfl,?_,fun γ2 hle Vs hVs=>?_⟩
   ·simp[ho]
   ·obtain⟨V,rfl,hV⟩:=hVs.one1
    exact .cons (hrel γ2 hle _ hV) .nil
 ·rename_i x v v' u
  split at hq
  ·rename_i a hv
   split at hq
   ·rename_i b hv'
    split at hq
    ·cases hq
    ·rename_i L h1 ms1 hL
     cases hq
     obtain⟨ho,γ',hF,hrel⟩:=oE hr hL hm
     refine⟨γ',[.int .i64 a,.int .i64 b,aI .loc L],hF,rfl,aZ _,rfl,?_,fun γ2 hle Vs hVs=>?_⟩
     ·simp[jo hv rfl,jo hv' rfl,ho]
     ·cases hVs with|cons h1 t1=>
      cases t1 with|cons h2 t2=>
      cases t2 with|cons h3 t3=>
      cases t3
      rw[j7 hv h1,j7 hv' h2]
      exact .cons (.int _ _) (.cons (.int _ _) (.cons (hrel γ2 hle _ h3) .nil))
   ·cases hq
  ·cases hq
 ·rename_i x u
  split at hq
  ·cases hq
  ·rename_i L h1 ms1 hL
   cases hq
   obtain⟨ho,γ',hF,hrel⟩:=oE hr hL hm
   refine⟨γ',[aI .loc L],hF,rfl,by simp[aa.sz],rfl,?_,fun γ2 hle Vs hVs=>?_⟩
   ·simp[ho]
   ·obtain⟨V,rfl,hV⟩:=hVs.one1
    exact .cons (hrel γ2 hle _ hV) .nil
 ·rename_i x v v'
  split at hq
  ·rename_i a hv
   split at hq
   ·rename_i b hv'
    cases hq
    refine⟨γ,[.int .i64 a,.int .i64 b],eB.refl hr,rfl,aZ _,rfl,?_,fun γ2 hle Vs hVs=>?_⟩
    ·simp[jo hv rfl,jo hv' rfl]
    ·cases hVs with|cons h1 t1=>
     cases t1 with|cons h2 t2=>
     cases t2
     rw[j7 hv h1,j7 hv' h2]
     exact .cons (.int _ _) (.cons (.int _ _) .nil)
   ·cases hq
  ·cases hq
 ·rename_i x v1 v2 v3 v4 v5
  split at hq
  ·rename_i a b c d e q1 q2 q3 q4 q5
   cases hq
   refine⟨γ,[.int .i64 a,.int .i64 b,.int .i64 c,.int .i64 d,.int .i64 e],eB.refl hr,rfl,aZ _,rfl,?_,fun γ2 hle Vs hVs=>?_⟩
   ·simp[jo q1 rfl,jo q2 rfl,jo q3 rfl,jo q4 rfl,jo q5 rfl]
   ·cases hVs with|cons h1 t1=>
    cases t1 with|cons h2 t2=>
    cases t2 with|cons h3 t3=>
    cases t3 with|cons h4 t4=>
    cases t4 with|cons h5 t5=>
    cases t5
    rw[j7 q1 h1,j7 q2 h2,j7 q3 h3,j7 q4 h4,j7 q5 h5]
    exact .cons (.int _ _) (.cons (.int _ _) (.cons (.int _ _) (.cons (.int _ _) (.cons (.int _ _) .nil))))
  ·cases hq
 ·rename_i x v u
  split at hq
  ·rename_i b hv
   split at hq
   ·cases hq
   ·rename_i L h1 ms1 hL
    cases hq
    obtain⟨ho,γ',hF,hrel⟩:=oE hr hL hm
    refine⟨γ',[.bool b,aI (.num .u32) L],hF,rfl,aZ _,rfl,?_,fun γ2 hle Vs hVs=>?_⟩
    ·simp[jo hv rfl,ho]
    ·cases hVs with|cons h1 t1=>
     cases t1 with|cons h2 t2=>
     cases t2
     rw[Fk hv h1]
     exact .cons (.bool _) (.cons (hrel γ2 hle _ h2) .nil)
  ·cases hq
 ·rename_i τ x u
  split at hq
  ·cases hq
  ·rename_i L h1 ms1 hL
   cases hq
   obtain⟨ho,γ',hF,hrel⟩:=oE hr hL hm
   refine⟨γ',[aI τ c'],hF,rfl,aZ _,rfl,?_,fun γ2 hle Vs hVs=>?_⟩
   ·simp[ho]
   ·obtain⟨V,rfl,hV⟩:=hVs.one1
    exact .cons (hrel γ2 hle _ hV) .nil
 ·cases hq
theorem Fl {τ:aa}{c':τ.car}{j:Nat}{rs:List RV}:∀{L:List τ.car}{i:Nat},i<L.length→j+rs.length≤τ.sz→τ.rvs c'=(τ.rvs (L.getD i τ.zero)).take j++rs++(τ.rvs (L.getD i τ.zero)).drop (j+rs.length)→
 bS τ (L.set i c')=(bS τ L).take (i*τ.sz+j)++RV.avl rs++(bS τ L).drop (i*τ.sz+j+rs.length)
 |[],_,h,_,_=>by simp at h
 |x::L,0,h,hj,he=>by
  have hx:(RV.avl (τ.rvs x)).length=τ.sz:=by rw[oJ,aa.rvs_len]
  have he:τ.rvs c'=(τ.rvs x).take j++rs++(τ.rvs x).drop (j+rs.length):=he
  simp only[bS,List.set_cons_zero,fo,l4,gN]
  rw[he,ry om,List.drop_append_of_le_length om]
  simp only[uP,rF,List.map_take,List.map_drop,mV]
 |x::L,i+1,h,hj,he=>by
  have hx:(RV.avl (τ.rvs x)).length=τ.sz:=by rw[oJ,aa.rvs_len]
  have ih:=Fl (τ:=τ) (c':=c') (j:=j) (rs:=rs) (L:=L) (i:=i) (by simpa using h) hj he
  simp only[bS,List.set_cons_succ,fo]at ih⊢
  rw[ih,show(i+1)*τ.sz+j=(RV.avl (τ.rvs x)).length+(i*τ.sz+j) by rw[hx,gk];omega,List.take_length_add_append,show(RV.avl (τ.rvs x)).length+(i*τ.sz+j)+rs.length=(RV.avl (τ.rvs x)).length+(i*τ.sz+j+rs.length) by omega,List.drop_length_add_append]
  simp only[mV]
def lG (x:Option AV)(d y:Nat):Option (Nat×List Prop):=
 match x with
 |none=>some (d,[])
 |some v=>match clr v with
  |.int _ j=>some (j.toNat,[0≤j∧j≤(y:Int)])
  |_=>none
theorem nj {P:Program}{γ:Gm}{w:World}{x:Option AV}{X:Option Value}(h:cz γ x X){d y r:Nat}{ms:List Prop}(hb:lG x d y=some (r,ms))(hm:∀p∈ms,p):(X=none∧r=d)∨∃k i,X=some (.int k i)∧(0≤i∧i≤(y:Int))∧r=i.toNat:=by
 unfold lG at hb
 cases x with
 |none=>
  cases X with
  |none=>simp at hb;exact .inl ⟨rfl,hb.1.symm⟩
  |some V=>simp[cz]at h
 |some v=>
  cases X with
  |none=>simp[cz]at h
  |some V=>
   have hv:=ap.clr h
   simp only at hb
   split at hb
   ·rename_i k j hc
    rw[hc]at hv
    cases hv
    cases hb
    exact .inr ⟨k,j,rfl,ay hm,rfl⟩
   ·cases hb
def xc:Option AV→Bool
 |some (.int _ j)=>decide (j=0)
 |_=>false
def sW:Option AV→Bool
 |none=>true
 |some (.int _ j)=>decide (j=0)
 |_=>false
def oO (ti:Tr TypeInfo)(t:Nat)(x:AV)(lo hi mx:Option AV):Option (AV×List Prop):=
 match bE ti t with
 |some (.slice e)=>match x with
  |.ro n sz row=>match cx ti e with
   |none=>none
   |some z=>bif Nat.beq z sz then
    (match mx with
    |none=>match lG hi n n with
     |none=>none
     |some (h,m1)=>match lG lo 0 h with
      |none=>none
      |some (l,m2)=>some (.ro (h-l) sz (fun i=>row (i+l)),m1++m2)
    |some _=>bif sW lo&&xc hi&&xc mx then some (.z0,[])else none)
    else none
  |.lo b n=>match cx ti e with
   |none=>none
   |some z=>bif sW lo then(match mx with
    |none=>match lG hi n n with
     |none=>none
     |some (h,m1)=>some (.slc b 0 h n,m1)
    |some _=>match hi with
     |none=>none
     |some _=>match lG mx n n with
      |none=>none
      |some (m,m1)=>match lG hi n m with
       |none=>none
       |some (h,m2)=>some (.ls b 0 z h true,[h=m]++(m1++m2)))else(match mx,hi with
    |none,none=>match lG lo 0 n with
     |none=>none
     |some (l,m2)=>some (.ls b l z (n-l) false,m2)
    |_,_=>none)
  |_=>none
 |some .string=>match clr x with
  |.str s=>match mx with
   |none=>match lG hi s.size s.size with
    |none=>none
    |some (h,m1)=>match lG lo 0 h with
     |none=>none
     |some (l,m2)=>some (.vstr (s.extract l h),m1++m2)
   |some _=>none
  |_=>none
 |_=>none
theorem He {γ:Gm}{x:Option AV}{X:Option Value}(h:cz γ x X)(hz:xc x=true):∃k,X=some (.int k 0):=by
 unfold xc at hz
 split at hz
 ·rename_i k j
  have:=dE hz
  subst this
  cases X with
  |none=>simp[cz]at h
  |some V=>cases h;exact⟨k,rfl⟩
 ·cases hz
theorem yS {γ:Gm}{x:Option AV}{X:Option Value}(h:cz γ x X)(hz:sW x=true):X=none∨∃k,X=some (.int k 0):=by
 unfold sW at hz
 split at hz
 ·cases X with
  |none=>exact .inl rfl
  |some V=>simp[cz]at h
 ·rename_i k j
  have:=dE hz
  subst this
  cases X with
  |none=>simp[cz]at h
  |some V=>cases h;exact .inr ⟨k,rfl⟩
 ·cases hz
theorem er {m1 m2:List Prop}(h:∀p∈m1++m2,p):(∀p∈m1,p)∧(∀p∈m2,p):=⟨fun p hp=>h p (by simp[hp]),fun p hp=>h p (by simp[hp])⟩
section
variable {P:Program}{ti:Tr TypeInfo}(ht:dM P ti){γ:Gm}{w:World}
theorem su {sl:Bool}{lo hi:Option Value}{n c h l:Nat}(hh:(hi=none∧h=n)∨∃k i,hi=some (.int k i)∧(0≤i∧i≤(n:Int))∧h=i.toNat)(hl:(lo=none∧l=0)∨∃k i,lo=some (.int k i)∧(0≤i∧i≤(h:Int))∧l=i.toNat)(hc:n≤c):
 (Instr.sliceBounds sl n c lo hi none).run P w=.ok (l,h,c) w:=by
 rcases hh with⟨rfl,rfl⟩|⟨k,i,rfl,hi1,rfl⟩
 ·rcases hl with⟨rfl,rfl⟩|⟨k',i',rfl,hi2,rfl⟩
  ·simp[Instr.sliceBounds]
  ·simp[Instr.sliceBounds,Instr.sliceBound,asIntOf,hi2]
 ·have e1:0≤i∧i≤(c:Int):=⟨hi1.1,om⟩
  rcases hl with⟨rfl,rfl⟩|⟨k',i',rfl,hi2,rfl⟩
  ·simp[Instr.sliceBounds,Instr.sliceBound,asIntOf,e1]
  ·have e2:0≤i'∧i'≤(i.toNat:Int):=hi2
   have e3:0≤i'∧i'≤max i 0:=by omega
   simp[Instr.sliceBounds,Instr.sliceBound,asIntOf,e1,e2,e3]
include ht in
theorem PC {t:Nat}{x v:AV}{ms:List Prop}{X:Value}(hx:ap γ x X){lo hi mx:Option AV}{LO HI MX:Option Value}(hl:cz γ lo LO)(hh:cz γ hi HI)(hmx:cz γ mx MX)(hq:oO ti t x lo hi mx=some (v,ms))(hm:∀p∈ms,p):
 ∃V,(Instr.slice t X LO HI MX).run P w=.ok V w∧ap γ v V:=by
 unfold oO at hq
 split at hq
 ·rename_i e hd
  split at hq
  ·rename_i n sz row
   split at hq
   ·cases hq
   ·rename_i z hz
    obtain⟨hb,hq⟩:=az hq
    have hb:=aN hb
    subst hb
    split at hq
    ·have hMX:MX=none:=by
      cases MX with
      |none=>rfl
      |some V=>simp[cz]at hmx
     subst hMX
     split at hq
     ·cases hq
     ·rename_i h m1 h1
      split at hq
      ·cases hq
      ·rename_i l m2 h2
       cases hq
       obtain⟨hm1,hm2⟩:=er hm
       have b1:=nj (P:=P) (w:=w) hh h1 hm1
       have b2:=nj (P:=P) (w:=w) hl h2 hm2
       have hhn:h≤n:=by rcases b1 with⟨_,rfl⟩|⟨_,i,_,hi,rfl⟩<;>omega
       have hlh:l≤h:=by rcases b2 with⟨_,rfl⟩|⟨_,i,_,hi,rfl⟩<;>omega
       cases hx with
       |ro hR=>
        cases hR with
        |sl0 _ _ a c hn=>
         subst hn
         refine⟨.slice (if c=l then a else a.map (·.add (l*z))) (h-l) (c-l),?_,?_⟩
         ·simp[Instr.slice,bC ht hd,su b1 b2 (aY c),df ht hz]
         ·have e:h-l=0:=by omega
          rw[e]
          exact .ro (.sl0 _ _ _ _ rfl)
        |sl cs hc hlen hf hrow=>
         rename_i B o c
         refine⟨.slice (if c=l then some ⟨B,o,none⟩else(some (⟨B,o,none⟩:Addr)).map (·.add (l*z))) (h-l) (c-l),?_,?_⟩
         ·simp[Instr.slice,bC ht hd,su b1 b2 hc,df ht hz]
         ·by_cases e:c=l
          ·have e0:h-l=0:=by omega
           rw[e0]
           exact .ro (.sl0 _ _ _ _ rfl)
          ·rw[if_neg e]
           simp only[kz,dg]
           refine .ro (.sl (fun i=>cs (i+l)) om (fun i hi=>hlen _ om) (fun i j v hi hv=>?_) (fun i hi=>hrow _ om))
           have:=hf (i+l) j v om hv
           rwa[show o+(i+l)*z+j=o+l*z+i*z+j by rw[gk];omega]at this
    ·rename_i mv
     obtain⟨hb,hq⟩:=az hq
     cases hq
     obtain⟨hb1,b3⟩:=bq hb
     obtain⟨b1,b2⟩:=bq hb1
     obtain⟨kh,rfl⟩:=He hh b2
     obtain⟨km,rfl⟩:=He hmx b3
     cases hx with
     |ro hR=>
      have key:∀(a:Option Addr)(n c:Nat),(Instr.slice t (.slice a n c) LO (some (.int kh 0)) (some (.int km 0))).run P w=.ok (.slice a 0 0) w:=by
       intro a n c
       rcases yS hl b1 with rfl|⟨kl,rfl⟩
       ·simp[Instr.slice,bC ht hd,Instr.sliceBounds,Instr.sliceBound,asIntOf,df ht hz]
       ·simp[Instr.slice,bC ht hd,Instr.sliceBounds,Instr.sliceBound,asIntOf,df ht hz]
      cases hR with
      |sl0 _ _ a c hn=>exact⟨_,key _ _ _,.z0 _⟩
      |sl cs hc hlen hf hrow=>exact⟨_,key _ _ _,.z0 _⟩
  ·rename_i b n
   split at hq
   ·cases hq
   ·rename_i z hz
    cases b2:sW lo with
    |false=>
     rw[b2,bg]at hq
     split at hq
     ·have hMX:MX=none:=by
       cases MX with
       |none=>rfl
       |some V=>simp[cz]at hmx
      have hHI:HI=none:=by
       cases HI with
       |none=>rfl
       |some V=>simp[cz]at hh
      subst hMX
      subst hHI
      split at hq
      ·cases hq
      ·rename_i l m2 h2
       cases hq
       have b3:=nj (P:=P) (w:=w) hl h2 hm
       have hln:l≤n:=by rcases b3 with⟨_,rfl⟩|⟨_,i,_,hi,rfl⟩<;>omega
       cases hx with
       |lo _ hg=>
        rename_i B x
        refine⟨.slice (if n+x=l then some ⟨B,0,none⟩else(some (⟨B,0,none⟩:Addr)).map (·.add (l*z))) (n-l) (n+x-l),?_,.ls l z false hg (fun h=>?_) om (fun h=>by cases h)⟩
        ·simp[Instr.slice,bC ht hd,su (.inl ⟨rfl,rfl⟩) b3 (kW n x),df ht hz]
        ·rw[if_neg om,kz,dg,gN]
     ·cases hq
    |true=>
    rw[b2,aM]at hq
    split at hq
    ·have hMX:MX=none:=by
      cases MX with
      |none=>rfl
      |some V=>simp[cz]at hmx
     subst hMX
     split at hq
     ·cases hq
     ·rename_i h m1 h1
      cases hq
      have b1:=nj (P:=P) (w:=w) hh h1 hm
      have hhn:h≤n:=by rcases b1 with⟨_,rfl⟩|⟨_,i,_,hi,rfl⟩<;>omega
      cases hx with
      |lo _ hg=>
       rename_i B x
       have b3:(LO=none∧(0:Nat)=0)∨∃k i,LO=some (.int k i)∧(0≤i∧i≤(h:Int))∧0=i.toNat:=by
        rcases yS hl b2 with rfl|⟨k,rfl⟩
        ·exact .inl ⟨rfl,rfl⟩
        ·exact .inr ⟨k,0,rfl,⟨om,om⟩,rfl⟩
       refine⟨.slice (some ⟨B,0,none⟩) h (n+x),?_,.slc 0 h n hg⟩
       have e:(if n+x=0 then some (⟨B,0,none⟩:Addr)else(some (⟨B,0,none⟩:Addr)).map (·.add (0*z)))=some ⟨B,0,none⟩:=by
        split
        ·rfl
        ·rw[kz,l4,dg]
       simp[Instr.slice,bC ht hd,su b1 b3 (kW n x),df ht hz,dg]
    ·split at hq
     ·cases hq
     ·split at hq
      ·cases hq
      ·rename_i m m1 h1
       split at hq
       ·cases hq
       ·rename_i h m2 h2
        cases hq
        obtain⟨q1,q2⟩:=er hm
        have hhm:h=m:=q1 _ cZ
        obtain⟨q3,q4⟩:=er q2
        have b1:=nj (P:=P) (w:=w) hmx h1 q3
        have b4:=nj (P:=P) (w:=w) hh h2 q4
        cases MX with
        |none=>simp[cz]at hmx
        |some VM=>
        cases HI with
        |none=>simp[cz]at hh
        |some VH=>
        rcases b1 with⟨h0,_⟩|⟨km,im,e1,e2,e3⟩
        ·cases h0
        rcases b4 with⟨h0,_⟩|⟨kh,ih,e4,e5,e6⟩
        ·cases h0
        cases e1
        cases e4
        cases hx with
        |lo _ hg=>
         rename_i B x
         have b3:LO=none∨∃k,LO=some (.int k 0):=yS hl b2
         have f1:0≤im∧im≤((n+x:Nat):Int):=⟨e2.1,om⟩
         have f2:0≤ih∧ih≤(im.toNat:Int):=by rw[←e3];exact e5
         have hb:(Instr.sliceBounds true n (n+x) LO (some (.int kh ih)) (some (.int km im))).run P w=.ok (0,h,m) w:=by
          rw[e6,e3]
          have f3:0≤im∧im≤(n:Int)+(x:Int):=⟨e2.1,om⟩
          have f4:0≤ih∧ih≤max im 0:=by omega
          rcases b3 with rfl|⟨k,rfl⟩
          ·simp[Instr.sliceBounds,Instr.sliceBound,asIntOf,f1,f2,f3,f4]
          ·simp[Instr.sliceBounds,Instr.sliceBound,asIntOf,f1,f2,f3,f4]
         refine⟨.slice (if m=0 then some ⟨B,0,none⟩else(some (⟨B,0,none⟩:Addr)).map (·.add (0*z))) (h-0) (m-0),?_,.ls 0 z true hg (fun _=>?_) om (fun _=>om)⟩
         ·simp[Instr.slice,bC ht hd,hb,df ht hz]
         ·split
          ·rw[l4]
          ·rw[kz,dg,l4]
  ·cases hq
 ·rename_i hd
  have hxc:=hx.clr
  split at hq
  ·rename_i s hs
   rw[hs]at hxc
   cases hxc
   split at hq
   ·have hMX:MX=none:=by
     cases MX with
     |none=>rfl
     |some V=>simp[cz]at hmx
    subst hMX
    split at hq
    ·cases hq
    ·rename_i h m1 h1
     split at hq
     ·cases hq
     ·rename_i l m2 h2
      cases hq
      obtain⟨hm1,hm2⟩:=er hm
      have b1:=nj (P:=P) (w:=w) hh h1 hm1
      have b2:=nj (P:=P) (w:=w) hl h2 hm2
      refine⟨.string (s.extract l h),?_,.vstr _⟩
      simp[Instr.slice,bC ht hd,su b1 b2 (aZ s.size)]
   ·cases hq
  ·cases hq
 ·cases hq
def Bk (ti:Tr TypeInfo)(op:BinOp)(t:Nat)(xo yo:Operand)(x y:AV):Option (AV×List Prop):=
 match op,clr x,clr y with
 |.quo,.int k a,.int k' b=>bif decide (k=k')then some (.vint k (k.wrap (a.tdiv b)),[b≠0])else none
 |.rem,.int k a,.int k' b=>bif decide (k=k')then some (.vint k (a.tmod b),[b≠0])else none
 |.add,.str a,.str b=>some (.vstr (a++b),[a.size+b.size≤1000000])
 |.eql,.verr b,.nilif=>match bE ti t with
  |some (.interface _)=>bif kC yo then some (.vbool b,[])else none
  |_=>none
 |.neq,.verr b,.nilif=>match bE ti t with
  |some (.interface _)=>bif kC yo then some (.vbool (!b),[])else none
  |_=>none
 |.eql,.ro n _ _,.nils=>match bE ti t with
  |some (.slice _)=>some (.bool false,[0<n])
  |_=>none
 |.eql,.lo _ _,.nils=>match bE ti t with
  |some (.slice _)=>some (.bool false,[])
  |_=>none
 |op,u,v=>match wE ti op t xo yo u v with
  |none=>none
  |some r=>some (tnt r,[])
include ht in
theorem Hg {t:Nat}{xo yo:Operand}{b:Bool}{X:Value}{ims:_}(h:vz b X)(hd:bE ti t=some (.interface ims))(hc:kC yo=true)(op:BinOp):
 (eqGuard op t xo yo X .nilIface).run P w=.ok () w∧(binOp .eql t X .nilIface).run P w=.ok (.bool b) w∧(binOp .neq t X .nilIface).run P w=.ok (.bool (!b)) w:=by
 have he:(Op.equal t X .nilIface).run P w=.ok b w:=by
  have:∀q:Nat,(Op.equalIn (q+1) t X .nilIface).run P w=.ok b w:=by
   intro q
   rcases h with⟨rfl,rfl⟩|⟨rfl,t',v,rfl⟩<;>simp[Op.equalIn,bC ht hd]
  exact this 9999
 refine⟨?_,by simp[binOp,he],by simp[binOp,he]⟩
 rcases h with⟨rfl,rfl⟩|⟨rfl,t',v,rfl⟩
 ·cases xo<;>cases yo<;>simp[kC]at hc<;>simp[go_sem]
 ·simp[go_sem]
include ht in
theorem Tt {op:BinOp}{t:Nat}{xo yo:Operand}{x y v:AV}{ms:List Prop}{X Y:Value}(hx:ap γ x X)(hy:ap γ y Y)(hq:Bk ti op t xo yo x y=some (v,ms))(hm:∀p∈ms,p):
 ∃V,((do eqGuard op t xo yo X Y;binOp op t X Y:Sem Value)).run P w=.ok V w∧ap γ v V:=by
 have hx:=hx.clr
 have hy:=hy.clr
 unfold Bk at hq
 split at hq
 ·rename_i k a k' b h1 h2
  rw[h1]at hx
  rw[h2]at hy
  cases hx
  cases hy
  obtain⟨hk,hq'⟩:=az hq
  have hk:=dE hk
  clear hq
  subst hk
  cases hq'
  have:=ay hm
  exact⟨.int k (k.wrap (a.tdiv b)),by simp[go_sem,binOp,Op.intDiv,this],.vint _ _⟩
 ·rename_i k a k' b h1 h2
  rw[h1]at hx
  rw[h2]at hy
  cases hx
  cases hy
  obtain⟨hk,hq'⟩:=az hq
  have hk:=dE hk
  clear hq
  subst hk
  cases hq'
  have:=ay hm
  exact⟨.int k (a.tmod b),by simp[go_sem,binOp,Op.intDiv,this],.vint _ _⟩
 ·rename_i a b h1 h2
  rw[h1]at hx
  rw[h2]at hy
  cases hx
  cases hy
  cases hq
  have:=ay hm
  refine⟨.string (a++b),?_,.vstr _⟩
  have h3:¬(((a.size+b.size:Nat):Int)>IntKind.i64.max):=by rw[IntKind.max_i64];omega
  have h4:¬(IntKind.i64.max<(a.size:Int)+(b.size:Int)):=by rw[IntKind.max_i64];omega
  simp[go_sem,binOp,Op.stringOp,h3,h4]
  omega
 ·rename_i b h1 h2
  rw[h1]at hx
  rw[h2]at hy
  split at hq
  ·rename_i ims hd
   obtain⟨hc,hq'⟩:=az hq
   cases hq'
   cases hy
   cases hx with
   |verr h=>
    obtain⟨g1,g2,_⟩:=Hg (P:=P) ht (w:=w) (xo:=xo) h hd hc .eql
    exact⟨_,by rw[Sem.run_bind,g1];exact g2,.vbool _⟩
  ·cases hq
 ·rename_i b h1 h2
  rw[h1]at hx
  rw[h2]at hy
  split at hq
  ·rename_i ims hd
   obtain⟨hc,hq'⟩:=az hq
   cases hq'
   cases hy
   cases hx with
   |verr h=>
    obtain⟨g1,_,g3⟩:=Hg (P:=P) ht (w:=w) (xo:=xo) h hd hc .neq
    exact⟨_,by rw[Sem.run_bind,g1];exact g3,.vbool _⟩
  ·cases hq
 ·rename_i n sz row h1 h2
  rw[h1]at hx
  rw[h2]at hy
  split at hq
  ·rename_i e hd
   cases hq
   have hn:=ay hm
   cases hy
   cases hx with
   |ro hx=>
    cases hx with
    |sl0 _ _ _ _ h0=>omega
    |sl cs _ _ _ _=>
     refine⟨.bool false,?_,.bool _⟩
     have he:∀(q:Nat)(a:Addr)(c:Nat),(Op.equalIn (q+1) t (.slice (some a) n c) (.slice none 0 0)).run P w=.ok false w:=by
      intro q a c
      simp only[Op.equalIn,Sem.run_bind,bC ht hd,Result.andThen_ok]
      rfl
     have he':∀(a:Addr)(c:Nat),(Op.equal t (.slice (some a) n c) (.slice none 0 0)).run P w=.ok false w:=fun a c=>he 9999 a c
     simp[go_sem,binOp,he']
  ·cases hq
 ·rename_i b n h1 h2
  rw[h1]at hx
  rw[h2]at hy
  split at hq
  ·rename_i e hd
   cases hq
   cases hy
   cases hx with
   |lo _ _=>
    refine⟨.bool false,?_,.bool _⟩
    have he:∀(q:Nat)(a:Addr)(c:Nat),(Op.equalIn (q+1) t (.slice (some a) n c) (.slice none 0 0)).run P w=.ok false w:=by
     intro q a c
     simp only[Op.equalIn,Sem.run_bind,bC ht hd,Result.andThen_ok]
     rfl
    have he':∀(a:Addr)(c:Nat),(Op.equal t (.slice (some a) n c) (.slice none 0 0)).run P w=.ok false w:=fun a c=>he 9999 a c
    simp[go_sem,binOp,he']
  ·cases hq
 ·split at hq
  ·cases hq
  ·rename_i r hr
   cases hq
   obtain⟨V,h1,h2⟩:=F0 (P:=P) ht w hx hy hr
   exact⟨V,h1,h2.tnt⟩
def zY (ti:Tr TypeInfo)(t:Nat)(x i:AV):Option (AV×List Prop):=
 match bE ti t,clr x,clr i with
 |some .string,.str s,.int _ j=>some (.vint .u8 ((s[j.toNat]?.getD 0).toNat:Int),[0≤j∧j.toNat<s.size])
 |some (.array len e),.agg cs,.int _ j=>match bE ti e,cx ti e,kE cs with
  |some d,some 1,some l=>bif gw d then none else some (.vbool (l.getD j.toNat false),[0≤j∧j<len∧j.toNat<l.length])
  |_,_,_=>none
 |_,_,_=>none
include ht in
theorem PD {t:Nat}{x i v:AV}{ms:List Prop}{X I:Value}(hx:ap γ x X)(hi:ap γ i I)(hq:zY ti t x i=some (v,ms))(hm:∀p∈ms,p):∃V,(Instr.index t X I).run P w=.ok V w∧ap γ v V:=by
 have hx:=hx.clr
 have hi:=hi.clr
 unfold zY at hq
 split at hq
 ·rename_i s k j hd h1 h2
  rw[h1]at hx
  rw[h2]at hi
  cases hx
  cases hi
  cases hq
  obtain⟨hj0,hj⟩:=ay hm
  have:s[j.toNat]? =some s[j.toNat]:=by simp[hj]
  exact⟨.int .u8 s[j.toNat].toNat,by simp[Instr.index,asIntOf,bC ht hd,hj0,this],by rw[this];exact .vint _ _⟩
 ·rename_i len e cs k j hd h1 h2
  rw[h1]at hx
  rw[h2]at hi
  cases hi
  split at hq
  ·rename_i d l hd2 hz hl
   cases hag:gw d with
   |true=>rw[hag]at hq;cases hq
   |false=>
    rw[hag]at hq
    cases hq
    obtain⟨hj0,hj1,hj⟩:=ay hm
    cases hx with
    |agg hc=>
     have hCs:=Dj hc hl
     subst hCs
     have e1:(l.map Value.bool)[j.toNat]? =some (.bool (l.getD j.toNat false)):=by simp[hj]
     refine⟨.bool (l.getD j.toNat false),?_,.vbool _⟩
     have h4:(part e (l.map Value.bool).toArray (j.toNat*1)).run P w=.ok (.bool (l.getD j.toNat false)) w:=by
      simp[part,oA ht hd2,hag,hj]
     rw[Nat.mul_one]at h4
     simp only[cj]at h4⊢
     simp[Instr.index,asIntOf,bC ht hd,hj0,hj1,df ht hz,h4]
  ·cases hq
 ·cases hq
def sLen (ti:Tr TypeInfo)(t:Nat)(x:AV):Option AV:=
 match bE ti t,x with
 |some .string,.vstr s=>some (.vint .i64 s.size)
 |some (.slice _),.ro n _ _=>some (.vint .i64 n)
 |some (.slice _),.lo _ n=>some (.vint .i64 n)
 |some (.slice _),.z0=>some (.int .i64 0)
 |_,_=>none
include ht in
theorem Tu {t ty:Nat}{ts:Array TypeId}(hts:ts[0]? =some t){x v:AV}{X:Value}{Xs:Array Value}(hXs:Xs[0]? =some X)(hx:ap γ x X)(hq:sLen ti t x=some v):
 ∃V,(Builtin.len_ ts ty Xs).run P w=.ok V w∧ap γ v V:=by
 unfold sLen at hq
 split at hq
 ·rename_i s hd
  cases hx;cases hq
  exact⟨_,by simp[Builtin.len_,hts,hXs,bC ht hd,goInt],.vint _ _⟩
 ·rename_i e n _ _ hd
  cases hq
  cases hx with
  |ro h=>
   cases h with
   |sl0 _ _ a c hn=>subst hn;exact⟨_,by simp[Builtin.len_,hts,hXs,bC ht hd,goInt],.vint _ _⟩
   |sl cs hc hlen hf hrow=>exact⟨_,by simp[Builtin.len_,hts,hXs,bC ht hd,goInt],.vint _ _⟩
 ·rename_i e n _ hd
  cases hx;cases hq
  exact⟨_,by simp[Builtin.len_,hts,hXs,bC ht hd,goInt],.vint _ _⟩
 ·rename_i e hd
  cases hx;cases hq
  exact⟨_,by simp[Builtin.len_,hts,hXs,bC ht hd,goInt],.int _ _⟩
 ·cases hq
end
def Yr:AV→Bool
 |.ro _ _ _=>true
 |.verr _=>true
 |.lo _ _=>true
 |_=>false
def qL (ti:Tr TypeInfo)(h:Tr ai)(ρ:Operand→Option AV)(op:Op)(ty:Nat):Option (AV×List Prop):=
 match op with
 |.load t a=>match ρ a with
  |some (.rp cs j)=>s7 ti h t (.rp cs j)
  |some (.lp b i z j)=>s7 ti h t (.lp b i z j)
  |_=>none
 |.nilCheck x=>match ρ x with
  |some (.rp cs j)=>some (.rp cs j,[])
  |some (.lp b i z j)=>some (.lp b i z j,[])
  |_=>none
 |.binOp op t x y _=>match ρ x,ρ y with
  |some u,some v=>bif pd u||pd v||Yr u then Bk ti op t x y u v else none
  |_,_=>none
 |.unOp op _ x=>match ρ x with
  |some u=>bif pd u then(match xH op (clr u)with|none=>none|some r=>some (tnt r,[]))else none
  |_=>none
 |.convert s d x=>match ρ x with
  |some (.vint _ n)=>match bE ti s,bE ti d with
   |some _,some (.int k)=>some (.vint k (k.wrap n),[])
   |_,_=>none
  |some (.vstr z)=>match bE ti s,bE ti d with
   |some _,some .string=>some (.vstr z,[])
   |_,_=>none
  |some (.slc b o n _)=>match bE ti s,bE ti d with
   |some (.slice e),some .string=>match qN ti e with
    |some .u8=>match h.get b with
     |none=>none
     |some k=>match np .u8 ((k.cells.drop o).take n)with
      |none=>none
      |some l=>bif Nat.ble (o+n) k.cells.length then some (.vstr (strOfNums l),[])else none
    |_=>none
   |_,_=>none
  |_=>none
 |.slice t x lo hi mx=>match ρ x with
  |some (.ro n sz row)=>match ij ρ lo,ij ρ hi,ij ρ mx with
   |some l,some e,some m=>oO ti t (.ro n sz row) l e m
   |_,_,_=>none
  |some (.vstr s)=>match ij ρ lo,ij ρ hi,ij ρ mx with
   |some l,some e,some m=>oO ti t (.vstr s) l e m
   |_,_,_=>none
  |some (.lo b n)=>match ij ρ lo,ij ρ hi,ij ρ mx with
   |some l,some e,some m=>oO ti t (.lo b n) l e m
   |_,_,_=>none
  |_=>none
 |.fieldAddr s x f=>match ρ x with
  |some (.rp cs j)=>match rO ti s (.rp cs j) f with
   |none=>none
   |some r=>some (r,[])
  |some (.lp b i z j)=>match rO ti s (.lp b i z j) f with
   |none=>none
   |some r=>some (r,[])
  |_=>none
 |.indexAddr t x i=>match ρ x,ρ i with
  |some (.ro n sz row),some v=>oy ti t (.ro n sz row) v
  |some (.lo b n),some v=>oy ti t (.lo b n) v
  |some (.rp cs j),some v=>oy ti t (.rp cs j) v
  |some u,some (.vint k n)=>oy ti t u (.vint k n)
  |_,_=>none
 |.index t x i=>match ρ x,ρ i with
  |some u,some v=>bif pd u||pd v then zY ti t u v else none
  |_,_=>none
 |.call ⟨.builtin .len,⟨[x]⟩,⟨t::_⟩⟩=>match ρ x with
  |none=>none
  |some u=>match sLen ti t u with
   |none=>none
   |some r=>some (r,[])
 |.call ⟨.builtin .unsafeSliceData,⟨[x]⟩,_⟩=>match ρ x with
  |some (.lo b n)=>some (.lp b 0 1 0,[0<n])
  |_=>none
 |.call ⟨.builtin .min,⟨xs⟩,ts⟩=>match lP ρ xs with
  |none=>none
  |some vs=>bif vs.any pd then(match nt (vs.map clr)with
   |none=>none
   |some us=>match li (Builtin.min_ ts ty us.toArray)with
    |none=>none
    |some r=>some (tnt r,[]))else none
 |.call ⟨.builtin .max,⟨xs⟩,ts⟩=>match lP ρ xs with
  |none=>none
  |some vs=>bif vs.any pd then(match nt (vs.map clr)with
   |none=>none
   |some us=>match li (Builtin.max_ ts ty us.toArray)with
    |none=>none
    |some r=>some (tnt r,[]))else none
 |_=>none
def mH (ti:Tr TypeInfo)(lz:Nat→Nat→Nat→Nat→Bool)(h:Tr ai)(ρ:Operand→Option AV)(op:Op)(ty:Nat):Option (AV×List Prop):=
 match qL ti h ρ op ty with
 |some r=>some r
 |none=>match qZ ti lz h ρ op ty with
  |none=>none
  |some v=>some (v,[])
theorem au.clr {γ:Gm}{vs:List AV}{Vs:List Value}(h:au γ vs Vs):au γ (vs.map clr) Vs:=by
 induction vs generalizing Vs with
 |nil=>cases h;exact .nil
 |cons v vs ih=>cases h with|cons h t=>exact .cons h.clr (ih t)
theorem Tv {P:Program}{ti:Tr TypeInfo}(ht:dM P ti){γ:Gm}{h:Tr ai}{nx:Nat}{w:World}(hr:aQ γ h.get nx w){ρ:Operand→Option AV}{R:Operand→Value}(hρ:∀x v,ρ x=some v→ap γ v (R x)){o:Oper}{v:AV}{ms:List Prop}
 (hq:qL ti h ρ o.op o.type=some (v,ms))(hm:∀p∈ms,p):∃V,(execOp R o).run P w=.ok (.value V) w∧ap γ v V:=by
 obtain⟨dst,op,ty,pos,after,guard⟩:=o
 simp only at hq
 unfold qL at hq
 split at hq
 ·rename_i t a
  have key:∀x,ρ a=some x→s7 ti h t x=some (v,ms)→∃V,(execOp R ⟨dst,.load t a,ty,pos,after,guard⟩).run P w=.ok (.value V) w∧ap γ v V:=by
   intro x hx hs
   obtain⟨V,ad,h1,h2,h3⟩:=Rl ht hr (hρ _ _ hx) hs hm
   exact⟨V,by simp[execOp,Instr.loadAt,h1,Instr.sureAddr,h2],h3⟩
  split at hq
  ·rename_i hx;exact key _ hx hq
  ·rename_i hx;exact key _ hx hq
  ·cases hq
 ·rename_i x
  split at hq
  ·rename_i cs j hx
   cases hq
   have h1:=hρ _ _ hx
   generalize hR:R x=X at h1
   cases h1 with
   |rp h hf=>exact⟨_,by simp[execOp,hR],.rp h hf⟩
  ·rename_i b i z j hx
   cases hq
   have h1:=hρ _ _ hx
   generalize hR:R x=X at h1
   cases h1 with
   |lp _ _ _ hg=>exact⟨_,by simp[execOp,hR],.lp _ _ _ hg⟩
  ·cases hq
 ·rename_i op t x y p
  split at hq
  ·rename_i u v' hx hy
   obtain⟨_,hq⟩:=az hq
   obtain⟨V,h1,h2⟩:=Tt (P:=P) ht (w:=w) (hρ _ _ hx) (hρ _ _ hy) hq hm
   refine⟨V,?_,h2⟩
   show((do let r←(do eqGuard op t x y (R x) (R y);binOp op t (R x) (R y):Sem Value);pure (Next.value r)):Sem Next).run P w=_
   rw[Sem.run_bind,h1]
   rfl
  ·cases hq
 ·rename_i op t x
  split at hq
  ·rename_i u hx
   obtain⟨_,hq⟩:=az hq
   split at hq
   ·cases hq
   ·rename_i r hr'
    cases hq
    obtain⟨V,h1,h2⟩:=Hx (P:=P) w (hρ _ _ hx).clr hr'
    exact⟨V,by simp[execOp,h1],h2.tnt⟩
  ·cases hq
 ·rename_i s d x
  split at hq
  ·rename_i k0 n hx
   split at hq
   ·rename_i d0 k h1 h2
    cases hq
    have h3:=hρ _ _ hx
    cases hR:R x<;>rw[hR]at h3<;>cases h3
    exact⟨_,by simp[execOp,hR,convert,bC ht h1,bC ht h2,Conv.intToInt],.vint _ _⟩
   ·cases hq
  ·rename_i z hx
   split at hq
   ·rename_i d0 h1 h2
    cases hq
    have h3:=hρ _ _ hx
    cases hR:R x<;>rw[hR]at h3<;>cases h3
    exact⟨_,by simp[execOp,hR,convert,bC ht h1,bC ht h2],.vstr _⟩
   ·cases hq
  ·rename_i b o n c hx
   split at hq
   ·rename_i e h1 h2
    split at hq
    ·rename_i hk8
     split at hq
     ·cases hq
     ·rename_i k hk
      split at hq
      ·cases hq
      ·rename_i l hl
       obtain⟨hb,hq'⟩:=az hq
       cases hq'
       have hb:=aU hb
       have h3:=hρ _ _ hx
       generalize hRX:R x=X at h3
       cases h3 with
       |slc _ _ _ hg=>
        rename_i B x0
        obtain⟨Vs,p1,p2,p3⟩:=hr.load hk hg o n hb
        have hVs:=ux p1 hl
        have hll:l.length=n:=by rw[←p2,hVs];simp
        have hu8:P.underlying e=some (.int .u8):=by
         unfold qN at hk8
         split at hk8
         ·rename_i q hq8;cases hk8;exact ip ht hq8
         ·cases hk8
        have hrun:=run_convert_bytes_arg (P:=P) w s e (ip ht h1) hu8 B o n (c+x0) l hll (fun i hi=>by
         have:=p3 i (.int .u8 (l.getD i 0)) (by rw[hVs,lY];simp[List.getD,show i<l.length by omega])
         rwa[dg]at this) d (ip ht h2)
        exact⟨_,by simp[execOp,hRX,hrun],.vstr _⟩
    ·cases hq
   ·cases hq
  ·cases hq
 ·rename_i t x lo hi mx
  have key:∀u,ρ x=some u→(match ij ρ lo,ij ρ hi,ij ρ mx with
   |some l,some e,some m=>oO ti t u l e m
   |_,_,_=>none)=some (v,ms)→∃V,(execOp R ⟨dst,.slice t x lo hi mx,ty,pos,after,guard⟩).run P w=.ok (.value V) w∧ap γ v V:=by
   intro u hx hs
   split at hs
   ·rename_i l e m h1 h2 h3
    obtain⟨V,g1,g2⟩:=PC (P:=P) ht (w:=w) (hρ _ _ hx) (qo hρ h1) (qo hρ h2) (qo hρ h3) hs hm
    refine⟨V,?_,g2⟩
    have hd:∃d,bE ti t=some d∧∀n el,d≠.array n el:=by
     unfold oO at hs
     split at hs
     ·rename_i el hd;exact⟨_,hd,si⟩
     ·rename_i hd;exact⟨_,hd,si⟩
     ·cases hs
    obtain⟨d,hd,hna⟩:=hd
    have g0:(Instr.sliceAt t (R x) (Option.map R lo) (Option.map R hi) (Option.map R mx)).run P w=.ok V w:=by
     unfold Instr.sliceAt
     simp only[Sem.run_bind,bC ht hd,Result.andThen_ok]
     cases d<;>first|exact g1|exact absurd rfl (hna _ _)
    simp[execOp,g0]
   ·cases hs
  split at hq
  ·rename_i hx;exact key _ hx hq
  ·rename_i hx;exact key _ hx hq
  ·rename_i hx;exact key _ hx hq
  ·cases hq
 ·rename_i s x f
  have key:∀u,ρ x=some u→(match rO ti s u f with
   |none=>none
   |some r=>some (r,[]))=some (v,ms)→∃V,(execOp R ⟨dst,.fieldAddr s x f,ty,pos,after,guard⟩).run P w=.ok (.value V) w∧ap γ v V:=by
   intro u hx hs
   split at hs
   ·cases hs
   ·rename_i r hr'
    cases hs
    obtain⟨V,g1,g2⟩:=NW (P:=P) ht (w:=w) (hρ _ _ hx) hr'
    exact⟨V,by simp[execOp,g1],g2⟩
  split at hq
  ·rename_i hx;exact key _ hx hq
  ·rename_i hx;exact key _ hx hq
  ·cases hq
 ·rename_i t x i
  have key:∀u y,ρ x=some u→ρ i=some y→oy ti t u y=some (v,ms)→∃V,(execOp R ⟨dst,.indexAddr t x i,ty,pos,after,guard⟩).run P w=.ok (.value V) w∧ap γ v V:=by
   intro u y hx hi hs
   obtain⟨V,g1,g2⟩:=NR (P:=P) ht w (hρ _ _ hx) (hρ _ _ hi) hs hm
   exact⟨V,by simp[execOp,g1],g2⟩
  split at hq
  ·rename_i hx hi;exact key _ _ hx hi hq
  ·rename_i hx hi;exact key _ _ hx hi hq
  ·rename_i hx hi;exact key _ _ hx hi hq
  ·rename_i hx hi;exact key _ _ aS aS hq
  ·cases hq
 ·rename_i t x i
  split at hq
  ·rename_i u y hx hi
   obtain⟨_,hq⟩:=az hq
   obtain⟨V,g1,g2⟩:=PD (P:=P) ht (w:=w) (hρ _ _ hx) (hρ _ _ hi) hq hm
   exact⟨V,by simp[execOp,g1],g2⟩
  ·cases hq
 ·rename_i x t ts
  split at hq
  ·cases hq
  ·rename_i u hx
   split at hq
   ·cases hq
   ·rename_i r hr'
    cases hq
    obtain⟨V,g1,g2⟩:=Tu (P:=P) ht (w:=w) (ty:=ty) (ts:=⟨t::ts⟩) si (Xs:=#[R x]) si (hρ _ _ hx) hr'
    exact⟨V,by simp[execOp,resolve,invoke,builtin,g1],g2⟩
 ·rename_i x ts
  split at hq
  ·rename_i b n hx
   cases hq
   have hn:0<n:=ay hm
   have h3:=hρ _ _ hx
   generalize hRX:R x=X at h3
   cases h3 with
   |lo _ hg=>
    rename_i B x0
    have hrun:=Lib.run_unsafeSliceData_row (P:=P) w ts ty ⟨B,0,none⟩ n (n+x0) om
    refine⟨.pointer (some ⟨B,0,none⟩),by simp[execOp,resolve,invoke,builtin,hRX,hrun],?_⟩
    have:=ap.lp (γ:=γ) (b:=b) (B:=B) (x:=x0) 0 1 0 hg
    simpa using this
  ·cases hq
 ·rename_i xs ts
  split at hq
  ·cases hq
  ·rename_i vs hvs
   obtain⟨_,hq⟩:=az hq
   split at hq
   ·cases hq
   ·rename_i us hus
    split at hq
    ·cases hq
    ·rename_i r hr'
     cases hq
     have hV:=uE (qn hρ hvs).clr hus
     obtain⟨V,h1,h2⟩:=m7 γ hr'
     refine⟨V,?_,h2.tnt⟩
     have e2:Array.map R ⟨xs⟩=us.toArray:=by rw[←hV];simp
     simp[execOp,resolve,invoke,builtin,e2,h1]
 ·rename_i xs ts
  split at hq
  ·cases hq
  ·rename_i vs hvs
   obtain⟨_,hq⟩:=az hq
   split at hq
   ·cases hq
   ·rename_i us hus
    split at hq
    ·cases hq
    ·rename_i r hr'
     cases hq
     have hV:=uE (qn hρ hvs).clr hus
     obtain⟨V,h1,h2⟩:=m7 γ hr'
     refine⟨V,?_,h2.tnt⟩
     have e2:Array.map R ⟨xs⟩=us.toArray:=by rw[←hV];simp
     simp[execOp,resolve,invoke,builtin,e2,h1]
 ·cases hq
theorem Hh {P:Program}{ti:Tr TypeInfo}(ht:dM P ti){lz:Nat→Nat→Nat→Nat→Bool}(hlz:sJ P lz){γ:Gm}{h:Tr ai}{nx:Nat}{w:World}(hr:aQ γ h.get nx w){ρ:Operand→Option AV}{R:Operand→Value}(hρ:∀x v,ρ x=some v→ap γ v (R x)){o:Oper}{v:AV}{ms:List Prop}
 (hq:mH ti lz h ρ o.op o.type=some (v,ms))(hm:∀p∈ms,p):∃V,(execOp R o).run P w=.ok (.value V) w∧ap γ v V:=by
 unfold mH at hq
 split at hq
 ·rename_i r hr'
  cases hq
  exact Tv ht hr hρ hr' hm
 ·split at hq
  ·cases hq
  ·rename_i u hu
   cases hq
   exact Wd ht hlz hr hρ hu
theorem au.imp {γ:Gm}:∀{A B:List AV},A.length=B.length→(∀(p:Nat)a b,A[p]? =some a→B[p]? =some b→∀V,ap γ a V→ap γ b V)→∀{cs:List Value},au γ A cs→au γ B cs
 |[],[],_,_,cs,h=>h
 |[],_::_,hl,_,_,_=>by simp at hl
 |_::_,[],hl,_,_,_=>by simp at hl
 |a::A,b::B,hl,hp,cs,h=>by
  cases h with
  |cons hv ht=>exact .cons (hp 0 a b rfl rfl _ hv) (au.imp (by simpa using hl) (fun p x y hx hy=>hp (p+1) x y (by simpa using hx) (by simpa using hy)) ht)
theorem bj.view {γ γ':Gm}{f f':Hf}{nx:Nat}{w w':World}{b:Nat}{k k':ai}(h:bj γ f w γ' (dY f' b (some k)) nx w')(hk:∀cs,au γ' k.cells cs→au γ' k'.cells cs)(h1:k'.elem=k.elem)(h2:k'.sz=k.sz)(h3:k'.opn=k.opn)(h4:k.own=true)(h5:k'.own=true):
 bj γ f w γ' (dY f' b (some k')) nx w':=by
 have hold:∀c kc,dY f' b (some k') c=some kc→∃kc',dY f' b (some k) c=some kc'∧kc'.own=kc.own:=by
  intro c kc hc
  by_cases e:c=b
  ·subst e;rw[fb]at hc;cases hc;exact⟨k,fb _ _ _,by rw[h4,h5]⟩
  ·rw[dl _ _ e]at hc;exact⟨kc,by rw[dl _ _ e];exact hc,rfl⟩
 refine⟨h.le,⟨?_,?_,h.rel.fresh,h.rel.fzr,?_⟩,h.size,h.os,h.tape,h.output,h.frame,?_,?_,?_,h.fzn,h.drawn⟩
 ·intro c kc hc
  by_cases e:c=b
  ·subst e
   rw[fb]at hc
   cases hc
   obtain⟨B,x,cs,ex,g1,g2,g3,g4,g5⟩:=h.rel.blk c k (fb _ _ _)
   exact⟨B,x,cs,ex,g1,by rw[h1];exact g2,hk _ g3,by rw[h2];exact g4,by rw[h3];exact g5⟩
  ·rw[dl _ _ e]at hc
   exact h.rel.blk c kc (by rw[dl _ _ e];exact hc)
 ·intro c c' kc kc' B x x' q1 q2 q3 q4
  obtain⟨_,r1,_⟩:=hold _ _ q1
  obtain⟨_,r2,_⟩:=hold _ _ q2
  exact h.rel.inj _ _ _ _ _ _ _ r1 r2 q3 q4
 ·intro c kc B x hc ho hg
  obtain⟨kc',r1,r2⟩:=hold _ _ hc
  exact h.rel.fzo c kc' B x r1 (by rw[r2];exact ho) hg
 ·intro i hi ⟨c,kc,y,q1,q2,q3⟩
  obtain⟨kc',r1,r2⟩:=hold _ _ q1
  exact h.own i hi ⟨c,kc',y,r1,by rw[r2];exact q2,q3⟩
 ·intro c kc hc ho
  by_cases e:c=b
  ·subst e;rw[fb]at hc;cases hc;rw[h5]at ho;cases ho
  ·rw[dl _ _ e]at hc
   exact h.ro c kc (by rw[dl _ _ e];exact hc) ho
 ·intro c kc hc
  obtain⟨kc',r1,_⟩:=hold _ _ hc
  exact h.dom c kc' r1
def Con.setf (c:Con)(j:Nat)(v:AV):Option Con:=
 match j,tnt v with
 |0,.vint .i64 n=>some {c with exp:=n}
 |1,.vint .i64 n=>some {c with dim:=n}
 |2,.vint .i64 n=>some {c with sign:=n}
 |3,.vbool b=>some {c with odd:=b}
 |4,.vint .i64 n=>some {c with oddity:=n}
 |_,_=>none
theorem Con.setf_avs {c c':Con}{j:Nat}{v:AV}(h:c.setf j v=some c'):j<5∧c'.avs=c.avs.set j (tnt v):=by
 unfold Con.setf at h
 split at h<;>first|(cases h;done)|skip
 all_goals
  rename_i he
  cases h
  rw[he]
  exact⟨de,rfl⟩
def aa3 (L:List Con)(i:Nat)(v:Int):List Con:=L.set i {L.getD i Con.zero with exp:=v}
def aa4 (L:List Con)(i:Nat)(v:Int):List Con:=L.set i {L.getD i Con.zero with dim:=v}
def o9 (L:List Con)(i:Nat)(v:Int):List Con:=L.set i {L.getD i Con.zero with sign:=v}
def ka (L:List Con)(i:Nat)(v:Bool):List Con:=L.set i {L.getD i Con.zero with odd:=v}
def fx (L:List Con)(i:Nat)(v:Int):List Con:=L.set i {L.getD i Con.zero with oddity:=v}
def Con.setL (L:List Con)(i j:Nat)(v:AV):Option (List Con):=
 match j,tnt v with
 |0,.vint .i64 n=>some (aa3 L i n)
 |1,.vint .i64 n=>some (aa4 L i n)
 |2,.vint .i64 n=>some (o9 L i n)
 |3,.vbool b=>some (ka L i b)
 |4,.vint .i64 n=>some (fx L i n)
 |_,_=>none
theorem Con.setL_ok {L L':List Con}{i j:Nat}{v:AV}(h:Con.setL L i j v=some L'):∃c,(L.getD i Con.zero).setf j v=some c∧L'=L.set i c:=by
 unfold Con.setL at h
 split at h<;>first|(cases h;done)|skip
 all_goals
  rename_i he
  cases h
  refine⟨_,?_,rfl⟩
  unfold Con.setf
  rw[he]
  rfl
def Con.ofAvs:List AV→Option Con
 |[a,b,c,d,e]=>match tnt a,tnt b,tnt c,tnt d,tnt e with
  |.vint .i64 x,.vint .i64 n,.vint .i64 s,.vbool o,.vint .i64 t=>some ⟨x,n,s,o,t⟩
  |_,_,_,_,_=>none
 |_=>none
theorem Con.ofAvs_ok {l:List AV}{c:Con}(h:Con.ofAvs l=some c):l.map tnt=c.avs:=by
 unfold Con.ofAvs at h
 split at h
 ·split at h
  ·rename_i h1 h2 h3 h4 h5
   cases h
   simp only[jY,List.map_nil,h1,h2,h3,h4,h5]
   rfl
  ·cases h
 ·cases h
theorem EA:∀{L:List Con}{i j:Nat}{c:Con}{u:AV},i<L.length→j<5→c.avs=(L.getD i Con.zero).avs.set j u→(L.set i c).flatMap Con.avs=(L.flatMap Con.avs).set (i*5+j) u
 |[],_,_,_,_,h,_,_=>by simp at h
 |x::L,0,j,c,u,h,hj,hv=>by
  simp only[List.set_cons_zero,fo,l4,gN]
  rw[List.set_append_left _ _ (by simpa [Con.avs]using hj),hv]
  rfl
 |x::L,i+1,j,c,u,h,hj,hv=>by
  simp only[List.set_cons_succ,fo]
  rw[List.set_append_right _ _ (by simp[Con.avs];omega),EA (by simpa using h) hj (by simpa using hv)]
  have e:(i+1)*5+j-x.avs.length=i*5+j:=by simp[Con.avs];omega
  rw[e]
theorem EF:∀{L:List Con}{i:Nat}{c:Con},i<L.length→(L.set i c).flatMap Con.avs=(L.flatMap Con.avs).take (i*5)++c.avs++(L.flatMap Con.avs).drop (i*5+5)
 |[],_,_,h=>by simp at h
 |x::L,0,c,h=>by
  simp only[List.set_cons_zero,fo,l4,gN,List.take_zero,pI]
  have e:5=x.avs.length:=rfl
  congr 1
 |x::L,i+1,c,h=>by
  simp only[List.set_cons_succ,fo]
  rw[EF (by simpa using h)]
  have e:(i+1)*5=x.avs.length+i*5:=by simp[Con.avs];omega
  rw[e,List.take_length_add_append,show x.avs.length+i*5+5=x.avs.length+(i*5+5) by omega,List.drop_length_add_append]
  simp
def lD:List Bool→Nat→Nat→Bool→List AV
 |[],_,_,_=>[]
 |x::l,q,p,a=>.vbool (bif Nat.beq q p then a else x)::lD l (q+1) p a
theorem EG:∀{l:List Bool}{q p:Nat}{a:Bool},(lD l q p a).length=l.length
 |[],_,_,_=>rfl
 |x::l,q,p,a=>by simp only[lD,cR,EG]
theorem EJ:∀{l:List Bool}{q p:Nat}{a:Bool}{m:Nat}{u:AV},(lD l q p a)[m]? =some u→∃x,l[m]? =some x∧u=.vbool (bif Nat.beq (q+m) p then a else x)
 |[],_,_,_,_,_,h=>by simp[lD]at h
 |x::l,q,p,a,0,u,h=>by simp[lD]at h;exact⟨x,si,by rw[←h];rfl⟩
 |x::l,q,p,a,m+1,u,h=>by
  simp only[lD,pC]at h
  obtain⟨y,h1,h2⟩:=EJ h
  exact⟨y,by simpa using h1,by rw[h2,show q+1+m=q+(m+1) by omega]⟩
theorem CY:∀{cs:List AV}{l:List Bool},kE cs=some l→cs.length=l.length
 |[],l,h=>by cases h;rfl
 |v::cs,l,h=>by
  simp only[kE]at h
  split at h
  ·split at h
   ·cases h
   ·rename_i l' hl'
    cases h
    simp[CY hl']
  ·cases h
theorem CZ:∀{cs:List AV}{l:List Bool}{m:Nat}{u:AV}{x:Bool},kE cs=some l→cs[m]? =some u→l[m]? =some x→clr u=.bool x
 |[],l,m,u,x,h,h1,h2=>by simp at h1
 |v::cs,l,m,u,x,h,h1,h2=>by
  simp only[kE]at h
  split at h
  ·rename_i b hb
   split at h
   ·cases h
   ·rename_i l' hl'
    cases h
    cases m with
    |zero=>simp at h1 h2;subst h1 h2;exact hb
    |succ m=>exact CZ hl' (by simpa using h1) (by simpa using h2)
  ·cases h
def JO (h:Tr ai)(b:Nat):Bool:=match h.get b with
 |none=>false
 |some _=>true
def zR (ti:Tr TypeInfo)(h:Tr ai)(t:Nat)(x v:AV):Option (Tr ai×List Prop):=
 match x with
 |.lp b i z j=>match h.get b with
  |none=>none
  |some k=>bif k.own then(match cx ti t with
   |none=>none
   |some n=>match k.view with
    |.con L=>bif Nat.beq z 5 then
     (bif Nat.beq n 5&&Nat.beq j 0 then
       (match Con.ofAvs v.cells with
       |none=>none
       |some c=>match h.set b (some {k with view:=.con (L.set i c)})with
        |none=>none
        |some h'=>some (h',[i<L.length]))
     else bif Nat.beq n 1&&v.one then
      (match Con.setL L i j v with
      |none=>none
      |some L'=>match h.set b (some {k with view:=.con L'})with
       |none=>none
       |some h'=>some (h',[i<L.length]))
     else none)
     else none
    |.ints kk L=>bif Nat.beq z 1&&Nat.beq n 1&&Nat.beq j 0 then
     (match clr v with
     |.int k' a=>bif decide (k'=kk)then(match h.set b (some {k with view:=.ints kk (L.set i a)})with
      |none=>none
      |some h'=>some (h',[i<L.length]))else none
     |_=>none)
     else none
    |.rows kk L c q=>bif Nat.beq z 1&&Nat.beq n 1&&Nat.beq j 0 then
     (match v with
     |.lo c' q'=>match h.set b (some {k with view:=.rows kk L c' q'})with
      |none=>none
      |some h'=>some (h',[i=L.length])
     |_=>none)
     else none
    |.vals τ L=>bif Nat.beq z τ.sz&&Nat.beq n v.cells.length then
     (match wL h τ (List.getD (α:=τ.car) L i τ.zero) j v.cells with
     |none=>none
     |some (c,h1,ms)=>bif JO h1 b then(match h1.set b (some {k with view:=.vals τ (List.set (α:=τ.car) L i c)})with
      |none=>none
      |some h'=>some (h',(i<List.length (α:=τ.car) L)::ms))else none)
     else none
    |.plain cs=>bif Nat.beq z 1&&Nat.beq n 1 then
     (match kE cs with
     |none=>none
     |some l=>match clr v with
      |.bool a=>match h.set b (some {k with view:=.plain (lD l 0 (i+j) a)})with
       |none=>none
       |some h'=>some (h',[i+j<l.length])
      |_=>none)
     else none)else none
 |_=>none
theorem Po {P:Program}{ti:Tr TypeInfo}(ht:dM P ti){γ:Gm}{h h':Tr ai}{nx:Nat}{w:World}(hr:aQ γ h.get nx w){t:Nat}{x v:AV}{ms:List Prop}{X V:Value}(hx:ap γ x X)(hv:ap γ v V)(hq:zR ti h t x v=some (h',ms))(hm:∀p∈ms,p):
 ∃w' γ',(Instr.storeAt t X V).run P w=.ok () w'∧bj γ h.get w γ' h'.get nx w'∧γ'.nm=γ.nm:=by
 unfold zR at hq
 split at hq
 ·rename_i b i z j
  cases hx with
  |lp _ _ _ hg=>
   rename_i B x
   split at hq
   ·cases hq
   ·rename_i k hk
    have hown:=(az hq).1
    replace hq:=(az hq).2
    split at hq
    ·cases hq
    ·rename_i n hn
     -- what a store into the block gives
     have key:∀(vs:List AV)(Vs:List Value)(k':ai),au γ vs Vs→vs.all AV.one=true→i*z+j+vs.length≤k.cells.length→V.cells.toList=Vs→V.cells.size=n→(∀cs,au γ (k.cells.take (i*z+j)++vs++k.cells.drop (i*z+j+vs.length)) cs→au γ k'.cells cs)→
      k'.elem=k.elem→k'.sz=k.sz→k'.opn=k.opn→k'.own=true→h.set b (some k')=some h'→∃w' γ',(Instr.storeAt t (.pointer (some ⟨B,i*z+j,none⟩)) V).run P w=.ok () w'∧bj γ h.get w γ' h'.get nx w'∧γ'.nm=γ.nm:=by
      intro vs Vs k' hvs hone hle hVs hsz himp e1 e2 e3 e4 hset
      obtain⟨w',g1,g2⟩:=hr.store hk hown hg (i*z+j) hvs hone hle P
      refine⟨w',γ,?_,?_,rfl⟩
      ·simp[Instr.storeAt,Instr.sureAddr,storeVar,df ht hn,hsz,hVs,g1]
      ·rw[eo hset]
       exact g2.view himp e1 e2 e3 hown e4
     split at hq
     ·rename_i L hview
      have hcells:k.cells=L.flatMap Con.avs:=by unfold ai.cells;rw[hview];rfl
      have hz:=(az hq).1
      replace hq:=(az hq).2
      have hz:=aN hz
      subst hz
      cases hb:(Nat.beq n 5&&Nat.beq j 0)with
      |true=>
       rw[hb]at hq
       simp only[aM]at hq
       obtain⟨hb1,hb2⟩:=bq hb
       have hb1:=aN hb1
       have hb2:=aN hb2
       subst hb1 hb2
       split at hq
       ·cases hq
       ·rename_i c hc
        split at hq
        ·cases hq
        ·rename_i h2 hset
         cases hq
         have hi:=ay hm
         have hco:=Con.ofAvs_ok hc
         have hlen:v.cells.length=5:=by have:=congrArg List.length hco;simpa [Con.avs]using this
         have hvc:=hv.cells
         have hvl:=hvc.length
         refine key v.cells V.cells.toList {k with view:=.con (L.set i c)} hvc ?_ (by rw[hcells,lc,hlen];omega) rfl (by simpa [hlen]using hvl) ?_ rfl rfl rfl hown hset
         ·unfold Con.ofAvs at hc
          split at hc
          ·rename_i a1 a2 a3 a4 a5 hl5
           rw[hl5]
           split at hc
           ·rename_i t1 t2 t3 t4 t5
            have one_of:∀{a u:AV},tnt a=u→u.one=true→a.one=true:=by
             intro a u e1 e2
             cases a<;>first|rfl|(simp only[tnt]at e1;rw[←e1]at e2;exact e2)
            simp only[kZ,List.all_nil,Bool.and_true,aX]
            exact⟨one_of t1 rfl,one_of t2 rfl,one_of t3 rfl,one_of t4 rfl,one_of t5 rfl⟩
           ·cases hc
          ·cases hc
         ·intro cs hcs
          show au γ ((L.set i c).flatMap Con.avs) cs
          rw[EF hi,←hco]
          rw[hcells,hlen]at hcs
          refine au.imp si (fun p a b ha hb V hV=>?_) hcs
          simp only[gj]at ha
          by_cases hp:p<((L.flatMap Con.avs).take (i*5)++v.cells).length
          ·rw[gB hp]at ha
           rw[gB (by simpa using hp)]at hb
           by_cases hp2:p<((L.flatMap Con.avs).take (i*5)).length
           ·rw[gB hp2]at ha hb
            rw[ha]at hb;cases hb;exact hV
           ·rw[mS om]at ha hb
            rw[lY,ha]at hb
            simp only[kz,bw]at hb
            subst hb
            exact hV.tnt
          ·rw[mS om]at ha
           rw[mS (by simpa using hp)]at hb
           have e:((L.flatMap Con.avs).take (i*5)++List.map tnt v.cells).length=((L.flatMap Con.avs).take (i*5)++v.cells).length:=by simp
           rw[e,ha]at hb
           cases hb;exact hV
      |false=>
       rw[hb]at hq
       simp only[bg]at hq
       cases hb2:(Nat.beq n 1&&v.one)with
       |false=>rw[hb2]at hq;cases hq
       |true=>
        rw[hb2]at hq
        simp only[aM]at hq
        obtain⟨hb3,hb4⟩:=bq hb2
        have hb3:=aN hb3
        subst hb3
        split at hq
        ·cases hq
        ·rename_i L' hL'
         obtain⟨c,hc,hLc⟩:=Con.setL_ok hL'
         subst hLc
         split at hq
         ·cases hq
         ·rename_i h2 hset
          cases hq
          have hi:=ay hm
          obtain⟨hj,hca⟩:=Con.setf_avs hc
          have hvc:v.cells=[v]:=by cases v<;>first|rfl|(simp[AV.one]at hb4)
          have hVc:=hv.cells
          rw[hvc]at hVc
          have hVl:=hVc.length
          refine key [v] V.cells.toList {k with view:=.con (L.set i c)} hVc (by simp[hb4]) (by rw[hcells,lc];simp;omega) rfl (by simpa using hVl) ?_ rfl rfl rfl hown hset
          intro cs hcs
          show au γ ((L.set i c).flatMap Con.avs) cs
          rw[EA hi hj hca]
          rw[hcells]at hcs
          have e:(L.flatMap Con.avs).take (i*5+j)++[v]++(L.flatMap Con.avs).drop (i*5+j+[v].length)=(L.flatMap Con.avs).set (i*5+j) v:=by
           rw[CP,if_pos (by rw[lc];omega)]
           simp
          rw[e]at hcs
          refine au.imp si (fun p a b ha hb V hV=>?_) hcs
          rw[List.getElem?_set]at ha hb
          by_cases hp:i*5+j=p
          ·rw[if_pos hp]at ha hb
           split at ha
           ·rw[if_pos aS]at hb
            cases ha;cases hb;exact hV.tnt
           ·cases ha
          ·rw[if_neg hp]at ha hb
           rw[ha]at hb;cases hb;exact hV
     ·rename_i kk L hview
      have hcells:k.cells=L.map (AV.vint kk):=by unfold ai.cells;rw[hview];rfl
      have hb:=(az hq).1
      replace hq:=(az hq).2
      obtain⟨hb,hb3⟩:=bq hb
      obtain⟨hb1,hb2⟩:=bq hb
      have hb1:=aN hb1
      have hb2:=aN hb2
      have hb3:=aN hb3
      subst hb1 hb2 hb3
      have hvt:=hv.clr
      split at hq
      ·rename_i k' a hca
       rw[hca]at hvt
       obtain⟨hk',hq⟩:=az hq
       have hk':=dE hk'
       split at hq
       ·cases hq
       ·rename_i h2 hset
        cases hq
        have hi:=ay hm
        cases hvt
        subst hk'
        refine key [.vint k' a] [.int k' a] {k with view:=.ints k' (L.set i a)} (.cons (.vint _ _) .nil) rfl (by rw[hcells];simp;omega) rfl rfl ?_ rfl rfl rfl hown hset
        intro cs hcs
        show au γ ((L.set i a).map (AV.vint k')) cs
        rw[hcells]at hcs
        have e:(L.map (AV.vint k')).take (i*1+0)++[.vint k' a]++(L.map (AV.vint k')).drop (i*1+0+[AV.vint k' a].length)=(L.set i a).map (AV.vint k'):=by
         rw[List.map_set,CP,if_pos (by simpa using hi)]
         simp
        rw[e]at hcs
        exact hcs
      ·cases hq
     ·rename_i kk L c q hview
      have hcells:k.cells=L.map (fZ kk)++[AV.lo c q]:=by unfold ai.cells;rw[hview];rfl
      have hb:=(az hq).1
      replace hq:=(az hq).2
      obtain⟨hb,hb3⟩:=bq hb
      obtain⟨hb1,hb2⟩:=bq hb
      have hb1:=aN hb1
      have hb2:=aN hb2
      have hb3:=aN hb3
      subst hb1 hb2 hb3
      split at hq
      ·rename_i c' q'
       split at hq
       ·cases hq
       ·rename_i h2 hset
        cases hq
        have hi:=ay hm
        have hVc:V.cells.toList=[V]:=by cases hv;rfl
        have hVs:V.cells.size=1:=by cases hv;rfl
        refine key [.lo c' q'] [V] {k with view:=.rows kk L c' q'} (.cons hv .nil) rfl (by rw[hcells];simp;omega) hVc hVs ?_ rfl rfl rfl hown hset
        intro cs hcs
        show au γ (L.map (fZ kk)++[AV.lo c' q']) cs
        rw[hcells]at hcs
        have e:(L.map (fZ kk)++[AV.lo c q]).take (i*1+0)++[AV.lo c' q']++(L.map (fZ kk)++[AV.lo c q]).drop (i*1+0+[AV.lo c' q'].length)=L.map (fZ kk)++[AV.lo c' q']:=by
         subst hi
         simp
        rw[e]at hcs
        exact hcs
      ·cases hq
     ·rename_i τ L hview
      have hcells:k.cells=bS τ L:=by unfold ai.cells;rw[hview];rfl
      obtain⟨hb,hq'⟩:=az hq
      clear hq
      obtain⟨hb1,hb2⟩:=bq hb
      have hb1:=aN hb1
      have hb2:=aN hb2
      subst hb1
      split at hq'
      ·cases hq'
      ·rename_i c h1 ms1 hset1
       obtain⟨hh,hq⟩:=az hq'
       clear hq'
       split at hq
       ·cases hq
       ·rename_i h2 hset
        cases hq
        have hi:i<L.length:=hm _ cZ
        obtain⟨γ',rs,hF,hS⟩:=Gl hr hset1 (fun p hp=>hm p (fT _ hp))
        have hk1:h1.get b=some k:=by
         unfold JO at hh
         split at hh
         ·cases hh
         ·rename_i k1 hk1
          have:=hF.sub b k1 hk1
          rw[hk]at this
          rw[hk1,this]
        have hg1:γ' b=some (B,x):=by show γ'.nm b=_;rw[hF.nm];exact hg
        have hsz:(i+1)*τ.sz≤L.length*τ.sz:=il _ hi
        rw[gk]at hsz
        have hfit:=hS.fit
        have hvl:=hS.len
        have hle:i*τ.sz+j+v.cells.length≤k.cells.length:=by rw[hcells,jD];omega
        obtain⟨w',g1,g2⟩:=hF.stp.rel.store hk1 hown hg1 (i*τ.sz+j) (hv.mono hF.stp.le).cells hS.one hle P
        have hVl:V.cells.size=v.cells.length:=by simpa using hv.cells.length
        refine⟨w',γ',?_,?_,hF.nm⟩
        ·have hne:V.cells.size=n:=by omega
         simp[Instr.storeAt,Instr.sureAddr,storeVar,df ht hn,hne,g1]
        ·have hfin:bj γ' h1.get w γ' h'.get nx w':=by
          rw[eo hset]
          refine g2.view (fun cs hcs=>?_) rfl rfl rfl hown hown
          show au γ' (bS τ (L.set i c)) cs
          rw[Fl (j:=j) (rs:=rs) hi om (by rw[hvl];exact hS.eq),hvl]
          have hcs:au γ' (k.cells.take (i*τ.sz+j)++v.cells++k.cells.drop (i*τ.sz+j+v.cells.length)) cs:=hcs
          rw[hcells]at hcs
          obtain⟨V1,V2,rfl,r1,r2⟩:=au.parts hcs
          obtain⟨V3,V4,rfl,r3,r4⟩:=au.parts r1
          exact(r3.append (bM.avl (hS.rel γ' (Gm.le_refl _) _ r4))).append r2
         exact hF.stp.trans hfin
     ·rename_i cs hview
      have hcells:k.cells=cs:=by unfold ai.cells;rw[hview];rfl
      have hb:=(az hq).1
      replace hq:=(az hq).2
      obtain⟨hb1,hb2⟩:=bq hb
      have hb1:=aN hb1
      have hb2:=aN hb2
      subst hb1 hb2
      have hvt:=hv.clr
      split at hq
      ·cases hq
      ·rename_i l hl
       split at hq
       ·rename_i a hca
        rw[hca]at hvt
        split at hq
        ·cases hq
        ·rename_i h2 hset
         cases hq
         have hi:=ay hm
         have hlen:=CY hl
         cases hvt
         refine key [.vbool a] [.bool a] {k with view:=.plain (lD l 0 (i+j) a)} (.cons (.vbool _) .nil) rfl (by rw[hcells];simp;omega) rfl rfl ?_ rfl rfl rfl hown hset
         intro Cs hCs
         show au γ (lD l 0 (i+j) a) Cs
         rw[hcells]at hCs
         have e:cs.take (i*1+j)++[AV.vbool a]++cs.drop (i*1+j+[AV.vbool a].length)=cs.set (i+j) (.vbool a):=by
          rw[CP,if_pos om]
          simp
         rw[e]at hCs
         refine au.imp (by simp[EG,hlen]) (fun p u u' ha hb V hV=>?_) hCs
         obtain⟨x,hx1,hx2⟩:=EJ hb
         rw[List.getElem?_set]at ha
         by_cases hp:i+j=p
         ·rw[if_pos hp]at ha
          split at ha
          ·cases ha
           rw[hx2,show Nat.beq (0+p) (i+j)=true by rw[←hp,gN];exact mY _]
           exact hV
          ·cases ha
         ·rw[if_neg hp]at ha
          have h3:=CZ hl ha hx1
          have h4:=hV.clr
          rw[h3]at h4
          cases h4
          have h5:Nat.beq (0+p) (i+j)=false:=by
           cases h6:Nat.beq (0+p) (i+j)with
           |false=>rfl
           |true=>exact absurd (co h6) om
          rw[hx2,h5]
          exact .vbool _
       ·cases hq
 ·cases hq
def aj (b d:Bool):Prop:=b=d
def Hs.ask (H:Hs)(b:Bool):Bool×Hs:=match H.tp with
 |[]=>(true,{H with ms:=aj b true::H.ms})
 |d::tp=>(d,{H with tp:=tp,ms:=aj b d::H.ms})
def Hs.must (H:Hs)(ms:List Prop):Hs:={H with ms:=ms++H.ms}
theorem Au (H:Hs)(b:Bool):(H.ask b).2.m=H.m:=by unfold Hs.ask;split<;>rfl
theorem vh (H:Hs)(b:Bool):(H.ask b).2.nx=H.nx:=by unfold Hs.ask;split<;>rfl
theorem lg (H:Hs)(b:Bool):(H.ask b).2.ms=aj b (H.ask b).1::H.ms:=by unfold Hs.ask;split<;>rfl
def qj:Nat→List AV→Option (List Con)
 |_,[]=>some []
 |0,_=>none
 |f+1,l=>match Con.ofAvs (l.take 5)with
  |none=>none
  |some c=>match qj f (l.drop 5)with
   |none=>none
   |some L=>some (c::L)
def sE (s:ByteArray):List Int:=s.data.toList.map fun b=>(b.toNat:Int)
theorem OE (s:ByteArray):(sE s).length=s.size:=by unfold sE;rw[iT,tZ];rfl
noncomputable def Bb (ti:Tr TypeInfo)(conT:Nat)(h:Tr ai)(e z t:Nat)(x:AV):Option (Nat×bN×List Prop):=
 match x with
 |.ro n sz row=>match bE ti t with
  |some (.slice _)=>bif Nat.beq sz z then
   (bif Nat.beq e conT&&Nat.beq z 5 then some (n,.con (ag n row),[∀i,i<n→row i=(Con.ofR (row i)).rvs])
   else match qN ti e with
    |none=>none
    |some k=>bif Nat.beq z 1 then some (n,.ints k (b9 n row),[∀i,i<n→row i=[.int k (ge (row i))]])else none)
   else none
  |_=>none
 |.vstr s=>match bE ti t with
  |some .string=>bif Nat.beq z 1 then some (s.size,.ints .u8 (sE s),[])else none
  |_=>none
 |.lo b n=>match bE ti t with
  |some (.slice _)=>match h.get b with
   |none=>none
   |some k=>match k.view with
    |.con L=>bif Nat.beq e conT&&Nat.beq z 5 then some (n,.con L,[n=L.length])else none
    |.ints kk L=>bif Nat.beq z 1 then some (n,.ints kk L,[n=L.length])else none
    |_=>none
  |_=>none
 |_=>match nB ti h e z t x with
  |none=>none
  |some (n,vs)=>
   bif Nat.beq e conT&&Nat.beq z 5 then
    (match qj (n+1) vs with
    |none=>none
    |some L=>some (n,.con L,[]))
   else match qN ti e with
    |none=>none
    |some k=>bif Nat.beq z 1 then(match np k vs with
     |none=>none
     |some L=>some (n,.ints k L,[]))else none
def bN.app:bN→bN→Option bN
 |.con L,.con M=>some (.con (L++M))
 |.ints k L,.ints k' M=>bif decide (k=k')then some (.ints k (L++M))else none
 |_,_=>none
def bN.num:bN→Nat
 |.con L=>L.length
 |.ints _ L=>L.length
 |.rows _ L _ _=>L.length+1
 |.vals _ L=>L.length
 |.plain _=>0
def o8:AV→Bool
 |.ro _ _ _=>true
 |_=>false
noncomputable def tn (ti:Tr TypeInfo)(conT:Nat)(t0 t1:Nat)(s x:AV)(H:Hs):Option (AV×Hs):=
 match bE ti t0 with
 |some (.slice e)=>match cx ti e,lh ti e,iX ti e with
  |some z,some by_,some zs=>bif !(Nat.beq zs.length z&&Nat.ble by_ 1000)then none else
   match Bb ti conT H.m e z t1 x with
   |none=>none
   |some (n,V,ms)=>
    let fresh (H:Hs):Option (AV×Hs):=
     match H.m.set H.nx (some ⟨V,e,z,true,true⟩)with
     |none=>none
     |some m=>some (.lo H.nx n,{H with m:=m,nx:=H.nx+1,ms:=(0<n∧n≤1000000)::(ms++H.ms)})
    match s with
    |.lo b c=>match H.m.get b with
     |none=>none
     |some k=>match k.view.app V with
      |none=>none
      |some V'=>bif k.opn&&k.own&&Nat.beq k.sz z&&Nat.beq k.elem e then
       (match H.m.set b none with
       |none=>none
       |some m1=>match m1.set H.nx (some ⟨V',e,z,true,true⟩)with
        |none=>none
        |some m=>some (.lo H.nx (c+n),{H with m:=m,nx:=H.nx+1,ms:=(k.view.num=c∧c+n≤1000000)::(ms++H.ms)}))else none
    |.nils=>bif o8 x then
     (match H.ask (Nat.beq n 0)with
     |(true,H1)=>some (.nils,{H1 with nx:=H1.nx+1,ms:=ms++H1.ms})
     |(false,H1)=>fresh H1)
     else fresh H
    |.z0=>bif o8 x then
     (match H.ask (Nat.beq n 0)with
     |(true,H1)=>some (.z0,{H1 with nx:=H1.nx+1,ms:=ms++H1.ms})
     |(false,H1)=>fresh H1)
     else fresh H
    |_=>none
  |_,_,_=>none
 |_=>none
theorem zn {z:Nat}{cs:Nat→List Value}:∀(n:Nat),(∀i,i<n→(cs i).length=z)→∀(p:Nat)(v:Value),((List.range n).flatMap cs)[p]? =some v→∃i j,i<n∧p=i*z+j∧(cs i)[j]? =some v
 |0,_,p,v,h=>by simp at h
 |n+1,hl,p,v,h=>by
  rw[n9,iS]at h
  have hlen:((List.range n).flatMap cs).length=n*z:=by
   clear h
   have hl':∀i,i<n→(cs i).length=z:=fun i hi=>hl i om
   clear hl
   induction n with
   |zero=>simp
   |succ n ih=>
    rw[n9,iS,bU,ih (fun i hi=>hl' i om)]
    simp only[fo,List.flatMap_nil,gi]
    rw[hl' n om,gk];omega
  by_cases hp:p<n*z
  ·rw[gB om]at h
   obtain⟨i,j,h1,h2,h3⟩:=zn n (fun i hi=>hl i om) p v h
   exact⟨i,j,om,h2,h3⟩
  ·rw[mS om,hlen]at h
   simp only[fo,List.flatMap_nil,gi]at h
   exact⟨n,p-n*z,om,om,h⟩
theorem uB {z:Nat}{cs:Nat→List Value}(n:Nat)(hl:∀i,i<n→(cs i).length=z):((List.range n).flatMap cs).length=n*z:=by
 induction n with
 |zero=>simp
 |succ n ih=>
  rw[n9,iS,bU,ih (fun i hi=>hl i om)]
  simp only[fo,List.flatMap_nil,gi]
  rw[hl n om,gk];omega
theorem yF {γ:Gm}{g:Nat→List AV}{cs:Nat→List Value}:∀(n:Nat),(∀i,i<n→au γ (g i) (cs i))→au γ ((List.range n).flatMap g) ((List.range n).flatMap cs)
 |0,_=>by simp;exact .nil
 |n+1,h=>by
  rw[n9,iS,iS]
  refine au.append (yF n (fun i hi=>h i om)) ?_
  simpa using h n om
theorem DF:∀{f:Nat}{l:List AV}{L:List Con},qj f l=some L→l.map tnt=L.flatMap Con.avs∧l.length=L.length*5
 |f,[],L,h=>by cases f<;>(simp[qj]at h;subst h;exact⟨rfl,rfl⟩)
 |0,_::_,L,h=>by simp[qj]at h
 |f+1,a::l,L,h=>by
  simp only[qj]at h
  split at h
  ·cases h
  ·rename_i c hc
   split at h
   ·cases h
   ·rename_i L' hL
    cases h
    obtain⟨h1,h2⟩:=DF hL
    have h3:=Con.ofAvs_ok hc
    have h4:(List.take 5 (a::l)).length=5:=by have:=congrArg List.length h3;simpa [Con.avs]using this
    have e:a::l=(a::l).take 5++(a::l).drop 5:=(kV 5 (a::l)).symm
    refine⟨?_,?_⟩
    ·rw[e,rF,h3,h1,fo]
    ·rw[e,bU,h4,h2,cR];omega
theorem au.tnt {γ:Gm}{vs:List AV}{Vs:List Value}(h:au γ vs Vs):au γ (vs.map tnt) Vs:=by
 induction vs generalizing Vs with
 |nil=>cases h;exact .nil
 |cons v vs ih=>cases h with|cons h t=>exact .cons h.tnt (ih t)
theorem Ev (τ:aa)(c:τ.car):(RV.avl (τ.rvs c)).all AV.one=true:=by
 cases τ<;>rfl
theorem bN.ones (V:bN)(h:V.num≠0∨∀cs,V≠.plain cs):(∀cs,V≠.plain cs)→V.cells.all AV.one=true:=by
 intro hp
 cases V with
 |plain cs=>exact absurd rfl (hp cs)
 |con L=>
  simp only[bN.cells,List.all_flatMap,bX]
  intro c _
  simp[Con.avs,AV.one]
 |ints k L=>simp[bN.cells,AV.one]
 |rows k L b n=>simp[bN.cells,AV.one,fZ]
 |vals τ L=>
  simp only[bN.cells,List.all_flatMap,bX]
  intro c _
  exact bX.1 (Ev τ c)
structure oY (P:Program)(γ:Gm)(w:World)(e z:Nat)(ts:Array TypeId)(X:Value)(n:Nat)(vs:List AV):Prop where
 ex:∃zeros news,(fV ts).run P w=.ok zeros w∧(fW e zeros X).run P w=.ok n w∧(∀w',w'.heap=w.heap→(gv z e zeros n X).run P w'=.ok news.toArray w')∧au γ vs news∧news.length=n*z
theorem SB (c:Con):RV.avl c.rvs=c.avs:=rfl
section
variable {P:Program}{ti:Tr TypeInfo}(ht:dM P ti){conT:Nat}
include ht in
theorem zo {γ:Gm}{h:Tr ai}{nx:Nat}{w:World}(hr:aQ γ h.get nx w){e z t:Nat}(hz:cx ti e=some z){x:AV}{X:Value}(hx:ap γ x X){n:Nat}{V:bN}{ms:List Prop}(hq:Bb ti conT h e z t x=some (n,V,ms))(hm:∀p∈ms,p)
 {ts:Array TypeId}(ht1:ts[1]? =some t):oY P γ w e z ts X n V.cells∧V.num=n∧((∃L,V=.con L∧z=5)∨(∃k L,V=.ints k L∧z=1)):=by
 unfold Bb at hq
 split at hq
 ·rename_i n0 sz row
  split at hq
  ·rename_i e' hd
   have hsz:=(az hq).1
   replace hq:=(az hq).2
   have hsz:=aN hsz
   subst hsz
   have hZ:(fV ts).run P w=.ok false w:=by simp[fV,ht1,bC ht hd]
   have key:∀(g:Nat→List AV),(∀i,i<n0→RV.avl (row i)=g i)→oY P γ w e sz ts X n0 ((List.range n0).flatMap g):=by
    intro g hg
    cases hx with
    |ro hR=>
     cases hR with
     |sl0 _ _ a c hn=>
      subst hn
      refine⟨false,[],hZ,by simp[fW,Builtin.lenOf],fun w' _=>?_,by simp;exact .nil,si⟩
      cases a<;>simp[gv,Builtin.firstCells,loadCells,loadCellsFrom]
     |sl cs hc hl hf hrow=>
      rename_i B o c
      refine⟨false,(List.range n0).flatMap cs,hZ,by simp[fW,Builtin.lenOf],fun w' hw'=>?_,yF n0 (fun i hi=>by rw[←hg i hi];exact bM.avl (hrow i hi)),uB n0 hl⟩
      simp only[gv,kY,fH]
      refine run_firstCells_some (P:=P) w' sz n0 _ _ _ _ (uB n0 hl) (fun j v hv=>?_)
      obtain⟨i,j',h1,h2,h3⟩:=zn n0 hl j v hv
      have:=(hf i j' v h1 h3).cell hr
      rw[dg,h2,←Nat.add_assoc]
      simpa [World.cell?,hw']using this
   cases hb:(Nat.beq e conT&&Nat.beq sz 5)with
   |true=>
    rw[hb]at hq
    simp only[aM,bw,dQ]at hq
    obtain⟨rfl,rfl,rfl⟩:=hq
    have hrow:=ay hm
    refine⟨?_,by simp[bN.num,ag],.inl ⟨_,rfl,aN (bq hb).2⟩⟩
    have:=key (fun i=>(Con.ofR (row i)).avs) (fun i hi=>by rw[←SB,←hrow i hi])
    simpa [bN.cells,ag,List.flatMap_map]using this
   |false=>
    rw[hb]at hq
    simp only[bg]at hq
    split at hq
    ·cases hq
    ·rename_i k hk
     obtain⟨hz1,hq'⟩:=az hq
     simp only[bw,dQ]at hq'
     obtain⟨rfl,rfl,rfl⟩:=hq'
     have hrow:=ay hm
     refine⟨?_,by simp[bN.num,b9],.inr ⟨_,_,rfl,aN hz1⟩⟩
     have:=key (fun i=>[.vint k (ge (row i))]) (fun i hi=>by rw[hrow i hi];rfl)
     have e2:(List.range n0).flatMap (fun i=>[AV.vint k (ge (row i))])=(bN.ints k (b9 n0 row)).cells:=by
      simp[bN.cells,b9,List.flatMap_singleton']
      induction List.range n0 with
      |nil=>rfl
      |cons a l ih=>simp[fo,ih]
     rwa[e2]at this
  ·cases hq
 ·rename_i s
  split at hq
  ·rename_i hd
   obtain⟨hz1,hq'⟩:=az hq
   simp only[bw,dQ]at hq'
   obtain⟨rfl,rfl,rfl⟩:=hq'
   have hsv:nB ti h e z t (.str s)=some (s.size,s.data.toList.map fun b=>AV.int .u8 b.toNat):=by unfold nB;rw[hd];simp only;rw[hz1];rfl
   obtain⟨zeros,news,c1,c2,c3,c4,c5⟩:=sm ht hr hz hx.clr hsv ht1
   refine⟨⟨zeros,news,c1,c2,c3,?_,c5⟩,OE s,.inr ⟨_,_,rfl,aN hz1⟩⟩
   have:=c4.tnt
   show au γ ((sE s).map (AV.vint .u8)) news
   unfold sE
   rw[List.map_map]at this⊢
   exact this
  ·cases hq
 ·rename_i b n0
  split at hq
  ·rename_i e' hd
   have hZ:(fV ts).run P w=.ok false w:=by simp[fV,ht1,bC ht hd]
   split at hq
   ·cases hq
   ·rename_i k hk
    have key:k.cells.length=n0*z→oY P γ w e z ts X n0 k.cells:=by
     intro hlen
     cases hx with
     |lo _ hg=>
      rename_i B x
      obtain⟨Vs,p1,p2,p3⟩:=hr.load hk hg 0 (n0*z) om
      rw[mW,iR om]at p1
      refine⟨false,Vs,hZ,by simp[fW,Builtin.lenOf],fun w' hw'=>?_,p1,p2⟩
      simp only[gv,kY,fH]
      refine run_firstCells_some (P:=P) w' z n0 _ _ _ _ p2 (fun j v hv=>?_)
      have:=p3 j v hv
      rw[dg]at this⊢
      simpa [World.cell?,hw']using this
    split at hq
    ·rename_i L hL
     obtain⟨hb,hq'⟩:=az hq
     clear hq
     cases hq'
     have hn:=ay hm
     have hz5:=aN (bq hb).2
     have hc:k.cells=L.flatMap Con.avs:=by unfold ai.cells;rw[hL];rfl
     refine⟨?_,hn.symm,.inl ⟨_,rfl,hz5⟩⟩
     have:=key (by rw[hc,lc,hz5,hn])
     rwa[hc]at this
    ·rename_i kk L hL
     obtain⟨hb,hq'⟩:=az hq
     clear hq
     cases hq'
     have hn:=ay hm
     have hz1:=aN hb
     have hc:k.cells=L.map (AV.vint kk):=by unfold ai.cells;rw[hL];rfl
     refine⟨?_,hn.symm,.inr ⟨_,_,rfl,hz1⟩⟩
     have:=key (by rw[hc,iT,hz1,hn];omega)
     rwa[hc]at this
    ·cases hq
  ·cases hq
 ·split at hq
  ·cases hq
  ·rename_i n1 vs hsrc
   obtain⟨zeros,news,c1,c2,c3,c4,c5⟩:=sm ht hr hz hx hsrc ht1
   have hvl:=c4.length
   cases hb:(Nat.beq e conT&&Nat.beq z 5)with
   |true=>
    rw[hb]at hq
    simp only[aM]at hq
    obtain⟨hb1,hb2⟩:=bq hb
    have hb2:=aN hb2
    subst hb2
    split at hq
    ·cases hq
    ·rename_i L hL
     simp only[bw,dQ]at hq
     obtain⟨rfl,rfl,rfl⟩:=hq
     obtain⟨h1,h2⟩:=DF hL
     refine⟨⟨zeros,news,c1,c2,c3,?_,c5⟩,?_,.inl ⟨_,rfl,rfl⟩⟩
     ·show au γ (L.flatMap Con.avs) news
      rw[←h1];exact c4.tnt
     ·show L.length=n1
      omega
   |false=>
    rw[hb]at hq
    simp only[bg]at hq
    split at hq
    ·cases hq
    ·rename_i k hk
     obtain⟨hz1,hq'⟩:=az hq
     clear hq
     have hz1:=aN hz1
     subst hz1
     split at hq'
     ·cases hq'
     ·rename_i L hL
      simp only[bw,dQ]at hq'
      obtain⟨rfl,rfl,rfl⟩:=hq'
      have h1:=ux c4 hL
      refine⟨⟨zeros,news,c1,c2,c3,?_,c5⟩,?_,.inr ⟨_,_,rfl,rfl⟩⟩
      ·show au γ (L.map (AV.vint k)) news
       rw[h1]
       clear hL h1
       induction L with
       |nil=>exact .nil
       |cons a L ih=>exact .cons (.vint _ _) ih
      ·show L.length=n1
       have:news.length=L.length:=by rw[h1];simp
       omega
theorem yG {γ:Gm}{h h1 h':Tr ai}{nx:Nat}{w:World}(hr:aQ γ h.get nx w){i:Nat}(hi:γ i=none){nx':Nat}(hi':i<nx')(hn:nx≤nx'){t0 e z m n b B x:Nat}{inf:TypeInfo}{Z:Value}{k:ai}{vs:List AV}{X:Value}
 {ts:Array TypeId}{args:Array Value}(ht0:ts[0]? =some t0)(ha0:args[0]? =some (.slice (some ⟨B,0,none⟩) m (m+x)))(ha1:args[1]? =some X)(hu:P.underlying t0=some (.slice e))(hinf:P.info? e=some inf)(hsz:inf.size=z)(hz0:inf.zero=some Z)(hZ:Z.cells.size=z)
 (hsrc:oY P γ w e z ts X n vs)(hone:vs.all AV.one=true)(hk:h.get b=some k)(hg:γ b=some (B,x))(hown:k.own=true)(hksz:k.sz=z)(hkel:k.elem=e)(hlen:k.cells.length=m*z)
 (h63:m+n≤1000000000)(hby:(m+n)*inf.bytes≤140737488355328)(hkill:h.set b none=some h1)(hset:h1.set i (some ⟨.plain (k.cells++vs),e,z,true,true⟩)=some h'):
 ∃V γ' w',(jF ts args).run P w=.ok V w'∧bj γ h.get w γ' h'.get nx' w'∧ap γ' (.lo i (m+n)) V∧∀j,j≠i→γ' j=γ j:=by
 obtain⟨zeros,news,c1,c2,c3,c4,c5⟩:=hsrc.ex
 have hget1:=eo hkill
 have hsub:∀b' k',h1.get b'=some k'→h.get b'=some k':=by
  intro b' k' hb'
  rw[hget1]at hb'
  by_cases e1:b'=b
  ·subst e1;rw[fb]at hb';cases hb'
  ·rw[dl _ _ e1]at hb';exact hb'
 obtain⟨B',x',cs,ex,p1,p2,p3,p4,p5⟩:=hr.blk b k hk
 rw[hg]at p1
 cases p1
 have hcl:=p3.length
 have c3w:=c3 w rfl
 have c3d:=c3 w.drew rfl
 have tolo:∀{γ':Gm}{V:Value},ap γ' (.slc i 0 (m+n) (m+n)) V→ap γ' (.lo i (m+n)) V:=by
  intro γ' V hV
  cases hV with
  |slc _ _ _ hg'=>exact .lo _ hg'
 by_cases hroom:m+n≤m+x
 ·have hfit:(m+n)*z≤(m+x)*z:=il _ hroom
  have htot:(cs++ex).length=(m+x)*z:=by rw[bU,hcl,hlen,p4,hksz,gk]
  have hst:=run_storeCells_at P B (m*z) k.elem news 0 (cs++ex).toArray w p2 (by
   simp only[t7]
   rw[htot,c5,gj,←gk];exact hfit) (c4.ones hone)
  have hrun:=pL (P:=P) w ht0 ha0 ha1 hu hinf hsz c1 c2 c3w hroom
  simp only[dg,gN,hst,Result.andThen_ok]at hrun
  have hren:=hr.rename hk hown hg i nx' hi hi' hn (vs:=k.cells++vs) (Vs:=cs++news) (ex:=(cs++ex).drop ((m+n)*z)) (p3.append c4) (m+x-(m+n)) (by
   rw[pH,htot,hksz,←Nat.sub_mul])
  refine⟨_,γ.put i (some (B,m+x-(m+n))),_,hrun,?_,?_,fun j hj=>Gm.put_other _ _ hj⟩
  ·rw[eo hset,hget1]
   rw[hksz,hkel]at hren
   have e3:(cs++ex).take (m*z+0)++news++(cs++ex).drop (m*z+0+news.length)=(cs++news)++(cs++ex).drop ((m+n)*z):=by
    simp only[gj,c5,←gk]
    rw[ry om,iR om]
   rw[e3]
   exact hren
  ·have hv:ap (γ.put i (some (B,m+x-(m+n)))) (.lo i (m+n)) (.slice (some ⟨B,0,none⟩) (m+n) ((m+n)+(m+x-(m+n)))):=.lo (m+n) (Gm.put_same _ _ _)
   rwa[show(m+n)+(m+x-(m+n))=m+x by omega]at hv
 ·obtain⟨Vs,r1,r2,r3⟩:=hr.load hk hg 0 (m*z) om
  rw[mW,iR om]at r1
  have hO:=run_firstCells_some (P:=P) w.drew z m ⟨B,0,none⟩ m (m+x) Vs r2 (fun j u hu=>by simpa using r3 j u hu)
  obtain⟨V,γ',w',g1,g2,g3,g4⟩:=pV (P:=P) hr hsub hi hi' hn ht0 ha0 ha1 hu hinf hsz hz0 hZ c1 c2 c3d hO om h63 hby r1 c4
  refine⟨V,γ',w',g1,?_,tolo g3,g4⟩
  rw[eo hset]
  exact g2
theorem O8 {V W U:bN}(h:V.app W=some U):U.cells=V.cells++W.cells∧U.num=V.num+W.num:=by
 unfold bN.app at h
 split at h
 ·cases h;exact⟨by simp[bN.cells],by simp[bN.num]⟩
 ·obtain⟨hk,h'⟩:=az h
  clear h
  have hk:=dE hk
  subst hk
  cases h'
  exact⟨by simp[bN.cells],by simp[bN.num]⟩
 ·cases h
theorem pT {γ γ':Gm}{f:Hf}{h1 h2:Tr ai}{nx:Nat}{w w':World}{i:Nat}{V:bN}{cells:List AV}{e z:Nat}(hs:h1.set i (some ⟨V,e,z,true,true⟩)=some h2)(hc:V.cells=cells)
 (h:bj γ f w γ' (dY h1.get i (some ⟨.plain cells,e,z,true,true⟩)) nx w'):bj γ f w γ' h2.get nx w':=by
 rw[eo hs]
 refine h.view (fun cs hcs=>?_) rfl rfl rfl rfl rfl
 show au γ' V.cells cs
 rw[hc];exact hcs
include ht in
theorem SC {γ:Gm}{H H':Hs}{w:World}(hr:aQ γ H.m.get H.nx w){t0 t1:Nat}{s x v:AV}{S X:Value}(hs:ap γ s S)(hx:ap γ x X)
 (hq:tn ti conT t0 t1 s x H=some (v,H'))(hm:∀p∈H'.ms,p){ts:Array TypeId}{args:Array Value}(ty:TypeId)(ht0:ts[0]? =some t0)(ht1:ts[1]? =some t1)(ha0:args[0]? =some S)(ha1:args[1]? =some X):
 ∃V γ' w',(Builtin.append_ ts ty args).run P w=.ok V w'∧bj γ H.m.get w γ' H'.m.get H'.nx w'∧ap γ' v V∧(∀j,j≠H.nx→γ' j=γ j)∧H'.nx=H.nx+1:=by
 rw[rN]
 unfold tn at hq
 split at hq
 case h_2=>cases hq
 rename_i e hd
 have hu:P.underlying t0=some (.slice e):=ip ht hd
 split at hq
 case h_2=>cases hq
 rename_i z by_ zs hz hby hzs
 obtain⟨inf,Z,g1,g2,g3⟩:=mb (P:=P) (γ:=γ) ht hzs
 obtain⟨inf',q1,q2⟩:=j4 ht hz
 rw[g1]at q1
 cases q1
 have hbytes:inf.bytes=by_:=m8 ht hby g1
 cases hzl:(!(Nat.beq zs.length z&&Nat.ble by_ 1000))with
 |true=>rw[hzl]at hq;cases hq
 |false=>
  rw[hzl]at hq
  simp only[bg]at hq
  have hzl':(Nat.beq zs.length z&&Nat.ble by_ 1000)=true:=by simpa using hzl
  obtain⟨hz1,hb1⟩:=bq hzl'
  have hz1:=aN hz1
  have hb1:=aU hb1
  have hZ:Z.cells.size=z:=by have:=g3.length;simp at this;omega
  split at hq
  ·cases hq
  rename_i n V ms hsrc
  have bytesOk:∀m,m≤1000000→m*inf.bytes≤140737488355328:=by
   intro m hm'
   rw[hbytes]
   have:m*by_≤1000000*1000:=kX hm' hb1
   omega
  -- a new block
  have fresh:∀(H1:Hs)(base:Option Addr),H1.m=H.m→H1.nx=H.nx→S=.slice base 0 0→
   (match H1.m.set H1.nx (some ⟨V,e,z,true,true⟩)with
     |none=>none
     |some m=>some (AV.lo H1.nx n,({H1 with m:=m,nx:=H1.nx+1,ms:=(0<n∧n≤1000000)::(ms++H1.ms)}:Hs)))=some (v,H')→
   ∃V γ' w',(jF ts args).run P w=.ok V w'∧bj γ H.m.get w γ' H'.m.get H'.nx w'∧ap γ' v V∧(∀j,j≠H.nx→γ' j=γ j)∧H'.nx=H.nx+1:=by
   intro H1 base e1 e2 hS hf
   split at hf
   ·cases hf
   ·rename_i m hset
    cases hf
    obtain⟨h0,hle⟩:=hm (0<n∧n≤1000000) si
    obtain⟨so,_,hnp⟩:=zo ht hr hz hx hsrc (fun p hp=>hm p (by simp[hp])) ht1
    obtain⟨zeros,news,c1,c2,c3,c4,c5⟩:=so.ex
    have hO:(Builtin.firstCells z 0 (.slice base 0 0)).run P w.drew=.ok ([]:List Value).toArray w.drew:=by cases base<;>simp[Builtin.firstCells,loadCells,loadCellsFrom]
    obtain⟨W,γ',w',r1,r2,r3,r4⟩:=pV (P:=P) (olds:=[]) (Olds:=[]) hr (f1:=H.m.get) (fun _ _ h=>h) (i:=H.nx) (nx':=H.nx+1) (hr.fresh _ (aZ _)) om om ht0 (by rw[ha0,hS]) ha1 hu g1 q2 g2 hZ c1 c2 (c3 w.drew rfl) hO om om (bytesOk _ om) .nil c4
    rw[e1,e2]at hset
    refine⟨W,γ',w',r1,?_,?_,r4,by rw[e2]⟩
    ·show bj γ H.m.get w γ' m.get (H1.nx+1) w'
     rw[e2]
     exact pT hset si r2
    ·rw[e2]
     rw[gN]at r3
     cases r3 with
     |slc _ _ _ hg'=>exact .lo _ hg'
  -- nothing is appended
  have still:∀(H1:Hs)(base:Option Addr),H1.m=H.m→H1.nx=H.nx→S=.slice base 0 0→ap γ v (.slice base 0 0)→(Nat.beq n 0=true)→(∀p∈ms,p)→({H1 with nx:=H1.nx+1,ms:=ms++H1.ms}:Hs)=H'→
   ∃V γ' w',(jF ts args).run P w=.ok V w'∧bj γ H.m.get w γ' H'.m.get H'.nx w'∧ap γ' v V∧(∀j,j≠H.nx→γ' j=γ j)∧H'.nx=H.nx+1:=by
   intro H1 base e1 e2 hS hv hn hms hH
   subst hH
   have hn:=aN hn
   subst hn
   obtain⟨so,_,hnp⟩:=zo ht hr hz hx hsrc hms ht1
   obtain⟨zeros,news,c1,c2,c3,c4,c5⟩:=so.ex
   have hnews:news=[]:=kT (by simpa using c5)
   subst hnews
   have hrun:=pL (P:=P) w ht0 (by rw[ha0,hS]) ha1 hu g1 q2 c1 c2 (c3 w rfl) (sLen:=0) (sCap:=0) (base:=base) om
   refine⟨.slice base 0 0,γ,w,?_,?_,hv,fun _ _=>rfl,by rw[e2]⟩
   ·rw[hrun]
    cases base<;>simp[storeCells]
   ·show bj γ H.m.get w γ H1.m.get (H1.nx+1) w
    rw[e1,e2]
    exact bj.refl (hr.nx_mono om)
  have asked:∀(base:Option Addr)(u:AV),S=.slice base 0 0→ap γ u (.slice base 0 0)→
   (bif o8 x then
     (match H.ask (Nat.beq n 0)with
     |(true,H1)=>some (u,({H1 with nx:=H1.nx+1,ms:=ms++H1.ms}:Hs))
     |(false,H1)=>(match H1.m.set H1.nx (some ⟨V,e,z,true,true⟩)with
      |none=>none
      |some m=>some (AV.lo H1.nx n,({H1 with m:=m,nx:=H1.nx+1,ms:=(0<n∧n≤1000000)::(ms++H1.ms)}:Hs))))
     else(match H.m.set H.nx (some ⟨V,e,z,true,true⟩)with
      |none=>none
      |some m=>some (AV.lo H.nx n,({H with m:=m,nx:=H.nx+1,ms:=(0<n∧n≤1000000)::(ms++H.ms)}:Hs))))=some (v,H')→
   ∃V γ' w',(jF ts args).run P w=.ok V w'∧bj γ H.m.get w γ' H'.m.get H'.nx w'∧ap γ' v V∧(∀j,j≠H.nx→γ' j=γ j)∧H'.nx=H.nx+1:=by
   intro base u hS hu' hh
   cases hro:o8 x with
   |false=>
    rw[hro]at hh
    exact fresh H base rfl rfl hS hh
   |true=>
    rw[hro]at hh
    simp only[aM]at hh
    have am:=Au H (Nat.beq n 0)
    have an:=vh H (Nat.beq n 0)
    have ak:=lg H (Nat.beq n 0)
    generalize hak:H.ask (Nat.beq n 0)=r at hh am an ak
    obtain⟨d,H1⟩:=r
    cases d with
    |true=>
     simp only[bw,dQ]at hh
     obtain⟨rfl,hH⟩:=hh
     refine still H1 base am an hS hu' ?_ (fun p hp=>hm p (by rw[←hH];simp[hp])) hH
     exact hm (aj (Nat.beq n 0) true) (by rw[←hH];exact ji _ (by rw[show H1.ms=_ from ak];exact cZ))
    |false=>exact fresh H1 base am an hS hh
  split at hq
  ·rename_i b c
   split at hq
   ·cases hq
   ·rename_i k hk
    split at hq
    ·cases hq
    ·rename_i V' happ
     have hb:=(az hq).1
     replace hq:=(az hq).2
     simp only[aX]at hb
     obtain⟨⟨⟨d1,d2⟩,d3⟩,d4⟩:=hb
     split at hq
     ·cases hq
     ·rename_i m1 hkill
      split at hq
      ·cases hq
      ·rename_i m hset
       cases hq
       obtain⟨hnum,hle⟩:=hm (k.view.num=c∧c+n≤1000000) si
       obtain⟨so,hVn,hVz⟩:=zo ht hr hz hx hsrc (fun p hp=>hm p (by simp[hp])) ht1
       have hnp:∀cs,V≠.plain cs:=by rcases hVz with⟨L,rfl,_⟩|⟨k,L,rfl,_⟩<;>simp
       obtain⟨ac,an⟩:=O8 happ
       cases hs with
       |lo _ hg=>
        rename_i B xx
        have hkz:=aN d3
        have hke:=aN d4
        have hlen:k.cells.length=c*z:=by
         have hzz:k.view.cells.length=k.view.num*z:=by
          rcases hVz with⟨L,rfl,rfl⟩|⟨k2,L,rfl,rfl⟩
          ·cases hkv:k.view with
           |con M=>exact lc M
           |plain M=>rw[hkv]at happ;cases happ
           |ints k3 M=>rw[hkv]at happ;cases happ
           |rows k3 M b3 n3=>rw[hkv]at happ;cases happ
           |vals τ3 M=>rw[hkv]at happ;cases happ
          ·cases hkv:k.view with
           |con M=>rw[hkv]at happ;cases happ
           |plain M=>rw[hkv]at happ;cases happ
           |ints k3 M=>simp[bN.cells,bN.num]
           |rows k3 M b3 n3=>rw[hkv]at happ;cases happ
           |vals τ3 M=>rw[hkv]at happ;cases happ
         rw[←hnum];exact hzz
        have hone:V.cells.all AV.one=true:=V.ones (.inr hnp) hnp
        have hset':∃m2,m1.set H.nx (some ⟨.plain (k.cells++V.cells),e,z,true,true⟩)=some m2:=by
         unfold Tr.set at hset⊢
         obtain⟨hb2,_⟩:=az hset
         rw[hb2]
         exact⟨_,rfl⟩
        obtain⟨m2,hset2⟩:=hset'
        obtain⟨W,γ',w',r1,r2,r3,r4⟩:=yG (P:=P) hr (i:=H.nx) (hr.fresh _ (aZ _)) (nx':=H.nx+1) om om ht0 ha0 ha1 hu g1 q2 g2 hZ so hone hk hg d2 hkz hke hlen om (bytesOk _ hle) hkill hset2
        refine⟨W,γ',w',r1,?_,r3,r4,rfl⟩
        rw[eo hset2]at r2
        exact pT hset ac r2
  ·cases hs
   exact asked none _ rfl .nils hq
  ·cases hs
   exact asked _ _ rfl (.z0 _) hq
  ·cases hq
end
theorem aQ.reblk {γ:Gm}{f:Hf}{nx:Nat}{w:World}(h:aQ γ f nx w){b:Nat}{k k':ai}(hb:f b=some k)(hc:∀cs,au γ k.cells cs→au γ k'.cells cs)(h1:k'.elem=k.elem)(h2:k'.sz=k.sz)(h3:k'.opn=true)(h4:k.own=true)(h5:k'.own=true):
 bj γ f w γ (dY f b (some k')) nx w:=by
 have hold:∀c kc,dY f b (some k') c=some kc→∃kc',f c=some kc'∧kc'.own=kc.own:=by
  intro c kc hc'
  by_cases e:c=b
  ·subst e;rw[fb]at hc';cases hc';exact⟨k,hb,by rw[h4,h5]⟩
  ·rw[dl f _ e]at hc';exact⟨kc,hc',rfl⟩
 refine⟨Gm.le_refl γ,⟨?_,?_,h.fresh,h.fzr,?_⟩,aZ _,rfl,rfl,rfl,fun _ _ _=>rfl,?_,?_,?_,fun _ _ h=>.inl h,aZ _⟩
 ·intro c kc hc'
  by_cases e:c=b
  ·subst e
   rw[fb]at hc'
   cases hc'
   obtain⟨B,x,cs,ex,g1,g2,g3,g4,g5⟩:=h.blk c k hb
   exact⟨B,x,cs,ex,g1,by rw[h1];exact g2,hc _ g3,by rw[h2];exact g4,fun h=>by rw[h3]at h;cases h⟩
  ·rw[dl f _ e]at hc'
   exact h.blk c kc hc'
 ·intro c c' kc kc' B x x' q1 q2 q3 q4
  obtain⟨_,r1,_⟩:=hold _ _ q1
  obtain⟨_,r2,_⟩:=hold _ _ q2
  exact h.inj _ _ _ _ _ _ _ r1 r2 q3 q4
 ·intro c kc B x hc' ho hg
  obtain⟨kc',r1,r2⟩:=hold _ _ hc'
  exact h.fzo c kc' B x r1 (by rw[r2];exact ho) hg
 ·intro i hi ⟨c,kc,y,q1,q2,q3⟩
  obtain⟨kc',r1,r2⟩:=hold _ _ q1
  exact⟨c,kc',y,r1,by rw[r2];exact q2,q3⟩
 ·intro c kc hc' ho
  by_cases e:c=b
  ·subst e;rw[fb]at hc';cases hc';rw[h5]at ho;cases ho
  ·rw[dl f _ e]at hc';exact hc'
 ·intro c kc hc'
  obtain⟨kc',r1,_⟩:=hold _ _ hc'
  exact .inl ⟨kc',r1⟩
theorem Wq {γ:Gm}{b n B x:Nat}{k:IntKind}{l:List Int}{el:Nat}{fr:Nat×Nat}{ex:List Value}(hg:γ b=some (B,x))(hz:γ.fz B=some (.cells (l.map (Value.int k)++ex).toArray el fr))(hn:n=l.length){V:Value}(hV:ap γ (.lo b n) V):ap γ (fZ k l) V:=by
 cases hV with
 |lo _ hg'=>
  rw[hg]at hg'
  cases hg'
  subst hn
  unfold fZ
  refine .ro (.sl (fun i=>[.int k (l.getD i 0)]) om (fun i hi=>rfl) (fun i j v hi hv=>?_) (fun i hi=>.cons (.int _ _) .nil))
  refine⟨_,_,_,hz,?_⟩
  cases j with
  |zero=>
   simp only[mT,bw]at hv
   subst hv
   rw[ku,gB (by simp;omega)]
   simp[hi]
  |succ j=>simp at hv
def AV.row:AV→Option (Nat×Nat)
 |.slc b o n c=>bif Nat.beq o 0&&Nat.beq n c then some (b,n)else none
 |.lo b n=>some (b,n)
 |_=>none
theorem AV.row_ok {v:AV}{b n:Nat}(h:v.row=some (b,n)){γ:Gm}{V:Value}(hV:ap γ v V):ap γ (.lo b n) V∧v.one=true:=by
 unfold AV.row at h
 split at h
 ·obtain⟨h1,h2⟩:=az h
  obtain⟨h1,h3⟩:=bq h1
  have h1:=aN h1
  have h3:=aN h3
  subst h1 h3
  cases h2
  cases hV with
  |slc _ _ _ hg=>exact⟨.lo _ hg,rfl⟩
 ·cases h;exact⟨hV,rfl⟩
 ·cases h
def ai.nums (kk:IntKind)(k:ai):Option (List Int):=match k.view with
 |.ints k' l=>bif decide (k'=kk)then some l else none
 |.plain cs=>np kk cs
 |_=>none
theorem ai.nums_ok {kk:IntKind}{k:ai}{l:List Int}(h:k.nums kk=some l){γ:Gm}{cs:List Value}(hc:au γ k.cells cs):au γ (l.map (AV.vint kk)) cs∧cs=l.map (Value.int kk):=by
 have key:∀(l:List Int)(cs:List Value),au γ (l.map (AV.vint kk)) cs→cs=l.map (Value.int kk):=by
  intro l
  induction l with
  |nil=>intro cs h;cases h;rfl
  |cons a l ih=>intro cs h;cases h with|cons h1 h2=>cases h1;rw[ih _ h2];rfl
 have back:∀(l:List Int),au γ (l.map (AV.vint kk)) (l.map (Value.int kk)):=by
  intro l
  induction l with
  |nil=>exact .nil
  |cons a l ih=>exact .cons (.vint _ _) ih
 unfold ai.nums at h
 split at h
 ·rename_i k' l' hv
  obtain⟨h1,h2⟩:=az h
  have h1:=dE h1
  subst h1
  cases h2
  have hc:au γ k.view.cells cs:=hc
  rw[hv]at hc
  exact⟨hc,key _ _ hc⟩
 ·rename_i cs' hv
  have hc:au γ k.view.cells cs:=hc
  rw[hv]at hc
  have e:=ux hc h
  subst e
  exact⟨back _,rfl⟩
 ·cases h
def AH (ti:Tr TypeInfo)(kk:IntKind)(h:Tr ai)(e t:Nat)(x:AV):Option (AV×Nat×Nat×Tr ai):=
 match nB ti h e 1 t x with
 |some (1,[v])=>match v.row with
  |none=>none
  |some (b,n)=>match h.get b with
   |none=>none
   |some k=>match k.nums kk with
    |none=>none
    |some l=>bif k.own&&Nat.beq k.sz 1 then(match h.set b (some ⟨.ints kk l,k.elem,1,true,true⟩)with
     |none=>none
     |some h'=>some (v,b,n,h'))else none
 |_=>none
def AI (kk:IntKind)(h:Tr ai)(e bo bi c:Nat):Option (List (List Int)×Tr ai×List Prop):=
 match h.get bo with
 |none=>none
 |some ko=>match ko.view with
  |.rows k' L b n=>match h.get b with
   |none=>none
   |some kb=>match kb.nums kk with
    |none=>none
    |some l=>bif decide (k'=kk)&&kb.own&&ko.own&&Nat.beq ko.sz 1&&Nat.beq ko.elem e&&!Nat.beq b bi&&!Nat.beq bo b&&!Nat.beq bo bi then
     (match h.set b none with
     |none=>none
     |some h1=>match h1.set bo none with
      |none=>none
      |some h2=>some (L++[l],h2,[L.length+1=c∧n=l.length]))
     else none
  |_=>none
def tx (ti:Tr TypeInfo)(t0 t1:Nat)(s x:AV)(H:Hs):Option (AV×Hs):=
 match bE ti t0 with
 |some (.slice e)=>match bE ti e with
  |some (.slice ei)=>match cx ti e,lh ti e,iX ti e,qN ti ei with
   |some z,some by_,some zs,some kk=>bif Nat.beq z 1&&Nat.beq zs.length 1&&Nat.ble by_ 1000 then
    (match AH ti kk H.m e t1 x with
    |none=>none
    |some (_,bi,ni,m1)=>match s with
     |.nils=>(match m1.set H.nx (some ⟨.rows kk [] bi ni,e,1,true,true⟩)with
      |none=>none
      |some m=>some (.lo H.nx 1,{H with m:=m,nx:=H.nx+1}))
     |.lo bo c=>(match AI kk m1 e bo bi c with
      |none=>none
      |some (L,m2,ms)=>match m2.set H.nx (some ⟨.rows kk L bi ni,e,1,true,true⟩)with
       |none=>none
       |some m=>some (.lo H.nx (c+1),{H with m:=m,nx:=H.nx+1,ms:=(c+1≤1000000)::(ms++H.ms)}))
     |_=>none)
    else none
   |_,_,_,_=>none
  |_=>none
 |_=>none
theorem TR {ti:Tr TypeInfo}{t0 t1:Nat}{u y v:AV}{H H':Hs}(hq:tx ti t0 t1 u y H=some (v,H')):∀p∈H.ms,p∈H'.ms:=by
 intro p hp
 unfold tx at hq
 split at hq
 ·split at hq
  ·split at hq
   ·replace hq:=(az hq).2
    split at hq
    ·cases hq
    ·split at hq
     ·split at hq
      ·cases hq
      ·cases hq;exact hp
     ·split at hq
      ·cases hq
      ·split at hq
       ·cases hq
       ·cases hq;simp[hp]
     ·cases hq
   ·cases hq
  ·cases hq
 ·cases hq
section
variable {P:Program}{ti:Tr TypeInfo}(ht:dM P ti)
include ht in
theorem Rh {γ:Gm}{h h':Tr ai}{nx:Nat}{w:World}(hr:aQ γ h.get nx w){kk:IntKind}{e t b n:Nat}{x v:AV}{X:Value}(hx:ap γ x X)(hz:cx ti e=some 1)(hq:AH ti kk h e t x=some (v,b,n,h')){ts:Array TypeId}(ht1:ts[1]? =some t):
 bj γ h.get w γ h'.get nx w∧oY P γ w e 1 ts X 1 [v]∧v.row=some (b,n):=by
 unfold AH at hq
 split at hq
 ·rename_i v' hsrc
  split at hq
  ·cases hq
  ·rename_i b' n' hrow
   split at hq
   ·cases hq
   ·rename_i k hk
    split at hq
    ·cases hq
    ·rename_i l hl
     obtain⟨hb,hq'⟩:=az hq
     clear hq
     obtain⟨hb1,hb2⟩:=bq hb
     have hb2:=aN hb2
     split at hq'
     ·cases hq'
     ·rename_i h2 hset
      cases hq'
      refine⟨?_,⟨sm ht hr hz hx hsrc ht1⟩,hrow⟩
      rw[eo hset]
      exact hr.reblk hk (fun cs hcs=>(ai.nums_ok hl hcs).1) rfl hb2.symm rfl hb1 rfl
 ·cases hq
theorem Ri {γ:Gm}{h h':Tr ai}{nx:Nat}{w:World}(hr:aQ γ h.get nx w){kk:IntKind}{e bo bi c:Nat}{L:List (List Int)}{ms:List Prop}(hq:AI kk h e bo bi c=some (L,h',ms))(hm:∀p∈ms,p):
 ∃(γ1:Gm) (ko:ai) (h1:Tr ai),bj γ h.get w γ1 h1.get nx w∧γ1.nm=γ.nm∧h1.get bo=some ko∧ko.own=true∧ko.sz=1∧ko.elem=e∧ko.cells.length=c∧h1.set bo none=some h'∧
  (∀γ2:Gm,γ1.le γ2→∀cs,au γ2 ko.cells cs→au γ2 (L.map (fZ kk)) cs):=by
 unfold AI at hq
 split at hq
 ·cases hq
 ·rename_i ko hko
  split at hq
  ·rename_i k' L0 b n hview
   split at hq
   ·cases hq
   ·rename_i kb hkb
    split at hq
    ·cases hq
    ·rename_i l hl
     obtain⟨hb,hq'⟩:=az hq
     clear hq
     simp only[aX,n7]at hb
     obtain⟨⟨⟨⟨⟨⟨⟨d1,d2⟩,d3⟩,d4⟩,d5⟩,d6⟩,d7⟩,d8⟩:=hb
     have d1:=dE d1
     subst d1
     have d4:=aN d4
     have d5:=aN d5
     have d6:=nn d6
     have d7:=nn d7
     split at hq'
     ·cases hq'
     ·rename_i h1 hs1
      split at hq'
      ·cases hq'
      ·rename_i h2 hs2
       cases hq'
       obtain⟨hc,hn⟩:=ay hm
       obtain⟨B,x,cs,ex,g1,g2,g3,g4,g5⟩:=hr.blk b kb hkb
       obtain⟨n1,n2⟩:=ai.nums_ok hl g3
       have hfz:=hr.freeze hkb d2 g1 g2
       have hcells:ko.cells=L0.map (fZ k')++[AV.lo b n]:=by unfold ai.cells;rw[hview];rfl
       refine⟨⟨γ.nm,fun B'=>if B'=B then some (Obj.cells (cs++ex).toArray kb.elem)else γ.fz B'⟩,ko,h1,by rw[eo hs1];exact hfz,rfl,?_,d3,d4,d5,?_,hs2,?_⟩
       ·rw[eo hs1,dl _ _ d7];exact hko
       ·rw[hcells];simp;omega
       ·intro γ2 hle cs2 hcs2
        rw[hcells]at hcs2
        rw[rF]
        obtain⟨V1,V2,rfl,r1,r2⟩:=au.parts hcs2
        refine r1.append ?_
        cases r2 with
        |cons r3 r4=>
         cases r4
         refine .cons (Wq (x:=x) (B:=B) (el:=kb.elem) (fr:=(0,0)) (ex:=ex) (hle.nm _ _ g1) ?_ hn r3) .nil
         refine hle.fz B _ ?_
         show(if B=B then _ else _)=_
         rw[if_pos rfl,n2]
  ·cases hq
include ht in
theorem TS {γ:Gm}{H H':Hs}{w:World}(hr:aQ γ H.m.get H.nx w){t0 t1:Nat}{s x v:AV}{S X:Value}(hs:ap γ s S)(hx:ap γ x X)
 (hq:tx ti t0 t1 s x H=some (v,H'))(hm:∀p∈H'.ms,p){ts:Array TypeId}{args:Array Value}(ty:TypeId)(ht0:ts[0]? =some t0)(ht1:ts[1]? =some t1)(ha0:args[0]? =some S)(ha1:args[1]? =some X):
 ∃V γ' w',(Builtin.append_ ts ty args).run P w=.ok V w'∧bj γ H.m.get w γ' H'.m.get H'.nx w'∧ap γ' v V∧(∀j,j≠H.nx→γ' j=γ j)∧H'.nx=H.nx+1:=by
 rw[rN]
 unfold tx at hq
 split at hq
 case h_2=>cases hq
 rename_i e hd
 have hu:P.underlying t0=some (.slice e):=ip ht hd
 split at hq
 case h_2=>cases hq
 rename_i ei hd2
 split at hq
 case h_2=>cases hq
 rename_i z by_ zs kk hz hby hzs hkk
 obtain⟨inf,Z,g1,g2,g3⟩:=mb (P:=P) (γ:=γ) ht hzs
 obtain⟨inf',q1,q2⟩:=j4 ht hz
 rw[g1]at q1
 cases q1
 have hbytes:inf.bytes=by_:=m8 ht hby g1
 have hb:=(az hq).1
 replace hq:=(az hq).2
 obtain⟨hb,hb1⟩:=bq hb
 obtain⟨hz0,hz1⟩:=bq hb
 have hz0:=aN hz0
 have hz1:=aN hz1
 have hb1:=aU hb1
 subst hz0
 have hZ:Z.cells.size=1:=by have:=g3.length;simp at this;omega
 have bytesOk:∀m,m≤1000000→m*inf.bytes≤140737488355328:=by
  intro m hm'
  rw[hbytes]
  have:m*by_≤1000000*1000:=kX hm' hb1
  omega
 split at hq
 ·cases hq
 rename_i vv bi ni m1 hin
 obtain⟨xV,so,hrow⟩:=Rh ht hr hx hz hin ht1
 have hr1:=xV.rel
 have tolast:∀{γ2:Gm}{cs:List Value},au γ2 [vv] cs→au γ2 [AV.lo bi ni] cs:=by
  intro γ2 cs hcs
  cases hcs with
  |cons h1 h2=>cases h2;exact .cons (AV.row_ok hrow h1).1 .nil
 split at hq
 ·-- nil
  split at hq
  ·cases hq
  ·rename_i m hset
   cases hq
   cases hs
   obtain⟨zeros,news,c1,c2,c3,c4,c5⟩:=so.ex
   have hO:(Builtin.firstCells 1 0 (.slice none 0 0)).run P w.drew=.ok ([]:List Value).toArray w.drew:=by simp[Builtin.firstCells,loadCells,loadCellsFrom]
   obtain⟨W,γ',w',r1,r2,r3,r4⟩:=pV (P:=P) (olds:=[]) (Olds:=[]) hr1 (f1:=m1.get) (fun _ _ h=>h) (i:=H.nx) (nx':=H.nx+1) (hr.fresh _ (aZ _)) om om ht0 ha0 ha1 hu g1 q2 g2 hZ c1 c2 (c3 w.drew rfl) hO om om (bytesOk _ om) .nil c4
   refine⟨W,γ',w',r1,xV.trans ?_,?_,r4,rfl⟩
   ·show bj γ m1.get w γ' m.get (H.nx+1) w'
    rw[eo hset]
    refine r2.view (fun cs hcs=>?_) rfl rfl rfl rfl rfl
    exact tolast hcs
   ·cases r3 with
    |slc _ _ _ hg'=>exact .lo _ hg'
 ·-- a list
  rename_i bo c
  split at hq
  ·cases hq
  ·rename_i L m2 ms hto
   split at hq
   ·cases hq
   ·rename_i m hset
    cases hq
    have hle:c+1≤1000000:=hm _ cZ
    obtain⟨γ1,ko,h1,xW,hnm,k1,k2,k3,k4,k5,k6,k7⟩:=Ri hr1 hto (fun p hp=>hm p (by simp[hp]))
    have hr2:=xW.rel
    cases hs with
    |lo _ hg=>
     rename_i B xx
     have hg1:γ1 bo=some (B,xx):=by show γ1.nm bo=_;rw[hnm];exact hg
     obtain⟨zeros,news,c1,c2,c3,c4,c5⟩:=so.ex
     have so1:oY P γ1 w e 1 ts X 1 [vv]:=⟨zeros,news,c1,c2,c3,c4.mono xW.le,c5⟩
     have hone:([vv]:List AV).all AV.one=true:=by
      cases c4 with
      |cons h1 h2=>simp[(AV.row_ok hrow h1).2]
     have hset':∃m3,m2.set H.nx (some ⟨.plain (ko.cells++[vv]),e,1,true,true⟩)=some m3:=by
      unfold Tr.set at hset⊢
      obtain⟨hb2,_⟩:=az hset
      rw[hb2]
      exact⟨_,rfl⟩
     obtain⟨m3,hset3⟩:=hset'
     obtain⟨W,γ',w',r1,r2,r3,r4⟩:=yG (P:=P) hr2 (i:=H.nx) (hr2.fresh _ (aZ _)) (nx':=H.nx+1) om om ht0 ha0 ha1 hu g1 q2 g2 hZ so1 hone k1 hg1 k2 k3 k4 om om (bytesOk _ hle) k6 hset3
     refine⟨W,γ',w',r1,xV.trans (xW.trans ?_),r3,fun j hj=>by rw[r4 j hj];show γ1.nm j=_;rw[hnm],rfl⟩
     show bj γ1 h1.get w γ' m.get (H.nx+1) w'
     rw[eo hset3]at r2
     rw[eo hset]
     refine r2.view (fun cs hcs=>?_) rfl rfl rfl rfl rfl
     obtain⟨V1,V2,rfl,p1,p2⟩:=au.parts (us:=ko.cells) (vs:=[vv]) hcs
     exact(k7 γ' r2.le V1 p1).append (tolast p2)
 ·cases hq
end
end Go.QfSy
end
