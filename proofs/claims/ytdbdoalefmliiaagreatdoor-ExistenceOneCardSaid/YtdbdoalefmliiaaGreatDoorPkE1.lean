/- A part of the proof of ExistenceOne: ZA, ZB, ZC, ZD, ZE, ZF, ZG, ZH, ZI, ZS, ZT, ZT2, ZU, ZV, ZW, ZW2. -/
import Derived.Laws.AppendOwn
import Derived.Orders
import Derived.KernelRfl
import Derived.Laws.StructEq
import Derived.Laws.Slices
import Derived.Lib.Builder
import Derived.Lib.UnsafeStr
import Derived.Laws.MakeOwn
import Derived.Laws.BytesArg
set_option linter.unusedSimpArgs false
set_option linter.unusedVariables false
set_option maxRecDepth 100000
open Go.IntKind renaming i64 → w6
noncomputable section
namespace Go.QfSy
section
variable {p:Prop}
abbrev om(h:p:=by omega):=h
abbrev si(h:p:=by simp):=h
abbrev de(h:p:=by decide):=h
abbrev aS(h:p:=by assumption):=h
abbrev kr{α:Sort _}{a b:α}(h:a=b:=by kernel_rfl):=h
end
abbrev aT:=@Nat.le_of_ble_eq_true
abbrev bj:=@Bool.and_eq_true
abbrev bv:=@Option.some.injEq
abbrev cg:=@Int.toNat_natCast
abbrev co:=@Nat.eq_of_beq_eq_true
abbrev bI:=@decide_eq_false
abbrev cp:=@beq_eq_false_iff_ne
abbrev bJ:=@decide_eq_true
abbrev bC:=@List.mem_cons
abbrev ev:=@List.getD_eq_getElem?_getD
abbrev aU:=@cond_true
abbrev bA:=@Nat.lt_or_ge
abbrev bQ:=@Nat.zero_le
abbrev bp:=@Nat.le_refl
abbrev eI:=@Array.getElem?_eq_some_iff
abbrev cK:=@List.all_eq_true
abbrev bt:=@cond_false
abbrev dg:=@List.length_cons
abbrev cU:=@List.not_mem_nil
abbrev cl:=@Nat.le_trans
abbrev dZ:=@List.length_set
abbrev ea:=@of_decide_eq_true
abbrev gg:=@List.getElem?_append_left
abbrev eB:=@List.mem_cons_self
abbrev fk:=@List.mem_cons_of_mem
abbrev fV:=@List.length_append
abbrev ey:=@beq_self_eq_true
abbrev fW:=@Nat.ble_eq_true_of_le
abbrev dh:=@Prod.mk.injEq
abbrev gS:=@List.getElem?_eq_getElem
abbrev iE:=@Int.tmod_eq_emod_of_nonneg
abbrev fJ:=@List.mem_singleton
abbrev gT:=@List.drop_eq_nil_of_le
abbrev gh:=@List.flatMap_cons
abbrev kP:=@List.eq_nil_of_length_eq_zero
abbrev iS:=@List.take_of_length_le
abbrev jn:=@Nat.ne_of_beq_eq_false
abbrev fX:=@List.mem_append
abbrev iT:=@Nat.mul_le_mul_right
abbrev ib:=@decide_eq_true_eq
abbrev dx:=@beq_iff_eq
abbrev jo:=@List.mem_append_right
abbrev ic:=@List.length_nil
abbrev jD:=@List.getElem?_eq_none
abbrev fv:=@Nat.add_zero
abbrev gv:=@List.mem_map
abbrev ke:=@List.getElem?_toArray
abbrev cY:=@or_false
abbrev jE:=@Nat.lt_of_lt_of_le
abbrev nc:=@List.getElem?_append_right
abbrev kQ:=@List.flatMap_append
abbrev gF:=@Nat.zero_add
abbrev ml:=@Nat.dvd_of_mod_eq_zero
abbrev lE:=@List.mem_append_left
abbrev jF:=@List.getElem_mem
abbrev kf:=@List.append_nil
abbrev kR:=@Nat.pos_of_ne_zero
abbrev kS:=@Nat.eq_zero_or_pos
abbrev ot:=@Int.ofNat_le
abbrev nd:=@List.getElem?_cons_zero
abbrev jG:=@List.length_map
abbrev gG:=@Nat.add_mul
abbrev lG:=@List.getElem?_drop
abbrev nf:=@List.length_pos_iff
abbrev kT:=@List.cons_append
abbrev ie:=@Nat.pow_one
abbrev ig:=@Nat.one_mul
abbrev iU:=@Nat.pow_zero
abbrev kU:=@Option.map_some
abbrev pL:=@List.drop_eq_getElem_cons
abbrev mn:=@Nat.le_add_right
abbrev rA:=@List.take_append_of_le_length
abbrev jH:=@List.map_cons
abbrev jp:=@Nat.pow_succ
abbrev ou:=@List.take_append_drop
abbrev mo:=@List.getElem?_map
abbrev mp:=@Bool.not_eq_true'
abbrev pM:=@List.getElem?_cons_succ
abbrev nh:=@Bool.false_eq_true
abbrev ze7:=@Nat.pow_le_pow_right
abbrev uk:=@List.take_succ_eq_append_getElem
abbrev ov:=@Int.toNat_of_nonneg
abbrev lH:=@Bool.not_false
abbrev iV:=@gt_iff_lt
abbrev rB:=@List.length_replicate
abbrev ow:=@List.getElem?_take
abbrev lI:=@List.all_cons
abbrev kV:=@Nat.zero_mul
abbrev mr:=@Nat.mul_le_mul
abbrev mt9:=@Bool.and_false
abbrev ox:=@Bool.eq_false_iff
abbrev fx:=@if_true
abbrev nj:=@Bool.or_eq_true
abbrev jI:=@Nat.mod_lt
abbrev pN:=@Nat.lt_of_le_of_lt
abbrev pO:=@List.size_toArray
abbrev oy:=@List.range_succ
abbrev oz:=@List.head?_drop
abbrev oA:=@List.foldl_cons
abbrev mu:=@Nat.beq_refl
abbrev iF:=@if_false
abbrev oB:=@List.drop_zero
abbrev pP:=@Int.toNat_zero
abbrev pQ:=@List.nil_append
abbrev rC:=@List.foldl_append
abbrev oC:=@Bool.true_and
abbrev oD:=@Bool.not_true
abbrev xK:=@List.getElem?_eq_some_iff
abbrev rD:=@Nat.mod_eq_of_lt
abbrev rE:=@List.length_take
abbrev rF:=@List.length_drop
abbrev rG:=@List.ext_getElem
abbrev nk:=@decide_true
abbrev ul:=@List.getElem_of_mem
abbrev um:=@Array.length_toList
abbrev xL:=@Option.some.inj
abbrev xM:=@Nat.add_sub_cancel_left
abbrev B9:=@List.set_eq_take_append_cons_drop
abbrev xN:=@Nat.mod_eq_zero_of_dvd
abbrev uo:=@Nat.lt_trichotomy
abbrev up:=@List.flatten_cons
inductive Tr (α:Type)where
 |nil:Tr α
 |node (v:Option α) (l r:Tr α):Tr α
namespace Tr
variable {α:Type}
def lS (f:Nat):Nat→List Bool:=Nat.rec (motive:=fun _=>Nat→List Bool) (fun _=>[]) (fun _ ih n=>Nat.rec (motive:=fun _=>List Bool) [] (fun m _=>Nat.beq (m%2) 0::ih (m/2)) n) f
def vI (n:Nat):List Bool:=lS (n+1) n
def HR (t:Tr α):Option α:=Tr.rec (motive:=fun _=>Option α) none (fun v _ _ _ _=>v) t
def Vx (b:Bool)(ih:Tr α→Option α)(t:Tr α):Option α:=Tr.rec (motive:=fun _=>Option α) none (fun _ l r _ _=>ih (Bool.rec (motive:=fun _=>Tr α) r l b)) t
def iN (p:List Bool):Tr α→Option α:=List.rec (motive:=fun _=>Tr α→Option α) HR (fun b _ ih=>Vx b ih) p
def get (t:Tr α)(n:Nat):Option α:=iN (vI n) t
def HS (v:Option α)(t:Tr α):Tr α:=Tr.rec (motive:=fun _=>Tr α) (.node v .nil .nil) (fun _ l r _ _=>.node v l r) t
def fY (b:Bool)(ih:Tr α→Tr α)(t:Tr α):Tr α:=Tr.rec (motive:=fun _=>Tr α) (Bool.rec (motive:=fun _=>Tr α) (.node none .nil (ih .nil)) (.node none (ih .nil) .nil) b) (fun u l r _ _=>Bool.rec (motive:=fun _=>Tr α) (.node u l (ih r)) (.node u (ih l) r) b) t
def n7 (v:Option α)(p:List Bool):Tr α→Tr α:=List.rec (motive:=fun _=>Tr α→Tr α) (HS v) (fun b _ ih=>fY b ih) p
def setF (f:Nat)(t:Tr α)(n:Nat)(v:Option α):Tr α:=n7 v (lS f n) t
def wJ:List Bool→Nat
 |[]=>0
 |b::p=>2*wJ p+(bif b then 0 else 1)+1
theorem yQ:∀(f n:Nat),n<f∨n+1<2^f→wJ (lS f n)=n
 |0,n,h=>by simp at h
 |f+1,0,h=>rfl
 |f+1,n+1,h=>by
  show 2*wJ (lS f (n/2))+(bif Nat.beq (n%2) 0 then 0 else 1)+1=n+1
  rw[yQ f (n/2) (by rw[jp]at h;omega)]
  cases hb:Nat.beq (n%2) 0 with
  |true=>have:=co hb;simp only[aU];omega
  |false=>have:=jn hb;simp only[bt];omega
theorem Dy:∀(f g n:Nat),n<f∨n+1<2^f→n<g∨n+1<2^g→lS f n=lS g n
 |0,g,n,h,h'=>by simp at h
 |f+1,0,n,h,h'=>by simp at h'
 |f+1,g+1,0,h,h'=>rfl
 |f+1,g+1,n+1,h,h'=>by
  show Nat.beq (n%2) 0::lS f (n/2)=Nat.beq (n%2) 0::lS g (n/2)
  rw[Dy f g (n/2) (by rw[jp]at h;omega) (by rw[jp]at h';omega)]
theorem k9:∀p:List Bool,iN p (nil:Tr α)=none
 |[]=>rfl
 |_::_=>rfl
theorem get_nil (n:Nat):(nil:Tr α).get n=none:=k9 _
theorem Dz (v:Option α):∀(p q:List Bool)(t:Tr α),iN q (n7 v p t)=if q=p then v else iN q t
 |[],[],t=>by cases t<;>simp[n7,iN,HS,HR]
 |[],b::q,t=>by
  rw[if_neg si]
  cases t with
  |nil=>
   show iN q (Bool.rec (motive:=fun _=>Tr α) nil nil b)=none
   cases b<;>exact k9 q
  |node u l r=>rfl
 |a::p,[],t=>by
  rw[if_neg si]
  cases t<;>cases a<;>rfl
 |a::p,b::q,t=>by
  have ih:=fun t=>Dz v p q t
  have hn:∀x:Tr α,iN q (nil:Tr α)=none:=fun _=>k9 q
  cases a<;>cases b<;>cases t
  ·show iN q (n7 v p nil)=_
   rw[ih,k9];simp[k9]
  ·rename_i u l r
   show iN q (n7 v p r)=_
   rw[ih];simp;rfl
  ·show iN q nil=_
   rw[if_neg si,k9,k9]
  ·rename_i u l r
   show iN q l=_
   rw[if_neg si];rfl
  ·show iN q nil=_
   rw[if_neg si,k9,k9]
  ·rename_i u l r
   show iN q r=_
   rw[if_neg si];rfl
  ·show iN q (n7 v p nil)=_
   rw[ih,k9];simp[k9]
  ·rename_i u l r
   show iN q (n7 v p l)=_
   rw[ih];simp;rfl
theorem get_setF (f:Nat)(t:Tr α)(n m:Nat)(v:Option α)(h:n+1<2^f):(setF f t n v).get m=if m=n then v else t.get m:=by
 show iN (vI m) (n7 v (lS f n) t)=_
 rw[Dy f (n+1) n (.inr h) (.inl om),Dz]
 by_cases hm:m=n
 ·subst hm;rw[if_pos (show vI m=lS (m+1) m from rfl),if_pos rfl]
 ·rw[if_neg hm,if_neg]
  ·rfl
  ·intro e
   have:=congrArg wJ e
   unfold vI at this
   rw[yQ (m+1) m (.inl om),yQ (n+1) n (.inl om)]at this
   exact hm this
def top:Nat:=1000000000
def set (t:Tr α)(n:Nat)(v:Option α):Option (Tr α):=bif Nat.ble n top then some (setF 40 t n v)else none
theorem get_set {t t':Tr α}{n:Nat}{v:Option α}(h:t.set n v=some t')(m:Nat):t'.get m=if m=n then v else t.get m:=by
 unfold set at h
 cases hb:Nat.ble n top with
 |false=>rw[hb]at h;simp at h
 |true=>
  rw[hb]at h
  simp only[aU,bv]at h
  subst h
  apply get_setF
  have:=aT hb
  simp only[top]at this
  omega
def ofList (l:List α):Tr α:=go l 0 nil
where
 go:List α→Nat→Tr α→Tr α
  |[],_,t=>t
  |x::l,i,t=>go l (i+1) (setF 40 t i (some x))
theorem SY (l:List α):∀(i:Nat)(t:Tr α)(m:Nat),i+l.length+1<2^40→(ofList.go l i t).get m=if i≤m∧m<i+l.length then l[m-i]? else t.get m:=by
 induction l with
 |nil=>intro i t m _;simp only[ofList.go,ic,fv];rw[if_neg om]
 |cons x l ih=>
  intro i t m hi
  simp only[dg]at hi
  simp only[ofList.go]
  rw[ih (i+1) _ m om,get_setF 40 t i m _ om]
  simp only[dg]
  by_cases h1:i+1≤m∧m<i+1+l.length
  ·rw[if_pos h1,if_pos om]
   have:m-i=(m-(i+1))+1:=by omega
   rw[this,pM]
  ·rw[if_neg h1]
   by_cases h2:m=i
   ·subst h2;rw[if_pos rfl,if_pos om];simp
   ·rw[if_neg h2,if_neg om]
theorem get_ofList (l:List α)(h:l.length<1000000)(m:Nat):(ofList l).get m=l[m]? :=by
 unfold ofList
 rw[SY l 0 nil m om]
 by_cases hm:m<l.length
 ·rw[if_pos om];simp
 ·rw[if_neg om,jD om,get_nil]
end Tr
inductive RV where
 |bool (b:Bool)
 |int (k:IntKind) (n:Int)
 |str (s:ByteArray)
 |err (b:Bool)
 |sl (n sz:Nat) (row:Nat→List RV)
 |agg (vs:List RV)
 |tup (vs:List RV)
 deriving Inhabited
inductive AV where
 |vbool (b:Bool)
 |vint (k:IntKind) (n:Int)
 |vstr (s:ByteArray)
 |verr (b:Bool)
 |vnum (k:IntKind)
 |ro (n sz:Nat) (row:Nat→List RV)
 |rp (cs:List RV) (j:Nat)
 |lo (b n:Nat)
 |lp (b i z j:Nat)
 |ls (b o z n:Nat) (e:Bool)
 |z0
 |bool (b:Bool)
 |int (k:IntKind) (n:Int)
 |str (s:ByteArray)
 |ptr (b o:Nat)
 |nilp
 |slc (b o n c:Nat)
 |nils
 |emp
 |zer
 |fn (f:Nat) (vs:List AV)
 |nilfn
 |ifc (t:Nat) (v:AV)
 |nilif
 |agg (vs:List AV)
 |tup (vs:List AV)
 deriving Inhabited
def AV.one:AV→Bool
 |.agg _|.tup _=>false
 |_=>true
def AV.cells:AV→List AV
 |.agg cs=>cs
 |v=>[v]
abbrev Fz:=Nat→Option Obj
def mP (F:Fz)(B o:Nat)(v:Value):Prop:=∃cs el fr,F B=some (.cells cs el fr)∧cs[o]? =some v
def Fz.le (F F':Fz):Prop:=∀B x,F B=some x→F' B=some x
theorem mP.mono {F F':Fz}(h:F.le F'){B o:Nat}{v:Value}(k:mP F B o v):mP F' B o v:=by
 obtain⟨cs,el,fr,h1,h2⟩:=k
 exact⟨cs,el,fr,h _ _ h1,h2⟩
def vJ (b:Bool)(V:Value):Prop:=(b=true∧V=.nilIface)∨(b=false∧∃t v,V=.iface t v)
mutual
inductive bZ (F:Fz):RV→Value→Prop
 |bool (b:Bool):bZ F (.bool b) (.bool b)
 |int (k:IntKind) (n:Int):bZ F (.int k n) (.int k n)
 |str (s:ByteArray):bZ F (.str s) (.string s)
 |err {b:Bool} {V:Value} (h:vJ b V):bZ F (.err b) V
 |sl0 {n:Nat} (sz:Nat) (row:Nat→List RV) (a:Option Addr) (c:Nat) (hn:n=0):bZ F (.sl n sz row) (.slice a 0 c)
 |sl {n sz B o c:Nat} {row:Nat→List RV} (cs:Nat→List Value) (hc:n≤c) (hl:∀i,i<n→(cs i).length=sz) (hf:∀i j v,i<n→(cs i)[j]? =some v→mP F B (o+i*sz+j) v) (h:∀i,i<n→bY F (row i) (cs i)):bZ F (.sl n sz row) (.slice (some ⟨B,o,none⟩) n c)
 |agg {vs:List RV} {Vs:List Value} (h:bY F vs Vs):bZ F (.agg vs) (.agg Vs.toArray)
 |tup {vs:List RV} {Vs:List Value} (h:bY F vs Vs):bZ F (.tup vs) (.tuple Vs.toArray)
inductive bY (F:Fz):List RV→List Value→Prop
 |nil:bY F [] []
 |cons {v:RV} {V:Value} {vs:List RV} {Vs:List Value} (h:bZ F v V) (t:bY F vs Vs):bY F (v::vs) (V::Vs)
end
mutual
theorem bZ.mono {F F':Fz}(hg:F.le F'){v:RV}{V:Value}(h:bZ F v V):bZ F' v V:=by
 cases h with
 |bool b=>exact .bool b
 |int k n=>exact .int k n
 |str s=>exact .str s
 |err h=>exact .err h
 |sl0 sz row a c hn=>exact .sl0 sz row a c hn
 |sl cs hc hl hf h=>exact .sl cs hc hl (fun i j v hi hv=>(hf i j v hi hv).mono hg) (fun i hi=>bY.mono hg (h i hi))
 |agg h=>exact .agg (bY.mono hg h)
 |tup h=>exact .tup (bY.mono hg h)
theorem bY.mono {F F':Fz}(hg:F.le F'){vs:List RV}{Vs:List Value}(h:bY F vs Vs):bY F' vs Vs:=by
 cases h with
 |nil=>exact .nil
 |cons h t=>exact .cons (bZ.mono hg h) (bY.mono hg t)
end
structure Gm where
 nm:Nat→Option (Nat×Nat)
 fz:Fz
instance :CoeFun Gm (fun _=>Nat→Option (Nat×Nat)):=⟨Gm.nm⟩
mutual
inductive aj (γ:Gm):AV→Value→Prop
 |vbool (b:Bool):aj γ (.vbool b) (.bool b)
 |vint (k:IntKind) (n:Int):aj γ (.vint k n) (.int k n)
 |vstr (s:ByteArray):aj γ (.vstr s) (.string s)
 |verr {b:Bool} {V:Value} (h:vJ b V):aj γ (.verr b) V
 |vnum (k:IntKind) (n:Int):aj γ (.vnum k) (.int k n)
 |ro {n sz:Nat} {row:Nat→List RV} {V:Value} (h:bZ γ.fz (.sl n sz row) V):aj γ (.ro n sz row) V
 |rp {B o j:Nat} {cs:List RV} {Cs:List Value} (h:bY γ.fz cs Cs) (hf:∀i v,Cs[i]? =some v→mP γ.fz B (o+i) v):aj γ (.rp cs j) (.pointer (some ⟨B,o+j,none⟩))
 |lo {b B x:Nat} (n:Nat) (h:γ b=some (B,x)):aj γ (.lo b n) (.slice (some ⟨B,0,none⟩) n (n+x))
 |lp {b B x:Nat} (i z j:Nat) (h:γ b=some (B,x)):aj γ (.lp b i z j) (.pointer (some ⟨B,i*z+j,none⟩))
 |ls {b B x n c:Nat} {a:Option Addr} (o z:Nat) (e:Bool) (h:γ b=some (B,x)) (ha:0<n→a=some ⟨B,o*z,none⟩) (hc:n≤c) (he:e=true→c=n):aj γ (.ls b o z n e) (.slice a n c)
 |z0 (a:Option Addr):aj γ .z0 (.slice a 0 0)
 |bool (b:Bool):aj γ (.bool b) (.bool b)
 |int (k:IntKind) (n:Int):aj γ (.int k n) (.int k n)
 |str (s:ByteArray):aj γ (.str s) (.string s)
 |ptr {b B x:Nat} (o:Nat) (h:γ b=some (B,x)):aj γ (.ptr b o) (.pointer (some ⟨B,o,none⟩))
 |nilp:aj γ .nilp (.pointer none)
 |slc {b B x:Nat} (o n c:Nat) (h:γ b=some (B,x)):aj γ (.slc b o n c) (.slice (some ⟨B,o,none⟩) n (c+x))
 |nils:aj γ .nils (.slice none 0 0)
 |emp (a:Option Addr) (c:Nat):aj γ .emp (.slice a 0 c)
 |zer (a:Addr):aj γ .zer (.slice (some a) 0 0)
 |fn (f:Nat) {vs:List AV} {Vs:List Value} (h:ap γ vs Vs):aj γ (.fn f vs) (.func (.func f) #[] Vs.toArray)
 |nilfn:aj γ .nilfn .nilFunc
 |ifc (t:Nat) {v:AV} {V:Value} (h:aj γ v V):aj γ (.ifc t v) (.iface t V)
 |nilif:aj γ .nilif .nilIface
 |agg {vs:List AV} {Vs:List Value} (h:ap γ vs Vs):aj γ (.agg vs) (.agg Vs.toArray)
 |tup {vs:List AV} {Vs:List Value} (h:ap γ vs Vs):aj γ (.tup vs) (.tuple Vs.toArray)
inductive ap (γ:Gm):List AV→List Value→Prop
 |nil:ap γ [] []
 |cons {v:AV} {V:Value} {vs:List AV} {Vs:List Value} (h:aj γ v V) (t:ap γ vs Vs):ap γ (v::vs) (V::Vs)
end
structure Gm.le (γ γ':Gm):Prop where
 nm:∀b p,γ b=some p→γ' b=some p
 fz:Fz.le γ.fz γ'.fz
theorem Gm.le_refl (γ:Gm):γ.le γ:=⟨fun _ _ h=>h,fun _ _ h=>h⟩
theorem Gm.le_trans {a b c:Gm}(h:a.le b)(k:b.le c):a.le c:=⟨fun x p hx=>k.nm x p (h.nm x p hx),fun x p hx=>k.fz x p (h.fz x p hx)⟩
def Gm.put (γ:Gm)(i:Nat)(v:Option (Nat×Nat)):Gm:=⟨fun b=>if b=i then v else γ.nm b,γ.fz⟩
theorem Gm.put_same (γ:Gm)(i:Nat)(v:Option (Nat×Nat)):(γ.put i v) i=v:=by simp[Gm.put]
theorem Gm.put_other (γ:Gm){i b:Nat}(v:Option (Nat×Nat))(h:b≠i):(γ.put i v) b=γ b:=by simp[Gm.put,h]
mutual
theorem aj.mono {γ γ':Gm}(hg:γ.le γ'){v:AV}{V:Value}(h:aj γ v V):aj γ' v V:=by
 cases h with
 |vbool b=>exact .vbool b
 |vint k n=>exact .vint k n
 |vstr s=>exact .vstr s
 |verr h=>exact .verr h
 |vnum k n=>exact .vnum k n
 |ro h=>exact .ro (h.mono hg.fz)
 |rp h hf=>exact .rp (h.mono hg.fz) (fun i v hv=>(hf i v hv).mono hg.fz)
 |lo n h=>exact .lo n (hg.nm _ _ h)
 |lp i z j h=>exact .lp i z j (hg.nm _ _ h)
 |ls o z e h ha hc he=>exact .ls o z e (hg.nm _ _ h) ha hc he
 |z0 a=>exact .z0 a
 |bool b=>exact .bool b
 |int k n=>exact .int k n
 |str s=>exact .str s
 |ptr o h=>exact .ptr o (hg.nm _ _ h)
 |nilp=>exact .nilp
 |slc o n c h=>exact .slc o n c (hg.nm _ _ h)
 |nils=>exact .nils
 |emp a c=>exact .emp a c
 |zer a=>exact .zer a
 |fn f h=>exact .fn f (ap.mono hg h)
 |nilfn=>exact .nilfn
 |ifc t h=>exact .ifc t (aj.mono hg h)
 |nilif=>exact .nilif
 |agg h=>exact .agg (ap.mono hg h)
 |tup h=>exact .tup (ap.mono hg h)
theorem ap.mono {γ γ':Gm}(hg:γ.le γ'){vs:List AV}{Vs:List Value}(h:ap γ vs Vs):ap γ' vs Vs:=by
 cases h with
 |nil=>exact .nil
 |cons h t=>exact .cons (aj.mono hg h) (ap.mono hg t)
end
section
variable {γ:Gm}
theorem ap.length {vs:List AV}{Vs:List Value}(h:ap γ vs Vs):Vs.length=vs.length:=by
 induction vs generalizing Vs with
 |nil=>cases h;rfl
 |cons v vs ih=>cases h with|cons h t=>simp[ih t]
theorem ap.get {vs:List AV}{Vs:List Value}(h:ap γ vs Vs)(i:Nat):(vs[i]? =none∧Vs[i]? =none)∨∃v V,vs[i]? =some v∧Vs[i]? =some V∧aj γ v V:=by
 induction vs generalizing Vs i with
 |nil=>cases h;exact .inl ⟨si,si⟩
 |cons v vs ih=>
  cases h with
  |cons h t=>
   cases i with
   |zero=>exact .inr ⟨_,_,si,si,h⟩
   |succ i=>simpa using ih t i
theorem ap.append {vs us:List AV}{Vs Us:List Value}(h:ap γ vs Vs)(k:ap γ us Us):ap γ (vs++us) (Vs++Us):=by
 induction vs generalizing Vs with
 |nil=>cases h;simpa using k
 |cons v vs ih=>cases h with|cons h t=>exact .cons h (ih t)
theorem ap.take {vs:List AV}{Vs:List Value}(h:ap γ vs Vs)(n:Nat):ap γ (vs.take n) (Vs.take n):=by
 induction vs generalizing Vs n with
 |nil=>cases h;simp;exact .nil
 |cons v vs ih=>
  cases h with
  |cons h t=>
   cases n with
   |zero=>simp;exact .nil
   |succ n=>exact .cons h (ih t n)
theorem ap.drop {vs:List AV}{Vs:List Value}(h:ap γ vs Vs)(n:Nat):ap γ (vs.drop n) (Vs.drop n):=by
 induction vs generalizing Vs n with
 |nil=>cases h;simp;exact .nil
 |cons v vs ih=>
  cases h with
  |cons h t=>
   cases n with
   |zero=>exact .cons h t
   |succ n=>exact ih t n
theorem aj.one {v:AV}{V:Value}(h:aj γ v V):V.oneCell'=v.one:=by
 cases h with
 |ro h=>cases h<;>rfl
 |verr h=>rcases h with⟨_,rfl⟩|⟨_,_,_,rfl⟩<;>rfl
 |_=>rfl
theorem aj.cells {v:AV}{V:Value}(h:aj γ v V):ap γ v.cells V.cells.toList:=by
 cases h with
 |agg h=>simpa [Value.cells,AV.cells]using h
 |vbool b=>exact .cons (.vbool b) .nil
 |vint k n=>exact .cons (.vint k n) .nil
 |vstr s=>exact .cons (.vstr s) .nil
 |verr h=>rcases h with⟨rfl,rfl⟩|⟨rfl,t,v,rfl⟩
          ·exact .cons (.verr (.inl ⟨rfl,rfl⟩)) .nil
          ·exact .cons (.verr (.inr ⟨rfl,t,v,rfl⟩)) .nil
 |vnum k n=>exact .cons (.vnum k n) .nil
 |ro h=>cases h with
  |sl0 _ _ _ _ hn=>exact .cons (.ro (.sl0 _ _ _ _ aS)) .nil
  |sl cs hc hl hf h=>exact .cons (.ro (.sl cs hc hl hf h)) .nil
 |rp h hf=>exact .cons (.rp h hf) .nil
 |lo n h=>exact .cons (.lo n h) .nil
 |lp i z j h=>exact .cons (.lp i z j h) .nil
 |ls o z e h ha hc he=>exact .cons (.ls o z e h ha hc he) .nil
 |z0 a=>exact .cons (.z0 a) .nil
 |bool b=>exact .cons (.bool b) .nil
 |int k n=>exact .cons (.int k n) .nil
 |str s=>exact .cons (.str s) .nil
 |ptr o h=>exact .cons (.ptr o h) .nil
 |nilp=>exact .cons .nilp .nil
 |slc o n c h=>exact .cons (.slc o n c h) .nil
 |nils=>exact .cons .nils .nil
 |emp a c=>exact .cons (.emp a c) .nil
 |zer a=>exact .cons (.zer a) .nil
 |fn f h=>exact .cons (.fn f h) .nil
 |nilfn=>exact .cons .nilfn .nil
 |ifc t h=>exact .cons (.ifc t h) .nil
 |nilif=>exact .cons .nilif .nil
 |tup h=>exact .cons (.tup h) .nil
theorem ap.ones {vs:List AV}{Vs:List Value}(h:ap γ vs Vs)(ho:vs.all AV.one=true):∀V∈Vs,V.oneCell'=true:=by
 induction vs generalizing Vs with
 |nil=>cases h;simp
 |cons v vs ih=>
  cases h with
  |cons h t=>
   simp only[lI,bj]at ho
   intro V hV
   rcases bC.1 hV with rfl|hV
   ·rw[h.one];exact ho.1
   ·exact ih t ho.2 V hV
end
end Go.QfSy
namespace Go.QfSy
mutual
def RV.av:RV→AV
 |.bool b=>.vbool b
 |.int k n=>.vint k n
 |.str s=>.vstr s
 |.err b=>.verr b
 |.sl n z r=>.ro n z r
 |.agg vs=>.agg (RV.avl vs)
 |.tup vs=>.tup (RV.avl vs)
def RV.avl:List RV→List AV
 |[]=>[]
 |v::vs=>v.av::RV.avl vs
end
structure Con where
 exp:Int
 dim:Int
 sign:Int
 odd:Bool
 oddity:Int
deriving DecidableEq,Inhabited
def Con.avs (c:Con):List AV:=[.vint .i64 c.exp,.vint .i64 c.dim,.vint .i64 c.sign,.vbool c.odd,.vint .i64 c.oddity]
def Con.rvs (c:Con):List RV:=[.int .i64 c.exp,.int .i64 c.dim,.int .i64 c.sign,.bool c.odd,.int .i64 c.oddity]
def Con.zero:Con:=⟨0,0,0,false,0⟩
structure Loc where
 prime:Int
 list:List Con
deriving Inhabited
structure aG where
 dim:Int
 det:Int
 locs:List Loc
deriving Inhabited
structure aN where
 prime:Int
 exp:Int
deriving Inhabited
structure Jb where
 exp:Int
 size:Int
 a:Int
 b:Int
 c:Int
deriving Inhabited
structure lu where
 neg:Bool
 mag:List Int
deriving Inhabited
inductive ae where
 |con
 |num (k:IntKind)
 |loc
 |gen
 |pow
 |jb
 |bint
 |flag
 |list (τ:ae)
deriving DecidableEq
def ae.car:ae→Type
 |.con=>Con
 |.num _=>Int
 |.loc=>Loc
 |.gen=>aG
 |.pow=>aN
 |.jb=>Jb
 |.bint=>lu
 |.flag=>Bool
 |.list τ=>List τ.car
def ae.sz:ae→Nat
 |.con=>5
 |.num _=>1
 |.loc=>2
 |.gen=>3
 |.pow=>2
 |.jb=>5
 |.bint=>2
 |.flag=>1
 |.list _=>1
def Loc.zero:Loc:=⟨0,[]⟩
def aG.zero:aG:=⟨0,0,[]⟩
def aN.zero:aN:=⟨0,0⟩
def Jb.zero:Jb:=⟨0,0,0,0,0⟩
def lu.zero:lu:=⟨false,[]⟩
def ae.zero:(τ:ae)→τ.car
 |.con=>Con.zero
 |.num _=>(0:Int)
 |.loc=>Loc.zero
 |.gen=>aG.zero
 |.pow=>aN.zero
 |.jb=>Jb.zero
 |.bint=>lu.zero
 |.flag=>false
 |.list _=>[]
def bg (L:List Con):RV:=.sl L.length 5 (fun i=>(L.getD i Con.zero).rvs)
def Loc.rvs (x:Loc):List RV:=[.int .i64 x.prime,bg x.list]
def iz (L:List Loc):RV:=.sl L.length 2 (fun i=>(L.getD i Loc.zero).rvs)
def aG.rvs (x:aG):List RV:=[.int .i64 x.dim,.int .i64 x.det,iz x.locs]
def aN.rvs (x:aN):List RV:=[.int .i64 x.prime,.int .i64 x.exp]
def Jb.rvs (x:Jb):List RV:=[.int .i64 x.exp,.int .i64 x.size,.int .i64 x.a,.int .i64 x.b,.int .i64 x.c]
def lu.rvs (x:lu):List RV:=[.bool x.neg,.sl x.mag.length 1 (fun i=>[.int .u32 (x.mag.getD i 0)])]
def ae.rvs:(τ:ae)→τ.car→List RV
 |.con,c=>Con.rvs c
 |.num k,n=>[.int k n]
 |.loc,x=>Loc.rvs x
 |.gen,x=>aG.rvs x
 |.pow,x=>aN.rvs x
 |.jb,x=>Jb.rvs x
 |.bint,x=>lu.rvs x
 |.flag,x=>[.bool x]
 |.list τ,l=>[.sl (List.length (α:=τ.car) l) τ.sz (fun i=>τ.rvs (List.getD (α:=τ.car) l i τ.zero))]
theorem ae.rvs_len:∀(τ:ae)(c:τ.car),(τ.rvs c).length=τ.sz:=by
 intro τ c
 cases τ<;>rfl
inductive b6 where
 |plain (cells:List AV)
 |con (L:List Con)
 |ints (k:IntKind) (L:List Int)
 |rows (k:IntKind) (L:List (List Int)) (b n:Nat)
 |vals (τ:ae) (L:List τ.car)
def fU (k:IntKind)(l:List Int):AV:=.ro l.length 1 (fun i=>[.int k (l.getD i 0)])
def b6.cells:b6→List AV
 |plain cs=>cs
 |con L=>L.flatMap Con.avs
 |ints k L=>L.map (.vint k)
 |rows k L b n=>L.map (fU k)++[.lo b n]
 |vals τ L=>L.flatMap (fun c=>RV.avl (τ.rvs c))
structure ag where
 view:b6
 elem:Nat
 sz:Nat
 opn:Bool
 own:Bool
def ag.cells (k:ag):List AV:=k.view.cells
abbrev Hf:=Nat→Option ag
def es {α:Type}(f:Nat→Option α)(i:Nat)(v:Option α):Nat→Option α:=fun b=>if b=i then v else f b
theorem eU {α:Type}(f:Nat→Option α)(i:Nat)(v:Option α):es f i v i=v:=by simp[es]
theorem dj {α:Type}(f:Nat→Option α){i b:Nat}(v:Option α)(h:b≠i):es f i v b=f b:=by simp[es,h]
def wA (γ:Gm)(w:World)(b:Nat)(k:ag):Prop:=
 ∃B x cs ex,γ b=some (B,x)∧w.heap[B]? =some (.cells (cs++ex).toArray k.elem (0,0))∧ap γ k.cells cs∧ex.length=x*k.sz∧(k.opn=false→x=0)
structure aJ (γ:Gm)(f:Hf)(nx:Nat)(w:World):Prop where
 blk:∀b k,f b=some k→wA γ w b k
 inj:∀b b' k k' B x x',f b=some k→f b'=some k'→γ b=some (B,x)→γ b'=some (B,x')→b=b'
 fresh:∀b,nx≤b→γ b=none
 fzr:∀B x,γ.fz B=some x→w.heap[B]? =some x
 fzo:∀b k B x,f b=some k→k.own=true→γ b=some (B,x)→γ.fz B=none
def eQ (γ:Gm)(f:Hf)(B:Nat):Prop:=∃b k x,f b=some k∧k.own=true∧γ b=some (B,x)
structure be (γ:Gm)(f:Hf)(w:World)(γ':Gm)(f':Hf)(nx':Nat)(w':World):Prop where
 le:γ.le γ'
 rel:aJ γ' f' nx' w'
 size:w.heap.size≤w'.heap.size
 os:w'.os=w.os
 tape:w'.tape=w.tape
 output:w'.output=w.output
 frame:∀k,k<w.heap.size→¬eQ γ f k→w'.heap[k]? =w.heap[k]?
 own:∀k,k<w.heap.size→eQ γ' f' k→eQ γ f k
 ro:∀b k,f' b=some k→k.own=false→f b=some k
 dom:∀b k,f' b=some k→(∃k',f b=some k')∨γ b=none
 fzn:∀B x,γ'.fz B=some x→γ.fz B=some x∨w.heap.size≤B∨eQ γ f B
 drawn:w.drawn≤w'.drawn
theorem be.refl {γ:Gm}{f:Hf}{nx:Nat}{w:World}(h:aJ γ f nx w):be γ f w γ f nx w:=
 ⟨Gm.le_refl γ,h,bp _,rfl,rfl,rfl,fun _ _ _=>rfl,fun _ _ h=>h,fun _ _ h _=>h,fun _ k h=>.inl ⟨k,h⟩,fun _ _ h=>.inl h,bp _⟩
theorem be.trans {γ γ1 γ2:Gm}{f f1 f2:Hf}{n1 n2:Nat}{w w1 w2:World}(h:be γ f w γ1 f1 n1 w1)(k:be γ1 f1 w1 γ2 f2 n2 w2):be γ f w γ2 f2 n2 w2:=
 ⟨Gm.le_trans h.le k.le,k.rel,cl h.size k.size,k.os.trans h.os,k.tape.trans h.tape,k.output.trans h.output,
  fun b hb hn=>(k.frame b (jE hb h.size) (fun ho=>hn (h.own b hb ho))).trans (h.frame b hb hn),
  fun b hb ho=>h.own b hb (k.own b (jE hb h.size) ho),
  fun b q hb ho=>h.ro b q (k.ro b q hb ho) ho,
  fun b q hb=>by
   rcases k.dom b q hb with⟨q',hq'⟩|hn
   ·exact h.dom b q' hq'
   ·right
    cases hg:γ b with
    |none=>rfl
    |some p=>rw[h.le.nm b p hg]at hn;exact(nomatch hn),
  fun B x hB=>by
   rcases k.fzn B x hB with h1|h1|h1
   ·exact h.fzn B x h1
   ·exact .inr (.inl (cl h.size h1))
   ·rcases bA B w.heap.size with h2|h2
    ·exact .inr (.inr (h.own B h2 h1))
    ·exact .inr (.inl h2),
  cl h.drawn k.drawn⟩
theorem wA.heap {γ:Gm}{w w':World}{b:Nat}{k:ag}(h:wA γ w b k)(hw:w'.heap=w.heap):wA γ w' b k:=by
 obtain⟨B,x,cs,ex,h1,h2,h3⟩:=h
 exact⟨B,x,cs,ex,h1,by rw[hw];exact h2,h3⟩
theorem aJ.heap {γ:Gm}{f:Hf}{nx:Nat}{w w':World}(h:aJ γ f nx w)(hw:w'.heap=w.heap):aJ γ f nx w':=
 ⟨fun b k hb=>(h.blk b k hb).heap hw,h.inj,h.fresh,fun B x hB=>by rw[hw];exact h.fzr B x hB,h.fzo⟩
theorem aJ.sub {γ:Gm}{f f':Hf}{nx:Nat}{w:World}(h:aJ γ f nx w)(hs:∀b k,f' b=some k→f b=some k):aJ γ f' nx w:=
 ⟨fun b k hb=>h.blk b k (hs b k hb),fun b b' k k' B x x' h1 h2=>h.inj b b' k k' B x x' (hs _ _ h1) (hs _ _ h2),h.fresh,h.fzr,fun b k B x hb=>h.fzo b k B x (hs _ _ hb)⟩
theorem aJ.nx_mono {γ:Gm}{f:Hf}{nx nx':Nat}{w:World}(h:aJ γ f nx w)(hn:nx≤nx'):aJ γ f nx' w:=
 ⟨h.blk,h.inj,fun b hb=>h.fresh b (cl hn hb),h.fzr,h.fzo⟩
theorem aJ.lt {γ:Gm}{f:Hf}{nx:Nat}{w:World}(h:aJ γ f nx w){b:Nat}{k:ag}(hb:f b=some k){B x:Nat}(hg:γ b=some (B,x)):B<w.heap.size:=by
 obtain⟨B',x',cs,ex,h1,h2,_⟩:=h.blk b k hb
 rw[hg]at h1
 cases h1
 exact(eI.1 h2).1
theorem dl (B o j:Nat):(⟨B,o,none⟩:Addr).add j=⟨B,o+j,none⟩:=by
 unfold Addr.add
 split
 ·rename_i h;simp[h]
 ·rfl
theorem aJ.load {γ:Gm}{f:Hf}{nx:Nat}{w:World}(h:aJ γ f nx w){b:Nat}{k:ag}(hb:f b=some k){B x:Nat}(hg:γ b=some (B,x))(o n:Nat)(hn:o+n≤k.cells.length):
 ∃Vs,ap γ ((k.cells.drop o).take n) Vs∧Vs.length=n∧∀j v,Vs[j]? =some v→w.cell? ((⟨B,o,none⟩:Addr).add j)=some v:=by
 obtain⟨B',x',cs,ex,h1,h2,h3,_⟩:=h.blk b k hb
 rw[hg]at h1
 cases h1
 have hl:=h3.length
 refine⟨(cs.drop o).take n,(h3.drop o).take n,by simp;omega,fun j v hv=>?_⟩
 rw[dl,cell_of_row w B (o+j) _ _ _ h2]
 rw[ow]at hv
 split at hv
 ·rename_i hj
  rw[lG]at hv
  rw[ke,gg om]
  exact hv
 ·cases hv
theorem aJ.store {γ:Gm}{f:Hf}{nx:Nat}{w:World}(h:aJ γ f nx w){b:Nat}{k:ag}(hb:f b=some k)(hown:k.own=true){B x:Nat}(hg:γ b=some (B,x))(o:Nat)
 {vs:List AV}{Vs:List Value}(hv:ap γ vs Vs)(h1:vs.all AV.one=true)(hn:o+vs.length≤k.cells.length)(P:Program):
 ∃w',(storeCells ⟨B,o,none⟩ Vs).run P w=.ok () w'∧be γ f w γ (es f b (some {k with view:=.plain (k.cells.take o++vs++k.cells.drop (o+vs.length))})) nx w':=by
 obtain⟨B',x',cs,ex,g1,g2,g3,g4,g5⟩:=h.blk b k hb
 rw[hg]at g1
 cases g1
 have hl:=g3.length
 have hvl:=hv.length
 have hst:=run_storeCells_at P B o k.elem Vs 0 _ w g2 (by simp;omega) (hv.ones h1)
 refine⟨_,hst,?_⟩
 have hnew:((cs++ex).toArray.toList.take (o+0)++Vs++(cs++ex).toArray.toList.drop (o+0+Vs.length))=(cs.take o++Vs++cs.drop (o+Vs.length))++ex:=by
  simp only[fv]
  rw[rA om,List.drop_append_of_le_length om]
  simp
 rw[hnew]
 have hrow:=setRow_heap w B _ ((cs.take o++Vs++cs.drop (o+Vs.length))++ex).toArray _ _ g2
 have hoth:∀i,i≠B→(w.setRow B ((cs.take o++Vs++cs.drop (o+Vs.length))++ex).toArray).heap[i]? =w.heap[i]? :=fun i hi=>setRow_other w B i _ hi
 have hfzB:γ.fz B=none:=h.fzo b k B x hb hown hg
 refine⟨Gm.le_refl γ,⟨?_,?_,h.fresh,?_,?_⟩,si,rfl,rfl,rfl,?_,?_,?_,?_,fun _ _ h=>.inl h,bp _⟩
 ·intro b' k' hb'
  by_cases e:b'=b
  ·subst e
   rw[eU]at hb'
   cases hb'
   refine⟨B,x,_,ex,hg,hrow,?_,g4,g5⟩
   rw[hvl]
   exact((g3.take o).append hv).append (g3.drop _)
  ·rw[dj f _ e]at hb'
   obtain⟨B2,x2,cs2,ex2,q1,q2,q3⟩:=h.blk b' k' hb'
   refine⟨B2,x2,cs2,ex2,q1,?_,q3⟩
   rw[hoth B2 (fun e2=>e (h.inj b' b k' k B x2 x hb' hb (by rw[←e2];exact q1) hg))]
   exact q2
 ·intro b1 b2 k1 k2 B1 x1 x2 q1 q2 q3 q4
  have hs:∀c kc,es f b (some {k with view:=.plain (k.cells.take o++vs++k.cells.drop (o+vs.length))}) c=some kc→∃kc',f c=some kc':=by
   intro c kc hc
   by_cases e:c=b
   ·subst e;exact⟨k,hb⟩
   ·rw[dj f _ e]at hc;exact⟨kc,hc⟩
  obtain⟨_,s1⟩:=hs _ _ q1
  obtain⟨_,s2⟩:=hs _ _ q2
  exact h.inj _ _ _ _ _ _ _ s1 s2 q3 q4
 ·intro B' x' hB'
  rw[hoth B' (fun e=>by rw[e,hfzB]at hB';cases hB')]
  exact h.fzr B' x' hB'
 ·intro b' k' B' x' hb' ho hg'
  by_cases e:b'=b
  ·subst e;exact h.fzo b' k B' x' hb hown hg'
  ·rw[dj f _ e]at hb';exact h.fzo b' k' B' x' hb' ho hg'
 ·intro i hi hni
  exact hoth i (fun e=>hni (e▸⟨b,k,x,hb,hown,hg⟩))
 ·intro i hi ⟨b',k',x',q1,q2,q3⟩
  by_cases e:b'=b
  ·subst e
   exact⟨b',k,x',hb,hown,q3⟩
  ·rw[dj f _ e]at q1
   exact⟨b',k',x',q1,q2,q3⟩
 ·intro b' k' hb' ho
  by_cases e:b'=b
  ·subst e
   rw[eU]at hb'
   cases hb'
   rw[hown]at ho
   cases ho
  ·rw[dj f _ e]at hb'
   exact hb'
 ·intro b' k' hb'
  by_cases e:b'=b
  ·subst e;exact .inl ⟨k,hb⟩
  ·rw[dj f _ e]at hb'
   exact .inl ⟨k',hb'⟩
theorem aJ.new {γ:Gm}{f:Hf}{nx:Nat}{w w1:World}(h:aJ γ f nx w)(i nx':Nat)(hi:γ i=none)(hi':i<nx')(hn:nx≤nx'){vs:List AV}{Vs ex:List Value}(hv:ap γ vs Vs)(elem sz:Nat)(opn:Bool)(x:Nat)
 (hx:ex.length=x*sz)(ho:opn=false→x=0)(hw:w1.heap=w.heap)(h1:w1.os=w.os)(h2:w1.tape=w.tape)(h3:w1.output=w.output)(h4:w.drawn≤w1.drawn):
 be γ f w (γ.put i (some (w.heap.size,x))) (es f i (some ⟨.plain vs,elem,sz,opn,true⟩)) nx' (w1.alloc (.cells (Vs++ex).toArray elem)):=by
 have hfi:f i=none:=by
  cases hf:f i with
  |none=>rfl
  |some k=>
   obtain⟨B,x,cs,ex,g1,_⟩:=h.blk i k hf
   rw[hi]at g1;cases g1
 have hle:γ.le (γ.put i (some (w.heap.size,x))):=by
  refine⟨fun b p hb=>?_,fun _ _ h=>h⟩
  rw[Gm.put_other γ _ (fun e=>by rw[e,hi]at hb;cases hb)];exact hb
 have hsz:(w1.alloc (.cells (Vs++ex).toArray elem)).heap.size=w.heap.size+1:=by rw[World.size_alloc,hw]
 have hnew:(w1.alloc (.cells (Vs++ex).toArray elem)).heap[w.heap.size]? =some (.cells (Vs++ex).toArray elem):=by
  have:=heap_alloc_new w1 (.cells (Vs++ex).toArray elem)
  rw[hw]at this;exact this
 have hold:∀j,j<w.heap.size→(w1.alloc (.cells (Vs++ex).toArray elem)).heap[j]? =w.heap[j]? :=by
  intro j hj
  rw[heap_alloc_old w1 _ j (by rw[hw];exact hj),hw]
 have hfzlt:∀B y,γ.fz B=some y→B<w.heap.size:=fun B y hB=>(eI.1 (h.fzr B y hB)).1
 refine⟨hle,⟨?_,?_,?_,?_,?_⟩,by rw[hsz];omega,h1,h2,h3,fun j hj _=>hold j hj,?_,?_,?_,fun _ _ h=>.inl h,h4⟩
 ·intro b k hb
  by_cases e:b=i
  ·subst e
   rw[eU]at hb
   cases hb
   exact⟨w.heap.size,x,Vs,ex,Gm.put_same _ _ _,hnew,hv.mono hle,hx,ho⟩
  ·rw[dj f _ e]at hb
   obtain⟨B2,x2,cs2,ex2,q1,q2,q3,q4⟩:=h.blk b k hb
   refine⟨B2,x2,cs2,ex2,hle.nm _ _ q1,?_,q3.mono hle,q4⟩
   rw[hold B2 (h.lt hb q1)];exact q2
 ·intro b b' k k' B y y' q1 q2 q3 q4
  by_cases e:b=i
  ·by_cases e':b'=i
   ·rw[e,e']
   ·exfalso
    subst e
    rw[Gm.put_same]at q3
    cases q3
    rw[dj f _ e']at q2
    rw[Gm.put_other γ _ e']at q4
    exact Nat.lt_irrefl _ (h.lt q2 q4)
  ·by_cases e':b'=i
   ·exfalso
    subst e'
    rw[Gm.put_same]at q4
    cases q4
    rw[dj f _ e]at q1
    rw[Gm.put_other γ _ e]at q3
    exact Nat.lt_irrefl _ (h.lt q1 q3)
   ·rw[dj f _ e]at q1
    rw[dj f _ e']at q2
    rw[Gm.put_other γ _ e]at q3
    rw[Gm.put_other γ _ e']at q4
    exact h.inj _ _ _ _ _ _ _ q1 q2 q3 q4
 ·intro b hb
  rw[Gm.put_other γ _ om]
  exact h.fresh b om
 ·intro B y hB
  rw[hold B (hfzlt B y hB)]
  exact h.fzr B y hB
 ·intro b k B y hb ho hg
  by_cases e:b=i
  ·subst e
   rw[Gm.put_same]at hg
   cases hg
   show γ.fz w.heap.size=none
   cases hz:γ.fz w.heap.size with
   |none=>rfl
   |some y=>exact absurd (hfzlt _ _ hz) (Nat.lt_irrefl _)
  ·rw[dj f _ e]at hb
   rw[Gm.put_other γ _ e]at hg
   exact h.fzo b k B y hb ho hg
 ·intro j hj ⟨b,k,y,q1,q2,q3⟩
  by_cases e:b=i
  ·subst e
   rw[Gm.put_same]at q3
   cases q3
   exact absurd hj (Nat.lt_irrefl _)
  ·rw[dj f _ e]at q1
   rw[Gm.put_other γ _ e]at q3
   exact⟨b,k,y,q1,q2,q3⟩
 ·intro b k hb ho
  by_cases e:b=i
  ·subst e
   rw[eU]at hb
   cases hb
   cases ho
  ·rw[dj f _ e]at hb
   exact hb
 ·intro b k hb
  by_cases e:b=i
  ·subst e;exact .inr hi
  ·rw[dj f _ e]at hb
   exact .inl ⟨k,hb⟩
theorem aJ.rename {γ:Gm}{f:Hf}{nx:Nat}{w:World}(h:aJ γ f nx w){b:Nat}{k:ag}(hb:f b=some k)(hown:k.own=true){B x:Nat}(hg:γ b=some (B,x))(i nx':Nat)(hi:γ i=none)(hi':i<nx')(hn:nx≤nx')
 {vs:List AV}{Vs ex:List Value}(hv:ap γ vs Vs)(x':Nat)(hx:ex.length=x'*k.sz):
 be γ f w (γ.put i (some (B,x'))) (es (es f b none) i (some ⟨.plain vs,k.elem,k.sz,true,true⟩)) nx' (w.setRow B (Vs++ex).toArray):=by
 have hne:b≠i:=by intro e;rw[e,hi]at hg;cases hg
 have hle:γ.le (γ.put i (some (B,x'))):=by
  refine⟨fun c p hc=>?_,fun _ _ h=>h⟩
  rw[Gm.put_other γ _ (fun e=>by rw[e,hi]at hc;cases hc)];exact hc
 have hfzB:γ.fz B=none:=h.fzo b k B x hb hown hg
 obtain⟨B',y,cs,ex0,g1,g2,g3,g4,g5⟩:=h.blk b k hb
 rw[hg]at g1
 cases g1
 have hrow:=setRow_heap w B _ (Vs++ex).toArray _ _ g2
 have hoth:∀j,j≠B→(w.setRow B (Vs++ex).toArray).heap[j]? =w.heap[j]? :=fun j hj=>setRow_other w B j _ hj
 have hold:∀c kc,c≠i→es (es f b none) i (some ⟨.plain vs,k.elem,k.sz,true,true⟩) c=some kc→f c=some kc∧c≠b:=by
  intro c kc hci hc
  rw[dj _ _ hci]at hc
  by_cases e:c=b
  ·subst e;rw[eU]at hc;cases hc
  ·rw[dj f _ e]at hc;exact⟨hc,e⟩
 refine⟨hle,⟨?_,?_,?_,?_,?_⟩,si,rfl,rfl,rfl,?_,?_,?_,?_,fun _ _ h=>.inl h,bp _⟩
 ·intro c kc hc
  by_cases e:c=i
  ·subst e
   rw[eU]at hc
   cases hc
   exact⟨B,x',Vs,ex,Gm.put_same _ _ _,hrow,hv.mono hle,hx,si⟩
  ·obtain⟨hc',hcb⟩:=hold c kc e hc
   obtain⟨B2,x2,cs2,ex2,q1,q2,q3,q4⟩:=h.blk c kc hc'
   refine⟨B2,x2,cs2,ex2,hle.nm _ _ q1,?_,q3.mono hle,q4⟩
   rw[hoth B2 (fun e2=>hcb (h.inj c b kc k B x2 x hc' hb (by rw[←e2];exact q1) hg))]
   exact q2
 ·intro c c' kc kc' B1 y y' q1 q2 q3 q4
  by_cases e:c=i
  ·by_cases e':c'=i
   ·rw[e,e']
   ·exfalso
    subst e
    rw[Gm.put_same]at q3
    cases q3
    obtain⟨s1,s2⟩:=hold _ _ e' q2
    rw[Gm.put_other γ _ e']at q4
    exact s2 (h.inj _ _ _ _ _ _ _ s1 hb q4 hg)
  ·by_cases e':c'=i
   ·exfalso
    subst e'
    rw[Gm.put_same]at q4
    cases q4
    obtain⟨s1,s2⟩:=hold _ _ e q1
    rw[Gm.put_other γ _ e]at q3
    exact s2 (h.inj _ _ _ _ _ _ _ s1 hb q3 hg)
   ·obtain⟨s1,_⟩:=hold _ _ e q1
    obtain⟨s2,_⟩:=hold _ _ e' q2
    rw[Gm.put_other γ _ e]at q3
    rw[Gm.put_other γ _ e']at q4
    exact h.inj _ _ _ _ _ _ _ s1 s2 q3 q4
 ·intro c hc
  rw[Gm.put_other γ _ om]
  exact h.fresh c om
 ·intro B' y hB'
  rw[hoth B' (fun e=>by rw[e]at hB';exact absurd (hB'.symm.trans hfzB) si)]
  exact h.fzr B' y hB'
 ·intro c kc B' y hc ho hg'
  by_cases e:c=i
  ·subst e
   rw[Gm.put_same]at hg'
   cases hg'
   exact hfzB
  ·rw[Gm.put_other γ _ e]at hg'
   exact h.fzo c kc B' y (hold _ _ e hc).1 ho hg'
 ·intro j hj hnj
  exact hoth j (fun e=>hnj (e▸⟨b,k,x,hb,hown,hg⟩))
 ·intro j hj ⟨c,kc,y,q1,q2,q3⟩
  by_cases e:c=i
  ·subst e
   rw[Gm.put_same]at q3
   cases q3
   exact⟨b,k,x,hb,hown,hg⟩
  ·obtain⟨s1,_⟩:=hold _ _ e q1
   rw[Gm.put_other γ _ e]at q3
   exact⟨c,kc,y,s1,q2,q3⟩
 ·intro c kc hc ho
  by_cases e:c=i
  ·subst e
   rw[eU]at hc
   cases hc
   cases ho
  ·exact(hold _ _ e hc).1
 ·intro c kc hc
  by_cases e:c=i
  ·subst e;exact .inr hi
  ·exact .inl ⟨kc,(hold _ _ e hc).1⟩
def kF (p f:Hf):Hf:=fun b=>match p b with|some k=>some k|none=>f b
theorem gk {p f:Hf}{b:Nat}{k:ag}(h:p b=some k):kF p f b=some k:=by simp[kF,h]
theorem jM {p f:Hf}{b:Nat}(h:p b=none):kF p f b=f b:=by simp[kF,h]
theorem aJ.frame {γ γ':Gm}{f f' p:Hf}{nx nx':Nat}{w w':World}(hu:aJ γ (kF p f) nx w)(hp:∀b k,p b=some k→k.own=true∧f b=none)(h:be γ f w γ' f' nx' w'):
 be γ (kF p f) w γ' (kF p f') nx' w':=by
 have hf:∀b k,f b=some k→kF p f b=some k:=by
  intro b k hb
  cases hpb:p b with
  |none=>rw[jM hpb];exact hb
  |some k'=>have:=(hp b k' hpb).2;rw[hb]at this;cases this
 have hfb:∀b k,p b=some k→f' b=none:=by
  intro b k hb
  cases hfb:f' b with
  |none=>rfl
  |some k'=>
   exfalso
   rcases h.dom b k' hfb with⟨k'',hk⟩|hn
   ·rw[(hp b k hb).2]at hk;cases hk
   ·obtain⟨B,x,cs,ex,g1,_⟩:=hu.blk b k (gk hb)
    rw[hn]at g1;cases g1
 have hpk:∀b k B x,p b=some k→γ b=some (B,x)→B<w.heap.size∧¬eQ γ f B:=by
  intro b k B x hb hg
  refine⟨hu.lt (b:=b) (k:=k) (gk hb) hg,?_⟩
  rintro⟨b2,k2,x2,q1,q2,q3⟩
  have:=hu.inj b b2 k k2 B x x2 (gk hb) (hf _ _ q1) hg q3
  subst this
  rw[(hp b k hb).2]at q1
  cases q1
 have hOwn:∀k,eQ γ f k→eQ γ (kF p f) k:=by
  rintro k ⟨b,kk,x,q1,q2,q3⟩
  exact⟨b,kk,x,hf _ _ q1,q2,q3⟩
 refine⟨h.le,⟨?_,?_,h.rel.fresh,h.rel.fzr,?_⟩,h.size,h.os,h.tape,h.output,fun k hk hn=>h.frame k hk (fun ho=>hn (hOwn k ho)),?_,?_,?_,fun B x hB=>(h.fzn B x hB).imp id (Or.imp id (hOwn B)),h.drawn⟩
 ·intro b k hb
  cases hpb:p b with
  |none=>
   rw[jM hpb]at hb
   exact h.rel.blk b k hb
  |some k'=>
   rw[gk hpb]at hb
   cases hb
   obtain⟨B,x,cs,ex,g1,g2,g3,g4⟩:=hu.blk b k (gk hpb)
   obtain⟨r1,r2⟩:=hpk b k B x hpb g1
   exact⟨B,x,cs,ex,h.le.nm _ _ g1,by rw[h.frame B r1 r2];exact g2,g3.mono h.le,g4⟩
 ·intro b b' k k' B x x' q1 q2 q3 q4
  have cross:∀b b' k k' x x',p b=some k→p b'=none→f' b'=some k'→γ' b=some (B,x)→γ' b'=some (B,x')→False:=by
   intro b b' k k' x x' hb hb' hf' g g'
   obtain⟨B0,x0,cs,ex,g1,_⟩:=hu.blk b k (gk hb)
   have:=h.le.nm _ _ g1
   rw[g]at this
   cases this
   obtain⟨r1,r2⟩:=hpk b k B x hb g1
   cases ho:k'.own with
   |true=>exact r2 (h.own B r1 ⟨b',k',x',hf',ho,g'⟩)
   |false=>
    have hfb':=h.ro b' k' hf' ho
    obtain⟨B1,x1,cs1,ex1,g2,_⟩:=hu.blk b' k' (hf _ _ hfb')
    have:=h.le.nm _ _ g2
    rw[g']at this
    cases this
    have:=hu.inj b b' k k' B x x' (gk hb) (hf _ _ hfb') g1 g2
    subst this
    rw[hb]at hb'
    cases hb'
  cases hpb:p b with
  |none=>
   rw[jM hpb]at q1
   cases hpb':p b' with
   |none=>
    rw[jM hpb']at q2
    exact h.rel.inj b b' k k' B x x' q1 q2 q3 q4
   |some k2=>exact(cross b' b k2 k x' x hpb' hpb q1 q4 q3).elim
  |some k1=>
   cases hpb':p b' with
   |none=>
    rw[jM hpb']at q2
    exact(cross b b' k1 k' x x' hpb hpb' q2 q3 q4).elim
   |some k2=>
    obtain⟨B0,x0,cs,ex,g1,_⟩:=hu.blk b k1 (gk hpb)
    obtain⟨B1,x1,cs1,ex1,g2,_⟩:=hu.blk b' k2 (gk hpb')
    have e1:=h.le.nm _ _ g1
    rw[q3]at e1
    cases e1
    have e2:=h.le.nm _ _ g2
    rw[q4]at e2
    cases e2
    exact hu.inj b b' k1 k2 B x x' (gk hpb) (gk hpb') g1 g2
 ·intro b k B x hb ho hg
  cases hpb:p b with
  |none=>
   rw[jM hpb]at hb
   exact h.rel.fzo b k B x hb ho hg
  |some k1=>
   rw[gk hpb]at hb
   cases hb
   obtain⟨B0,x0,cs,ex,g1,_⟩:=hu.blk b k (gk hpb)
   have e1:=h.le.nm _ _ g1
   rw[hg]at e1
   cases e1
   obtain⟨r1,r2⟩:=hpk b k B x hpb g1
   cases hz:γ'.fz B with
   |none=>rfl
   |some y=>
    rcases h.fzn B y hz with h1|h1|h1
    ·rw[hu.fzo b k B x (gk hpb) ho g1]at h1;cases h1
    ·omega
    ·exact(r2 h1).elim
 ·intro k hk ⟨b,kk,x,q1,q2,q3⟩
  cases hpb:p b with
  |none=>
   rw[jM hpb]at q1
   exact hOwn k (h.own k hk ⟨b,kk,x,q1,q2,q3⟩)
  |some k1=>
   rw[gk hpb]at q1
   cases q1
   obtain⟨B0,x0,cs,ex,g1,_⟩:=hu.blk b kk (gk hpb)
   have e1:=h.le.nm _ _ g1
   rw[q3]at e1
   cases e1
   exact⟨b,kk,x,gk hpb,q2,g1⟩
 ·intro b k hb ho
  cases hpb:p b with
  |none=>
   rw[jM hpb]at hb⊢
   exact h.ro b k hb ho
  |some k1=>
   rw[gk hpb]at hb⊢
   exact hb
 ·intro b k hb
  cases hpb:p b with
  |none=>
   rw[jM hpb]at hb⊢
   exact h.dom b k hb
  |some k1=>
   exact .inl ⟨k1,gk hpb⟩
def vE:Value→Option AV
 |.bool b=>some (.bool b)
 |.int k n=>some (.int k n)
 |.string s=>some (.str s)
 |.pointer none=>some .nilp
 |.slice none 0 0=>some .nils
 |.nilFunc=>some .nilfn
 |.nilIface=>some .nilif
 |_=>none
def sE:List Value→Option (List AV)
 |[]=>some []
 |v::l=>
  match vE v with
  |none=>none
  |some x=>match sE l with
   |none=>none
   |some xs=>some (x::xs)
def sX:Value→Option AV
 |.agg ⟨l⟩=>match sE l with
  |none=>none
  |some vs=>some (.agg vs)
 |.tuple ⟨[]⟩=>some (.tup [])
 |v=>vE v
theorem Dr (γ:Gm){V:Value}{v:AV}(h:vE V=some v):aj γ v V:=by
 unfold vE at h
 split at h<;>cases h
 ·exact .bool _
 ·exact .int _ _
 ·exact .str _
 ·exact .nilp
 ·exact .nils
 ·exact .nilfn
 ·exact .nilif
theorem Na (γ:Gm){Vs:List Value}{vs:List AV}(h:sE Vs=some vs):ap γ vs Vs:=by
 induction Vs generalizing vs with
 |nil=>simp[sE]at h;subst h;exact .nil
 |cons V Vs ih=>
  simp only[sE]at h
  split at h
  ·cases h
  ·rename_i x hx
   split at h
   ·cases h
   ·rename_i xs hxs
    cases h
    exact .cons (Dr γ hx) (ih hxs)
theorem uV (γ:Gm){V:Value}{v:AV}(h:sX V=some v):aj γ v V:=by
 unfold sX at h
 split at h
 ·split at h
  ·cases h
  ·rename_i vs hvs
   cases h
   exact .agg (Na γ hvs)
 ·cases h;exact .tup .nil
 ·exact Dr γ h
def lQ:Sem Value→Option AV
 |.pure v=>sX v
 |_=>none
theorem nq (γ:Gm){s:Sem Value}{v:AV}(h:lQ s=some v):∃V,s=.pure V∧aj γ v V:=by
 unfold lQ at h
 split at h
 ·exact⟨_,rfl,uV γ h⟩
 ·cases h
section tables
variable (ti:Tr TypeInfo)
def bN (t:Nat):Option TypeDesc:=
 match ti.get t with
 |none=>none
 |some i=>match i.desc with
  |.named _ u=>match ti.get u with
   |some j=>some j.desc
   |none=>none
  |d=>some d
def gq:TypeDesc→Bool
 |.struct _=>true
 |.array _ _=>true
 |_=>false
def cC (t:Nat):Option Nat:=match ti.get t with
 |none=>none
 |some i=>some i.size
end tables
def dL (P:Program)(ti:Tr TypeInfo):Prop:=∀t i,ti.get t=some i→P.info? t=some i
section
variable {P:Program}{ti:Tr TypeInfo}(ht:dL P ti)
include ht
theorem il {t:Nat}{d:TypeDesc}(h:bN ti t=some d):P.underlying t=some d:=by
 unfold bN at h
 unfold Program.underlying
 split at h
 ·cases h
 ·rename_i i hi
  rw[ht t i hi]
  obtain⟨desc,_⟩:=i
  cases desc<;>simp only[]at h⊢ <;>try exact h
  rename_i n u
  split at h
  ·rename_i j hj
   rw[ht u j hj]
   exact h
  ·cases h
theorem bF {t:Nat}{d:TypeDesc}(h:bN ti t=some d)(w:World):(underlying t).run P w=.ok d w:=
 run_underlying (il ht h) w
theorem oV {t:Nat}{d:TypeDesc}(h:bN ti t=some d)(w:World):(isAgg t).run P w=.ok (gq d) w:=by
 simp only[isAgg,Sem.run_bind,bF ht h w,Result.andThen_ok]
 cases d<;>rfl
theorem kg {t n:Nat}(h:cC ti t=some n):∃i,P.info? t=some i∧i.size=n:=by
 unfold cC at h
 split at h
 ·cases h
 ·rename_i i hi;cases h;exact⟨i,ht _ _ hi,rfl⟩
theorem di {t n:Nat}(h:cC ti t=some n)(w:World):(sizeOf t).run P w=.ok n w:=by
 obtain⟨i,hi,rfl⟩:=kg ht h
 simp[sizeOf,typeInfo,hi]
end
def sY (ti:Tr TypeInfo)(h:Tr ag)(t:Nat)(x:AV):Option AV:=
 match x with
 |.ptr b o=>
  match h.get b with
  |none=>none
  |some k=>
   match bN ti t with
   |none=>none
   |some d=>
    bif gq d then
     match cC ti t with
     |none=>none
     |some n=>bif Nat.ble (o+n) k.cells.length then some (.agg ((k.cells.drop o).take n))else none
    else(k.cells.drop o).head?
 |_=>none
theorem Ee {P:Program}{ti:Tr TypeInfo}(ht:dL P ti){γ:Gm}{h:Tr ag}{nx:Nat}{w:World}(hr:aJ γ h.get nx w){t:Nat}{x v:AV}{X:Value}(hx:aj γ x X)(hq:sY ti h t x=some v):
 ∃V a,X=.pointer (some a)∧(loadVar t a).run P w=.ok V w∧aj γ v V:=by
 cases hx with
 |ptr o hg=>
  rename_i b B x
  simp only[sY]at hq
  cases hk:h.get b with
  |none=>simp[hk]at hq
  |some k=>
   simp only[hk]at hq
   cases hd:bN ti t with
   |none=>simp[hd]at hq
   |some d=>
    simp only[hd]at hq
    cases hag:gq d with
    |true=>
     simp only[hag,aU]at hq
     cases hs:cC ti t with
     |none=>simp[hs]at hq
     |some n=>
      simp only[hs]at hq
      cases hb:Nat.ble (o+n) k.cells.length with
      |false=>simp[hb]at hq
      |true=>
       simp only[hb,aU,bv]at hq
       subst hq
       obtain⟨Vs,h1,h2,h3⟩:=hr.load hk hg o n (aT hb)
       have hl:=run_loadCells_list (P:=P) w ⟨B,o,none⟩ Vs h3
       rw[h2]at hl
       refine⟨.agg Vs.toArray,_,rfl,?_,.agg h1⟩
       simp[loadVar,oV ht hd,hag,di ht hs,hl]
    |false=>
     simp only[hag,bt,oz]at hq
     have hlt:o<k.cells.length:=by
      rcases bA o k.cells.length with h'|h'
      ·exact h'
      ·rw[jD h']at hq;cases hq
     obtain⟨Vs,h1,h2,h3⟩:=hr.load hk hg o 1 hlt
     have e:(k.cells.drop o).take 1=[v]:=by
      rw[List.take_one,oz,hq];rfl
     rw[e]at h1
     cases h1 with
     |cons hv ht'=>
      rename_i V Vs'
      have h4:=h3 0 V si
      rw[dl,fv]at h4
      refine⟨V,_,rfl,?_,hv⟩
      simp[loadVar,oV ht hd,hag,h4]
 |_=>simp[sY]at hq
def vZ (ti:Tr TypeInfo)(t:Nat)(cs:List AV)(off:Nat):Option AV:=
 match bN ti t with
 |none=>none
 |some d=>
  bif gq d then
   match cC ti t with
   |none=>none
   |some n=>some (.agg ((cs.drop off).take n))
  else(cs.drop off).head?
theorem Ef {P:Program}{ti:Tr TypeInfo}(ht:dL P ti){γ:Gm}{w:World}{t:Nat}{cs:List AV}{Cs:List Value}(hc:ap γ cs Cs){off:Nat}{v:AV}(hq:vZ ti t cs off=some v):
 ∃V,(part t Cs.toArray off).run P w=.ok V w∧aj γ v V:=by
 unfold vZ at hq
 cases hd:bN ti t with
 |none=>simp[hd]at hq
 |some d=>
  simp only[hd]at hq
  cases hag:gq d with
  |true=>
   simp only[hag,aU]at hq
   cases hs:cC ti t with
   |none=>simp[hs]at hq
   |some n=>
    simp only[hs,bv]at hq
    subst hq
    refine⟨.agg ((Cs.drop off).take n).toArray,?_,.agg ((hc.drop off).take n)⟩
    simp only[part,Sem.run_bind,oV ht hd,hag,Result.andThen_ok,fx,di ht hs,Sem.run_pure]
    congr 2
    apply Array.ext'
    simp[List.take_drop,Nat.add_comm]
  |false=>
   simp only[hag,bt,oz]at hq
   rcases hc.get off with⟨h1,h2⟩|⟨u,U,h1,h2,h3⟩
   ·rw[h1]at hq;cases hq
   ·rw[h1]at hq
    cases hq
    refine⟨U,?_,h3⟩
    simp[part,oV ht hd,hag,h2]
def pV (d:TypeDesc)(x y:AV):Option Bool:=
 match d,x,y with
 |.bool,.bool a,.bool b=>some (a==b)
 |.int _,.int k a,.int k' b=>if k=k' then some (a==b)else none
 |.string,.str a,.str b=>some (a==b)
 |.pointer _,.nilp,.nilp=>some true
 |.pointer _,.nilp,.ptr _ _=>some false
 |.pointer _,.ptr _ _,.nilp=>some false
 |.slice _,.nils,.nils=>some true
 |.slice _,.nils,.slc _ _ _ _=>some false
 |.slice _,.slc _ _ _ _,.nils=>some false
 |.func _ _ _,.nilfn,.nilfn=>some true
 |.func _ _ _,.nilfn,.fn _ _=>some false
 |.func _ _ _,.fn _ _,.nilfn=>some false
 |.interface _,.nilif,.nilif=>some true
 |.interface _,.nilif,.ifc _ _=>some false
 |.interface _,.ifc _ _,.nilif=>some false
 |_,_,_=>none
theorem LF {P:Program}{ti:Tr TypeInfo}(ht:dL P ti){γ:Gm}(w:World){t:Nat}{d:TypeDesc}(hd:bN ti t=some d){x y:AV}{X Y:Value}(hx:aj γ x X)(hy:aj γ y Y){b:Bool}(hq:pV d x y=some b)(n:Nat):
 (Op.equalIn (n+1) t X Y).run P w=.ok b w:=by
 unfold pV at hq
 split at hq
 all_goals first
  |(cases hq;done)
  |skip
 all_goals
  cases hx;cases hy
  simp only[Op.equalIn,Sem.run_bind,bF ht hd,Result.andThen_ok]
 all_goals first
  |(cases hq;rfl)
  |(split at hq<;>first|(cases hq;done)|(rename_i hk;subst hk;cases hq;simp))
section
variable {P:Program}{ti:Tr TypeInfo}(ht:dL P ti){γ:Gm}(w:World)
theorem Fg {a b:Nat}(h:Nat.beq a b=true):a=b:=co h
def kZ:Operand→Bool
 |.const _=>true
 |_=>false
def vY (ti:Tr TypeInfo)(t:Nat)(xo yo:Operand)(x y:AV):Option Bool:=
 match x,y with
 |.int _ _,_=>none
 |.str _,_=>none
 |.nilif,.nilif=>bif kZ xo||kZ yo then(match bN ti t with|none=>none|some d=>pV d .nilif .nilif)else none
 |.ptr b o,.ptr b' o'=>match bN ti t with
  |some (.pointer el)=>match cC ti el with
   |some (_+1)=>bif Nat.beq b b' then some (Nat.beq o o')else none
   |_=>none
  |_=>none
 |x,y=>match bN ti t with
  |none=>none
  |some d=>pV d x y
def wF (ti:Tr TypeInfo)(op:BinOp)(t:Nat)(xo yo:Operand)(x y:AV):Option AV:=
 match x,y with
 |.int k a,.int k' b=>lQ (binOp op t (.int k a) (.int k' b))
 |.str a,.str b=>lQ (binOp op t (.string a) (.string b))
 |x,y=>match op with
  |.eql=>match vY ti t xo yo x y with
   |none=>none
   |some b=>some (.bool b)
  |.neq=>match vY ti t xo yo x y with
   |none=>none
   |some b=>some (.bool (!b))
  |_=>none
include ht in
theorem D7 {op:BinOp}{t:Nat}{xo yo:Operand}{x y:AV}{X Y:Value}(hx:aj γ x X)(hy:aj γ y Y){b:Bool}(hq:vY ti t xo yo x y=some b):
 (eqGuard op t xo yo X Y).run P w=.ok () w∧(binOp .eql t X Y).run P w=.ok (.bool b) w∧(binOp .neq t X Y).run P w=.ok (.bool (!b)) w:=by
 have key:∀d,bN ti t=some d→pV d x y=some b→(∀k n,x≠.int k n)→(∀s,x≠.str s)→(x=.nilif→y=.nilif→(kZ xo||kZ yo)=true)→
  (eqGuard op t xo yo X Y).run P w=.ok () w∧(binOp .eql t X Y).run P w=.ok (.bool b) w∧(binOp .neq t X Y).run P w=.ok (.bool (!b)) w:=by
  intro d hd hs hi hst hn
  have he:=LF ht w hd hx hy hs 9999
  have he':(Op.equal t X Y).run P w=.ok b w:=he
  unfold pV at hs
  split at hs
  all_goals first
   |(cases hs;done)
   |(exact absurd rfl (hi _ _))
   |(exact absurd rfl (hst _))
   |skip
  all_goals
   cases hx;cases hy
   refine⟨?_,?_,?_⟩
  all_goals first
   |(simp[binOp,he'];done)
   |(simp[go_sem];done)
   |skip
  ·have:=hn rfl rfl
   cases xo<;>cases yo<;>simp[kZ]at this<;>simp[go_sem]
 unfold vY at hq
 split at hq
 ·cases hq
 ·cases hq
 ·cases hc:(kZ xo||kZ yo)with
  |false=>simp[hc]at hq
  |true=>
   simp only[hc,aU]at hq
   cases hd:bN ti t with
   |none=>simp[hd]at hq
   |some d=>
    simp only[hd]at hq
    exact key d hd hq (by intros;simp) (by intros;simp) (fun _ _=>hc)
 ·rename_i c o c' o'
  cases hx with
  |ptr _ hg=>
   cases hy with
   |ptr _ hg'=>
    split at hq
    ·rename_i el hd
     split at hq
     ·rename_i n hs
      cases hb:Nat.beq c c' with
      |false=>simp[hb]at hq
      |true=>
       simp only[hb,aU,bv]at hq
       have:=Fg hb
       subst this
       rw[hg]at hg'
       cases hg'
       have hsame:∀B:Nat,(sameAddr ⟨B,o,none⟩ ⟨B,o',none⟩).run P w=.ok b w:=by
        intro B
        have e1:((⟨B,o,none⟩:Addr)==⟨B,o',none⟩)=b:=by
         rw[←hq]
         rw[Bool.eq_iff_iff]
         simp only[dx,Addr.mk.injEq,true_and,and_true]
         exact⟨fun h=>by rw[h];exact mu _,fun h=>Fg h⟩
        simp[sameAddr,e1]
       have he:∀B:Nat,(Op.equal t (.pointer (some ⟨B,o,none⟩)) (.pointer (some ⟨B,o',none⟩))).run P w=.ok b w:=by
        intro B
        have:∀d:Nat,(Op.equalIn (d+1) t (.pointer (some ⟨B,o,none⟩)) (.pointer (some ⟨B,o',none⟩))).run P w=.ok b w:=by
         intro d
         simp[Op.equalIn,bF ht hd,di ht hs,hsame]
        exact this 9999
       exact⟨by simp[go_sem],by simp[binOp,he],by simp[binOp,he]⟩
     ·cases hq
    ·cases hq
 ·rename_i h1 h2 h3 h4
  cases hd:bN ti t with
  |none=>simp[hd]at hq
  |some d=>
   simp only[hd]at hq
   exact key d hd hq (fun k n e=>h1 k n e) (fun s e=>h2 s e) (fun e1 e2=>absurd e2 (h3 e1))
include ht in
theorem Fh {op:BinOp}{t:Nat}{xo yo:Operand}{x y v:AV}{X Y:Value}(hx:aj γ x X)(hy:aj γ y Y)(hq:wF ti op t xo yo x y=some v):
 ∃V,((do eqGuard op t xo yo X Y;binOp op t X Y:Sem Value)).run P w=.ok V w∧aj γ v V:=by
 unfold wF at hq
 split at hq
 ·cases hx;cases hy
  obtain⟨V,h1,h2⟩:=nq γ hq
  exact⟨V,by simp[go_sem,h1],h2⟩
 ·cases hx;cases hy
  obtain⟨V,h1,h2⟩:=nq γ hq
  exact⟨V,by simp[go_sem,h1],h2⟩
 ·split at hq
  ·split at hq
   ·cases hq
   ·rename_i b hb
    cases hq
    obtain⟨g1,g2,g3⟩:=D7 (P:=P) ht w (op:=.eql) hx hy hb
    exact⟨_,by simp only[Sem.run_bind,g1,Result.andThen_ok,g2],.bool b⟩
  ·split at hq
   ·cases hq
   ·rename_i b hb
    cases hq
    obtain⟨g1,g2,g3⟩:=D7 (P:=P) ht w (op:=.neq) hx hy hb
    exact⟨_,by simp only[Sem.run_bind,g1,Result.andThen_ok,g3],.bool (!b)⟩
  ·cases hq
def xz (op:UnOp)(x:AV):Option AV:=
 match x with
 |.int k n=>lQ (Op.unary op (.int k n))
 |.bool b=>lQ (Op.unary op (.bool b))
 |_=>none
theorem Gq {op:UnOp}{x v:AV}{X:Value}(hx:aj γ x X)(hq:xz op x=some v):∃V,(Op.unary op X).run P w=.ok V w∧aj γ v V:=by
 unfold xz at hq
 split at hq
 ·cases hx
  obtain⟨V,h1,h2⟩:=nq γ hq
  exact⟨V,by rw[h1];rfl,h2⟩
 ·cases hx
  obtain⟨V,h1,h2⟩:=nq γ hq
  exact⟨V,by rw[h1];rfl,h2⟩
 ·cases hq
def AM (ti:Tr TypeInfo)(lz:Nat→Nat→Nat→Nat→Bool)(h:Tr ag)(src dst:Nat)(x:AV):Option AV:=
 match bN ti src,bN ti dst,x with
 |some _,some (.int k),.int _ n=>some (.int k (k.wrap n))
 |some _,some .string,.str s=>some (.str s)
 |some (.pointer t),some .unsafePointer,.ptr b o=>match cC ti t with
  |some (_+1)=>match h.get b with
   |none=>none
   |some k=>bif Nat.blt o k.cells.length then some (.ptr b o)else none
  |_=>none
 |some .unsafePointer,some (.pointer u),.ptr b o=>match cC ti u with
  |none=>none
  |some _=>match h.get b with
   |none=>none
   |some k=>bif !k.opn&&lz k.elem k.cells.length o u then some (.ptr b o)else none
 |_,_,_=>none
def qy (P:Program)(lz:Nat→Nat→Nat→Nat→Bool):Prop:=∀e n o u,lz e n o u=true→liesAt P P.depth e (n/P.cellsOf e) o u 1=true
include ht in
theorem Oz {lz:Nat→Nat→Nat→Nat→Bool}(hlz:qy P lz){h:Tr ag}{nx:Nat}(hr:aJ γ h.get nx w){src dst:Nat}{x v:AV}{X:Value}(hx:aj γ x X)(hq:AM ti lz h src dst x=some v):∃V,(convert src dst X).run P w=.ok V w∧aj γ v V:=by
 unfold AM at hq
 split at hq
 ·rename_i d k k' n h1 h2
  cases hx
  cases hq
  exact⟨_,by simp[convert,bF ht h1,bF ht h2,Conv.intToInt],.int _ _⟩
 ·rename_i d s h1 h2
  cases hx
  cases hq
  exact⟨_,by simp[convert,bF ht h1,bF ht h2],.str _⟩
 ·rename_i t b o h1 h2
  cases hx with
  |ptr _ hg=>
   rename_i B y
   split at hq
   ·rename_i n hs
    split at hq
    ·cases hq
    ·rename_i k hk
     cases hb:Nat.blt o k.cells.length with
     |false=>simp[hb]at hq
     |true=>
      simp only[hb,aU,bv]at hq
      subst hq
      have hlt:o<k.cells.length:=aT hb
      obtain⟨B',x',cs,ex,g1,g2,g3,g4,g5⟩:=hr.blk b k hk
      rw[hg]at g1
      cases g1
      obtain⟨i,i1,i2⟩:=kg ht hs
      have hl:=g3.length
      have:=Lib.run_to_unsafe (P:=P) w (src:=src) (dst:=dst) (e:=k.elem) (cells:=(cs++ex).length) ⟨B,o,none⟩ (il ht h1) (il ht h2) i1 om (by simp[World.shape?,g2]) (by simp;omega)
      exact⟨_,this,.ptr _ hg⟩
   ·cases hq
 ·rename_i u b o h1 h2
  cases hx with
  |ptr _ hg=>
   rename_i B y
   split at hq
   ·cases hq
   ·rename_i n hs
    split at hq
    ·cases hq
    ·rename_i k hk
     cases hb:(!k.opn&&lz k.elem k.cells.length o u)with
     |false=>simp[hb]at hq
     |true=>
      simp only[hb,aU,bv]at hq
      subst hq
      simp only[bj,mp]at hb
      obtain⟨hb1,hb2⟩:=hb
      obtain⟨B',x',cs,ex,g1,g2,g3,g4,g5⟩:=hr.blk b k hk
      rw[hg]at g1
      cases g1
      have hy:=g5 hb1
      subst hy
      have hex:ex=[]:=kP (by simpa using g4)
      subst hex
      obtain⟨i,i1,i2⟩:=kg ht hs
      have hl:=g3.length
      have:=Lib.run_from_unsafe (P:=P) w (src:=src) (dst:=dst) (e:=k.elem) (cells:=k.cells.length) ⟨B,o,none⟩ (il ht h1) (il ht h2) i1 (by simp[World.shape?,g2,hl]) (hlz _ _ _ _ hb2)
      exact⟨_,this,.ptr _ hg⟩
 ·cases hq
def AN (x:AV):Option AV:=
 match x with
 |.nils=>some .nilp
 |.slc b o _ (_+1)=>some (.ptr b o)
 |_=>none
theorem OA {x v:AV}{X:Value}(hx:aj γ x X)(hq:AN x=some v)(ts:Array TypeId)(ty:TypeId):∃V,(Builtin.unsafeSliceData_ ts ty #[X]).run P w=.ok V w∧aj γ v V:=by
 unfold AN at hq
 split at hq
 ·cases hq;cases hx;exact⟨_,rfl,.nilp⟩
 ·cases hq
  cases hx with
  |slc _ _ _ hg=>exact⟨_,Lib.run_unsafeSliceData_row w ts ty _ _ _ om,.ptr _ hg⟩
 ·cases hq
def x9 (ti:Tr TypeInfo)(s:Nat)(x:AV)(f:Nat):Option AV:=
 match x with
 |.ptr b o=>match bN ti s with
  |some (.struct fields)=>match fields[f]? with
   |none=>none
   |some fd=>match cC ti fd.type with
    |some (_+1)=>some (.ptr b (o+fd.offset))
    |_=>none
  |_=>none
 |_=>none
include ht in
theorem Lt {s f:Nat}{x v:AV}{X:Value}(hx:aj γ x X)(hq:x9 ti s x f=some v):∃V,(Instr.fieldAt s X f).run P w=.ok V w∧aj γ v V:=by
 unfold x9 at hq
 split at hq
 ·rename_i b o
  cases hx with
  |ptr _ hg=>
   split at hq
   ·rename_i fields hd
    split at hq
    ·cases hq
    ·rename_i fd hf
     split at hq
     ·rename_i n hs
      cases hq
      refine⟨_,?_,.ptr _ hg⟩
      simp[Instr.fieldAt,bF ht hd,hf,Instr.sureAddr,fieldPlace,di ht hs,dl]
     ·cases hq
   ·cases hq
 ·cases hq
def zW (ti:Tr TypeInfo)(s:Nat)(x:AV)(f:Nat):Option AV:=
 match x with
 |.agg cs=>match bN ti s with
  |some (.struct fields)=>match fields[f]? with
   |none=>none
   |some fd=>vZ ti fd.type cs fd.offset
  |_=>none
 |_=>none
include ht in
theorem M3 {s f:Nat}{x v:AV}{X:Value}(hx:aj γ x X)(hq:zW ti s x f=some v):∃V,(Instr.field s X f).run P w=.ok V w∧aj γ v V:=by
 unfold zW at hq
 split at hq
 ·rename_i cs
  cases hx with
  |agg hc=>
   split at hq
   ·rename_i fields hd
    split at hq
    ·cases hq
    ·rename_i fd hf
     obtain⟨V,h1,h2⟩:=Ef ht (w:=w) hc hq
     exact⟨V,by simp[Instr.field,bF ht hd,hf,asAgg,h1],h2⟩
   ·cases hq
 ·cases hq
def ya (ti:Tr TypeInfo)(t:Nat)(x i:AV):Option AV:=
 match i with
 |.int _ j=>
  match bN ti t with
  |some (.slice e)=>match x with
   |.slc b o n _=>match cC ti e with
    |none=>none
    |some z=>if 0≤j∧j<n then some (.ptr b (o+j.toNat*z))else none
   |_=>none
  |some (.array len e)=>match x with
   |.ptr b o=>match cC ti e with
    |none=>none
    |some z=>if 0≤j∧j<len then some (.ptr b (o+j.toNat*z))else none
   |_=>none
  |_=>none
 |_=>none
include ht in
theorem Lu {t:Nat}{x i v:AV}{X I:Value}(hx:aj γ x X)(hi:aj γ i I)(hq:ya ti t x i=some v):∃V,(Instr.indexAt t X I).run P w=.ok V w∧aj γ v V:=by
 unfold ya at hq
 split at hq
 ·rename_i k j
  cases hi
  split at hq
  ·rename_i e hd
   split at hq
   ·rename_i b o n c
    cases hx with
    |slc _ _ _ hg=>
     split at hq
     ·cases hq
     ·rename_i z hz
      split at hq
      ·rename_i hj
       cases hq
       refine⟨_,?_,.ptr _ hg⟩
       simp[Instr.indexAt,asIntOf,bF ht hd,di ht hz,hj,dl]
      ·cases hq
   ·cases hq
  ·rename_i len e hd
   split at hq
   ·rename_i b o
    cases hx with
    |ptr _ hg=>
     split at hq
     ·cases hq
     ·rename_i z hz
      split at hq
      ·rename_i hj
       cases hq
       refine⟨_,?_,.ptr _ hg⟩
       simp[Instr.indexAt,asIntOf,bF ht hd,di ht hz,hj,dl,Instr.sureAddr]
      ·cases hq
   ·cases hq
  ·cases hq
 ·cases hq
def zX (ti:Tr TypeInfo)(t:Nat)(x i:AV):Option AV:=
 match i with
 |.int _ j=>
  match bN ti t,x with
  |some (.array len e),.agg cs=>match cC ti e with
   |none=>none
   |some z=>if 0≤j∧j<len then vZ ti e cs (j.toNat*z)else none
  |some .string,.str s=>if 0≤j then(match s[j.toNat]? with|some b=>some (.int .u8 b.toNat)|none=>none)else none
  |_,_=>none
 |_=>none
include ht in
theorem M4 {t:Nat}{x i v:AV}{X I:Value}(hx:aj γ x X)(hi:aj γ i I)(hq:zX ti t x i=some v):∃V,(Instr.index t X I).run P w=.ok V w∧aj γ v V:=by
 unfold zX at hq
 split at hq
 ·rename_i k j
  cases hi
  split at hq
  ·rename_i len e cs hd
   cases hx with
   |agg hc=>
    split at hq
    ·cases hq
    ·rename_i z hz
     split at hq
     ·rename_i hj
      obtain⟨V,h1,h2⟩:=Ef ht (w:=w) hc hq
      exact⟨V,by simp[Instr.index,asIntOf,bF ht hd,hj,di ht hz,h1],h2⟩
     ·cases hq
  ·rename_i s hd
   cases hx
   split at hq
   ·rename_i hj
    split at hq
    ·rename_i b hb
     cases hq
     exact⟨_,by simp[Instr.index,asIntOf,bF ht hd,hj,hb],.int _ _⟩
    ·cases hq
   ·cases hq
  ·cases hq
 ·cases hq
def yN (x:AV)(i:Nat):Option AV:=
 match x with
 |.tup vs=>vs[i]?
 |_=>none
theorem LS {x v:AV}{i:Nat}{X:Value}(hx:aj γ x X)(hq:yN x i=some v):∃V,(Instr.extract X i).run P w=.ok V w∧aj γ v V:=by
 unfold yN at hq
 split at hq
 ·cases hx with
  |tup hv=>
   rcases hv.get i with⟨h1,h2⟩|⟨u,U,h1,h2,h3⟩
   ·rw[h1]at hq;cases hq
   ·rw[h1]at hq
    cases hq
    exact⟨U,by simp[Instr.extract,h2],h3⟩
 ·cases hq
def Bc (ti:Tr TypeInfo)(t:Nat)(x:AV):Option AV:=
 match bN ti t,x with
 |some .string,.str s=>some (.int .i64 s.size)
 |some (.array n _),_=>some (.int .i64 n)
 |some (.slice _),.slc _ _ n _=>some (.int .i64 n)
 |some (.slice _),.nils=>some (.int .i64 0)
 |some (.slice _),.emp=>some (.int .i64 0)
 |some (.slice _),.zer=>some (.int .i64 0)
 |_,_=>none
include ht in
theorem P8 {t ty:Nat}{ts:Array TypeId}(hts:ts[0]? =some t){x v:AV}{X:Value}{Xs:Array Value}(hXs:Xs[0]? =some X)(hx:aj γ x X)(hq:Bc ti t x=some v):
 ∃V,(Builtin.len_ ts ty Xs).run P w=.ok V w∧aj γ v V:=by
 unfold Bc at hq
 split at hq
 ·rename_i s hd
  cases hx;cases hq
  exact⟨_,by simp[Builtin.len_,hts,hXs,bF ht hd,goInt],.int _ _⟩
 ·rename_i n e _ hd
  cases hq
  exact⟨_,by simp[Builtin.len_,hts,hXs,bF ht hd,goInt],.int _ _⟩
 ·rename_i e b o n c hd
  cases hx;cases hq
  exact⟨_,by simp[Builtin.len_,hts,hXs,bF ht hd,goInt],.int _ _⟩
 ·rename_i e hd
  cases hx;cases hq
  exact⟨_,by simp[Builtin.len_,hts,hXs,bF ht hd,goInt],.int _ _⟩
 ·rename_i e hd
  cases hx;cases hq
  exact⟨_,by simp[Builtin.len_,hts,hXs,bF ht hd,goInt],.int _ _⟩
 ·rename_i e hd
  cases hx;cases hq
  exact⟨_,by simp[Builtin.len_,hts,hXs,bF ht hd,goInt],.int _ _⟩
 ·cases hq
end
def cG (γ:Gm):Option AV→Option Value→Prop
 |none,none=>True
 |some v,some V=>aj γ v V
 |_,_=>False
def bnd (x:Option AV)(d y:Nat):Option Nat:=
 match x with
 |none=>some d
 |some (.int _ i)=>if 0≤i∧i≤y then some i.toNat else none
 |some _=>none
section
variable {P:Program}{ti:Tr TypeInfo}(ht:dL P ti){γ:Gm}(w:World)
theorem mA {i:Int}{k:IntKind}{y Y:Nat}{code:BoundsCode}(h:0≤i∧i≤y)(hy:y≤Y):(Instr.sliceBound (.int k i) Y code).run P w=.ok i.toNat w:=by
 have:i≤Y:=by omega
 simp[Instr.sliceBound,asIntOf,h.1,this]
theorem sC {x:Option AV}{X:Option Value}(h:cG γ x X){d y r:Nat}(hb:bnd x d y=some r):(X=none∧r=d)∨∃k i,X=some (.int k i)∧(0≤i∧i≤y)∧r=i.toNat:=by
 cases x with
 |none=>cases X with
  |none=>simp[bnd]at hb;exact .inl ⟨rfl,hb.symm⟩
  |some V=>simp[cG]at h
 |some v=>cases X with
  |none=>simp[cG]at h
  |some V=>
   simp only[cG]at h
   cases v<;>simp[bnd]at hb
   rename_i k i
   cases h
   exact .inr ⟨k,i,rfl,hb.1,hb.2.symm⟩
theorem uw {sl:Bool}{lo hi:Option AV}{LO HI:Option Value}(hl:cG γ lo LO)(hh:cG γ hi HI){n c x e l:Nat}(h1:bnd hi n c=some e)(h2:bnd lo 0 e=some l):
 (Instr.sliceBounds sl n (c+x) LO HI none).run P w=.ok (l,e,c+x) w:=by
 rcases sC hh h1 with⟨rfl,rfl⟩|⟨k,i,rfl,hi2,rfl⟩<;>rcases sC hl h2 with⟨rfl,rfl⟩|⟨k',i',rfl,hi',rfl⟩
 ·simp[Instr.sliceBounds]
 ·simp[Instr.sliceBounds,mA (P:=P) w hi' (bp _)]
 ·simp[Instr.sliceBounds,mA (P:=P) w hi2 (mn c x)]
 ·simp[Instr.sliceBounds,mA (P:=P) w hi2 (mn c x),mA (P:=P) w hi' (bp _)]
theorem Ci {sl:Bool}{lo:Option AV}{LO:Option Value}(hl:cG γ lo LO){kh km:IntKind}{jh jm:Int}{n c e l m:Nat}(hm:bnd (some (.int km jm)) 0 c=some m)(h1:bnd (some (.int kh jh)) 0 m=some e)(h2:bnd lo 0 e=some l)(x:Nat):
 (Instr.sliceBounds sl n (c+x) LO (some (.int kh jh)) (some (.int km jm))).run P w=.ok (l,e,m) w:=by
 rcases sC (γ:=γ) (x:=some (.int km jm)) (X:=some (.int km jm)) (show aj γ _ _ from aj.int km jm) hm with⟨h,_⟩|⟨k,i,h,hm0,rfl⟩
 ·cases h
 cases h
 rcases sC (γ:=γ) (x:=some (.int kh jh)) (X:=some (.int kh jh)) (show aj γ _ _ from aj.int kh jh) h1 with⟨h,_⟩|⟨k,i,h,h10,rfl⟩
 ·cases h
 cases h
 rcases sC hl h2 with⟨rfl,rfl⟩|⟨k',i',rfl,hi',rfl⟩
 ·simp[Instr.sliceBounds,mA (P:=P) w hm0 (mn c x),mA (P:=P) w h10 (bp _)]
 ·simp[Instr.sliceBounds,mA (P:=P) w hm0 (mn c x),mA (P:=P) w h10 (bp _),mA (P:=P) w hi' (bp _)]
def yl (k:ag)(z b o n c:Nat)(lo hi mx:Option AV):Option AV:=
 match mx with
 |none=>
  match bnd hi n c with
  |none=>none
  |some e=>match bnd lo 0 e with
   |none=>none
   |some l=>
    bif k.opn then
     bif Nat.blt l c||Nat.beq l 0 then some (.slc b (o+l*z) (e-l) (c-l))
     else(bif Nat.beq e l then some .emp else none)
    else
     bif Nat.beq c l then some (.slc b o (e-l) (c-l))else(bif Nat.ble l c then some (.slc b (o+l*z) (e-l) (c-l))else none)
 |some (.int km jm)=>
  match hi with
  |some (.int kh jh)=>
   match bnd (some (.int km jm)) 0 c with
   |none=>none
   |some m=>match bnd (some (.int kh jh)) 0 m with
    |none=>none
    |some e=>match bnd lo 0 e with
     |none=>none
     |some l=>
      bif k.opn then
       bif Nat.beq m l&&Nat.beq e l then some .zer else none
      else
       bif Nat.beq m l then some (.slc b o (e-l) (m-l))else some (.slc b (o+l*z) (e-l) (m-l))
  |_=>none
 |_=>none
theorem mD {a b:Bool}(h:(a||b)=true):a=true∨b=true:=by simpa using h
theorem bB {a b:Bool}(h:(a&&b)=true):a=true∧b=true:=by simpa using h
theorem aM {a b:Nat}(h:Nat.beq a b=true):a=b:=co h
theorem mH {a b:Nat}(h:Nat.beq a b=false):a≠b:=jn h
theorem LD {h:Tr ag}{nx:Nat}(hr:aJ γ h.get nx w){k:ag}{b B x o n c z:Nat}(hk:h.get b=some k)(hg:γ b=some (B,x)){lo hi mx:Option AV}{LO HI MX:Option Value}(hl:cG γ lo LO)(hh:cG γ hi HI)(hm:cG γ mx MX){v:AV}
 (hq:yl k z b o n c lo hi mx=some v):
 ∃l e m V,(Instr.sliceBounds true n (c+x) LO HI MX).run P w=.ok (l,e,m) w∧V=Value.slice (if m=l then some ⟨B,o,none⟩else(some (⟨B,o,none⟩:Addr)).map (·.add (l*z))) (e-l) (m-l)∧aj γ v V:=by
 have hx0:k.opn=false→x=0:=by
  intro ho
  obtain⟨B',x',cs,ex,g1,g2,g3,g4,g5⟩:=hr.blk b k hk
  rw[hg]at g1;cases g1;exact g5 ho
 unfold yl at hq
 split at hq
 ·cases MX with
  |some V=>simp[cG]at hm
  |none=>
   split at hq
   ·cases hq
   ·rename_i e he
    split at hq
    ·cases hq
    ·rename_i l hl2
     refine⟨l,e,c+x,_,uw w hl hh he hl2,rfl,?_⟩
     cases ho:k.opn with
     |true=>
      simp only[ho,aU]at hq
      cases hc:(Nat.blt l c||Nat.beq l 0)with
      |true=>
       simp only[hc,aU,bv]at hq
       subst hq
       rcases mD hc with h1|h1
       ·have h1':l<c:=aT h1
        rw[if_neg om]
        have:c+x-l=(c-l)+x:=by omega
        rw[this,kU,dl]
        exact .slc _ _ _ hg
       ·have h1':=aM h1
        subst h1'
        have:(if c+x=0 then some (⟨B,o,none⟩:Addr)else(some (⟨B,o,none⟩:Addr)).map (·.add (0*z)))=some ⟨B,o+0*z,none⟩:=by
         split<;>simp[dl]
        rw[this]
        simp only[Nat.sub_zero]
        exact .slc _ _ _ hg
      |false=>
       simp only[hc,bt]at hq
       cases he2:Nat.beq e l with
       |false=>simp[he2]at hq
       |true=>
        simp only[he2,aU,bv]at hq
        subst hq
        have:=aM he2
        subst this
        rw[Nat.sub_self]
        exact .emp _ _
     |false=>
      simp only[ho,bt]at hq
      have hx1:=hx0 ho
      subst hx1
      cases hc:Nat.beq c l with
      |true=>
       simp only[hc,aU,bv]at hq
       subst hq
       have:=aM hc
       rw[if_pos om]
       have e3:c+0-l=(c-l)+0:=by omega
       rw[e3]
       exact .slc _ _ _ hg
      |false=>
       simp only[hc,bt]at hq
       cases hb:Nat.ble l c with
       |false=>simp[hb]at hq
       |true=>
        simp only[hb,aU,bv]at hq
        subst hq
        have:=mH hc
        have:=aT hb
        rw[if_neg om]
        have e3:c+0-l=(c-l)+0:=by omega
        rw[e3,kU,dl]
        exact .slc _ _ _ hg
 ·rename_i km jm
  cases MX with
  |none=>simp[cG]at hm
  |some MV=>
   simp only[cG]at hm
   cases hm
   split at hq
   ·rename_i kh jh
    cases HI with
    |none=>simp[cG]at hh
    |some HV=>
     simp only[cG]at hh
     cases hh
     split at hq
     ·cases hq
     ·rename_i m hm2
      split at hq
      ·cases hq
      ·rename_i e he
       split at hq
       ·cases hq
       ·rename_i l hl2
        refine⟨l,e,m,_,Ci w hl hm2 he hl2 x,rfl,?_⟩
        have hme:e≤m:=by
         simp[bnd]at he
         omega
        have hle:l≤e:=by
         cases lo with
         |none=>simp[bnd]at hl2;omega
         |some v=>cases v<;>simp[bnd]at hl2;omega
        cases ho:k.opn with
        |true=>
         simp only[ho,aU]at hq
         cases hc:(Nat.beq m l&&Nat.beq e l)with
         |false=>simp[hc]at hq
         |true=>
          simp only[hc,aU,bv]at hq
          subst hq
          obtain⟨c1,c2⟩:=bB hc
          have:=aM c1
          have:=aM c2
          rw[if_pos om,show e-l=0 by omega,show m-l=0 by omega]
          exact .zer _
        |false=>
         simp only[ho,bt]at hq
         have hx1:=hx0 ho
         subst hx1
         cases hc:Nat.beq m l with
         |true=>
          simp only[hc,aU,bv]at hq
          subst hq
          rw[if_pos (aM hc)]
          exact .slc (x:=0) _ _ _ hg
         |false=>
          simp only[hc,bt,bv]at hq
          subst hq
          rw[if_neg (mH hc),kU,dl]
          exact .slc (x:=0) _ _ _ hg
   ·cases hq
 ·cases hq
def ip:Option AV→Bool
 |none=>true
 |some (.int _ i)=>decide (i=0)
 |_=>false
noncomputable def zQ (ti:Tr TypeInfo)(h:Tr ag)(t:Nat)(x:AV)(lo hi mx:Option AV):Option AV:=
 match bN ti t with
 |some .string=>match x,mx with
  |.str s,none=>match bnd hi s.size s.size with
   |none=>none
   |some e=>match bnd lo 0 e with
    |none=>none
    |some l=>some (.str (s.extract l e))
  |_,_=>none
 |some (.slice el)=>match cC ti el with
  |none=>none
  |some z=>match x with
   |.slc b o n c=>match h.get b with
    |none=>none
    |some k=>yl k z b o n c lo hi mx
   |.nils=>match mx with
    |none=>bif ip lo&&ip hi then some .nils else none
    |some (.int _ 0)=>match hi with
     |some (.int _ 0)=>bif ip lo then some .nils else none
     |_=>none
    |_=>none
   |.emp=>match mx with
    |none=>bif ip lo&&ip hi then some .emp else none
    |some (.int _ 0)=>match hi with
     |some (.int _ 0)=>bif ip lo then some .emp else none
     |_=>none
    |_=>none
   |.zer=>match mx with
    |none=>bif ip lo&&ip hi then some .zer else none
    |some (.int _ 0)=>match hi with
     |some (.int _ 0)=>bif ip lo then some .zer else none
     |_=>none
    |_=>none
   |_=>none
 |some (.array n el)=>match cC ti el with
  |none=>none
  |some z=>match x,mx with
   |.ptr b o,none=>match h.get b with
    |none=>none
    |some k=>bif k.opn then none else
     match bnd hi n n with
     |none=>none
     |some e=>match bnd lo 0 e with
      |none=>none
      |some l=>bif Nat.beq n l then some (.slc b o (e-l) (n-l))else(bif Nat.ble l n then some (.slc b (o+l*z) (e-l) (n-l))else none)
   |_,_=>none
 |_=>none
theorem ym {x:Option AV}(h:ip x=true)(y:Nat):bnd x 0 y=some 0:=by
 unfold ip at h
 split at h
 ·rfl
 ·rename_i k i
  have:i=0:=by simpa using h
  subst this
  simp[bnd]
 ·cases h
include ht in
theorem Lo {t el z:Nat}(hd:bN ti t=some (.slice el))(hz:cC ti el=some z){lo hi:Option AV}{LO HI:Option Value}(hl:cG γ lo LO)(hh:cG γ hi HI)(b1:ip lo=true)(b2:ip hi=true)(a:Option Addr)(c:Nat):
 (Instr.sliceAt t (.slice a 0 c) LO HI none).run P w=.ok (.slice a 0 c) w:=by
 have h0:=uw (P:=P) (sl:=true) (n:=0) (c:=0) (x:=c) w hl hh (ym b2 _) (ym b1 _)
 rw[gF]at h0
 have e:(if c=0 then a else a.map (·.add (0*z)))=a:=by
  split
  ·rfl
  ·cases a<;>simp[Addr.add]
 simp only[Instr.sliceAt,Instr.slice,Sem.run_bind,bF ht hd,Result.andThen_ok,h0,di ht hz,Sem.run_pure,Nat.sub_zero,e]
include ht in
theorem Lm {t el z:Nat}(hd:bN ti t=some (.slice el))(hz:cC ti el=some z){lo:Option AV}{LO:Option Value}(hl:cG γ lo LO)(b1:ip lo=true)(kh km:IntKind)(a:Option Addr)(c:Nat):
 (Instr.sliceAt t (.slice a 0 c) LO (some (.int kh 0)) (some (.int km 0))).run P w=.ok (.slice a 0 0) w:=by
 have h0:=Ci (P:=P) (sl:=true) (kh:=kh) (km:=km) (jh:=0) (jm:=0) (n:=0) (c:=0) w hl (m:=0) (e:=0) (by simp[bnd]) (by simp[bnd]) (ym b1 0) c
 rw[gF]at h0
 simp only[Instr.sliceAt,Instr.slice,Sem.run_bind,bF ht hd,Result.andThen_ok,h0,di ht hz,Sem.run_pure,Nat.sub_zero,fx]
include ht in
theorem MT {h:Tr ag}{nx:Nat}(hr:aJ γ h.get nx w){t:Nat}{x v:AV}{X:Value}(hx:aj γ x X){lo hi mx:Option AV}{LO HI MX:Option Value}(hl:cG γ lo LO)(hh:cG γ hi HI)(hm:cG γ mx MX)
 (hq:zQ ti h t x lo hi mx=some v):∃V,(Instr.sliceAt t X LO HI MX).run P w=.ok V w∧aj γ v V:=by
 unfold zQ at hq
 split at hq
 ·rename_i hd
  split at hq
  ·rename_i s
   cases hx
   cases MX with
   |some V=>simp[cG]at hm
   |none=>
    split at hq
    ·cases hq
    ·rename_i e he
     split at hq
     ·cases hq
     ·rename_i l hl2
      cases hq
      have:=uw (P:=P) (sl:=false) (x:=0) w hl hh he hl2
      rw[fv]at this
      exact⟨_,by simp[Instr.sliceAt,Instr.slice,bF ht hd,this],.str _⟩
  ·cases hq
 ·rename_i el hd
  split at hq
  ·cases hq
  ·rename_i z hz
   split at hq
   ·rename_i b o n c
    cases hx with
    |slc _ _ _ hg=>
     split at hq
     ·cases hq
     ·rename_i k hk
      obtain⟨l,e,m,V,h1,h2,h3⟩:=LD (P:=P) w hr hk hg hl hh hm hq
      exact⟨V,by rw[h2];simp only[Instr.sliceAt,Instr.slice,Sem.run_bind,bF ht hd,Result.andThen_ok,h1,di ht hz,Sem.run_pure],h3⟩
   all_goals first
    |(cases hq;done)
    |skip
   all_goals
    split at hq
    ·cases hb:(ip lo&&ip hi)with
     |false=>simp[hb]at hq
     |true=>
      simp only[hb,aU,bv]at hq
      subst hq
      cases MX with
      |some V=>simp[cG]at hm
      |none=>
       obtain⟨b1,b2⟩:=bB hb
       have key:=fun a c=>Lo (P:=P) ht w hd hz hl hh b1 b2 a c
       cases hx
       exact⟨_,key _ _,by first|exact .nils|exact .zer _|exact .emp _ _⟩
    ·split at hq
     ·cases hb:ip lo with
      |false=>simp[hb]at hq
      |true=>
       simp only[hb,aU,bv]at hq
       subst hq
       cases MX with
       |none=>simp[cG]at hm
       |some MV=>
        simp only[cG]at hm
        cases hm
        cases HI with
        |none=>simp[cG]at hh
        |some HV=>
         simp only[cG]at hh
         cases hh
         have key:=fun kh km a c=>Lm (P:=P) ht w hd hz hl hb kh km a c
         cases hx
         exact⟨_,key _ _ _ _,by first|exact .nils|exact .zer _|exact .emp _ _⟩
     ·cases hq
    ·cases hq
 ·rename_i n el hd
  split at hq
  ·cases hq
  ·rename_i z hz
   split at hq
   ·rename_i b o
    cases hx with
    |ptr _ hg=>
     rename_i B x
     cases MX with
     |some V=>simp[cG]at hm
     |none=>
      split at hq
      ·cases hq
      ·rename_i k hk
       cases ho:k.opn with
       |true=>simp[ho]at hq
       |false=>
        have hx0:x=0:=by
         obtain⟨B',x',cs,ex,g1,g2,g3,g4,g5⟩:=hr.blk b k hk
         rw[hg]at g1;cases g1;exact g5 ho
        subst hx0
        simp only[ho,bt]at hq
        split at hq
        ·cases hq
        ·rename_i e he
         split at hq
         ·cases hq
         ·rename_i l hl2
          have h0:=uw (P:=P) (sl:=false) (x:=0) w hl hh he hl2
          rw[fv]at h0
          cases hc:Nat.beq n l with
          |true=>
           simp only[hc,aU,bv]at hq
           subst hq
           refine⟨.slice (some (if n=l then⟨B,o,none⟩else(⟨B,o,none⟩:Addr).add (l*z))) (e-l) (n-l),by simp only[Instr.sliceAt,Sem.run_bind,bF ht hd,Result.andThen_ok,Instr.sureAddr,h0,di ht hz,Sem.run_pure],?_⟩
           rw[if_pos (aM hc)]
           exact .slc (x:=0) _ _ _ hg
          |false=>
           simp only[hc,bt]at hq
           cases hb:Nat.ble l n with
           |false=>simp[hb]at hq
           |true=>
            simp only[hb,aU,bv]at hq
            subst hq
            refine⟨.slice (some (if n=l then⟨B,o,none⟩else(⟨B,o,none⟩:Addr).add (l*z))) (e-l) (n-l),by simp only[Instr.sliceAt,Sem.run_bind,bF ht hd,Result.andThen_ok,Instr.sureAddr,h0,di ht hz,Sem.run_pure],?_⟩
            rw[if_neg (mH hc),dl]
            exact .slc (x:=0) _ _ _ hg
   ·cases hq
 ·cases hq
end
inductive qE (γ:Gm):List (Nat×AV)→List (Nat×Value)→Prop
 |nil:qE γ [] []
 |cons (i:Nat) {v:AV} {V:Value} {ps:List (Nat×AV)} {Ps:List (Nat×Value)} (h:aj γ v V) (t:qE γ ps Ps):qE γ ((i,v)::ps) ((i,V)::Ps)
theorem Dh (off:Nat):∀(vs:List Value)(k:Nat)(cells:Array Value),off+k+vs.length≤cells.size→
 ((vs.zipIdx k).foldl (fun(cs:Array Value)(p:Value×Nat)=>cs.setIfInBounds (off+p.2) p.1) cells).toList=cells.toList.take (off+k)++vs++cells.toList.drop (off+k+vs.length)
 |[],k,cells,_=>by simp
 |v::vs,k,cells,h=>by
  simp only[dg]at h
  simp only[List.zipIdx_cons,oA]
  rw[Dh off vs (k+1) _ (by simp;omega)]
  have:=list_seg_step cells.toList (off+k) v vs (by simp;omega)
  simp only[Array.toList_setIfInBounds,dg]
  rw[show off+(k+1)=off+k+1 by omega]
  exact this
def mI (place:Nat→Option (Nat×Nat))(cells:List AV):List (Nat×AV)→Option (List AV)
 |[]=>some cells
 |(i,v)::rest=>
  match place i with
  |none=>none
  |some (off,size)=>
   bif Nat.beq v.cells.length size&&Nat.ble (off+size) cells.length then mI place (cells.take off++v.cells++cells.drop (off+size)) rest
   else none
theorem yG {γ:Gm}{place Place:Nat→Option (Nat×Nat)}(hp:∀i p,place i=some p→Place i=some p):
 ∀{ps:List (Nat×AV)}{Ps:List (Nat×Value)}(h:qE γ ps Ps){cs:List AV}{Cs:Array Value}(hc:ap γ cs Cs.toList){r:List AV}(hq:mI place cs ps=some r),
 ∃R,Instr.fill Place Cs Ps=some R∧ap γ r R.toList:=by
 intro ps
 induction ps with
 |nil=>
  intro Ps h cs Cs hc r hq
  cases h
  simp only[mI,bv]at hq
  subst hq
  exact⟨Cs,rfl,hc⟩
 |cons p ps ih=>
  intro Ps h cs Cs hc r hq
  cases h with
  |cons i hv ht=>
   rename_i v V Ps'
   simp only[mI]at hq
   cases hpl:place i with
   |none=>simp[hpl]at hq
   |some q=>
    obtain⟨off,size⟩:=q
    simp only[hpl]at hq
    cases hb:(Nat.beq v.cells.length size&&Nat.ble (off+size) cs.length)with
    |false=>simp[hb]at hq
    |true=>
     simp only[hb,aU]at hq
     obtain⟨b1,b2⟩:=bB hb
     have b1:=aM b1
     have b2:=aT b2
     have hvc:=hv.cells
     have hvl:=hvc.length
     have hcl:=hc.length
     have hsz:V.cells.size=size:=by rw[←b1,←hvl];simp
     have hcs:cs.length=Cs.size:=by rw[←hcl];simp
     have hst:=Dh off V.cells.toList 0 Cs (by simp;omega)
     simp only[fv,um]at hst
     have hfold:(V.cells.zipIdx.foldl (fun(cs:Array Value)(p:Value×Nat)=>cs.setIfInBounds (off+p.2) p.1) Cs).toList=Cs.toList.take off++V.cells.toList++Cs.toList.drop (off+size):=by
      rw[←hsz,←hst,←Array.foldl_toList]
      simp
     obtain⟨R,h1,h2⟩:=ih ht (cs:=cs.take off++v.cells++cs.drop (off+size)) (Cs:=V.cells.zipIdx.foldl (fun(cs:Array Value)(p:Value×Nat)=>cs.setIfInBounds (off+p.2) p.1) Cs)
      (by rw[hfold];exact((hc.take off).append hvc).append (hc.drop _)) hq
     refine⟨R,?_,h2⟩
     simp only[Instr.fill,hp i _ hpl]
     rw[if_neg (by simp[hsz];omega)]
     exact h1
def jc (ti:Tr TypeInfo)(t:Nat):Option (List AV):=
 match ti.get t with
 |none=>none
 |some i=>match i.zero with
  |none=>none
  |some z=>match sX z with
   |none=>none
   |some v=>some v.cells
def qi (ti:Tr TypeInfo):List Field→Option (List (Nat×Nat))
 |[]=>some []
 |f::fs=>match cC ti f.type with
  |none=>none
  |some n=>match qi ti fs with
   |none=>none
   |some ps=>some ((f.offset,n)::ps)
section
variable {P:Program}{ti:Tr TypeInfo}(ht:dL P ti){γ:Gm}(w:World)
include ht in
theorem mC {t:Nat}{cs:List AV}(h:jc ti t=some cs):∃i Z,P.info? t=some i∧i.zero=some Z∧ap γ cs Z.cells.toList:=by
 unfold jc at h
 split at h
 ·cases h
 ·rename_i i hi
  split at h
  ·cases h
  ·rename_i z hz
   split at h
   ·cases h
   ·rename_i v hv
    cases h
    exact⟨i,z,ht _ _ hi,hz,(uV γ hv).cells⟩
include ht in
theorem yH {t:Nat}{cs:List AV}(h:jc ti t=some cs):∃Z,(zeroValue t).run P w=.ok Z w∧ap γ cs Z.cells.toList:=by
 obtain⟨i,Z,hi,hz,hr⟩:=mC (γ:=γ) ht h
 exact⟨Z,by simp[zeroValue,typeInfo,hi,hz],hr⟩
include ht in
theorem Mc {fs:List Field}{ps:List (Nat×Nat)}(h:qi ti fs=some ps):(fs.mapM (fun f=>do pure (f.offset,←sizeOf f.type):Field→Sem (Nat×Nat))).run P w=.ok ps w:=by
 induction fs generalizing ps with
 |nil=>simp[qi]at h;subst h;rfl
 |cons f fs ih=>
  simp only[qi]at h
  split at h
  ·cases h
  ·rename_i n hn
   split at h
   ·cases h
   ·rename_i ps' hps
    cases h
    have:=ih hps
    rw[List.mapM_cons]
    simp only[Sem.run_bind,di ht hn,Result.andThen_ok,Sem.run_pure,this]
def zC (ti:Tr TypeInfo)(t:Nat)(ps:List (Nat×AV)):Option AV:=
 match jc ti t with
 |none=>none
 |some z=>match bN ti t with
  |some (.struct fields)=>match qi ti fields.toList with
   |none=>none
   |some pl=>match mI (fun i=>pl[i]?) z ps with
    |none=>none
    |some cs=>some (.agg cs)
  |some (.array _ e)=>match cC ti e with
   |none=>none
   |some size=>match mI (fun i=>some (i*size,size)) z ps with
    |none=>none
    |some cs=>some (.agg cs)
  |_=>none
include ht in
theorem MK {t:Nat}{ps:List (Nat×AV)}{Ps:Array (Nat×Value)}(hp:qE γ ps Ps.toList){v:AV}(hq:zC ti t ps=some v):∃V,(Instr.build t Ps).run P w=.ok V w∧aj γ v V:=by
 unfold zC at hq
 cases hz:jc ti t with
 |none=>simp[hz]at hq
 |some z=>
  simp only[hz]at hq
  obtain⟨Z,hz1,hz2⟩:=yH (P:=P) (γ:=γ) ht w hz
  split at hq
  ·rename_i fields hd
   cases hpl:qi ti fields.toList with
   |none=>simp[hpl]at hq
   |some pl=>
    simp only[hpl]at hq
    cases hf:mI (fun i=>pl[i]?) z ps with
    |none=>simp[hf]at hq
    |some cs=>
     simp only[hf,bv]at hq
     subst hq
     obtain⟨R,h1,h2⟩:=yG (Place:=fun i=>pl.toArray[i]?) (fun i p h=>by simpa using h) hp hz2 hf
     refine⟨.agg R,?_,?_⟩
     ·have hm:=Mc (P:=P) ht w hpl
      simp only[Instr.build,Sem.run_bind,hz1,Result.andThen_ok,bF ht hd,Array.mapM_eq_mapM_toList,Sem.run_map,hm]
      rw[h1]
      simp
     ·have:=aj.agg h2
      simpa using this
  ·rename_i n e hd
   cases hs:cC ti e with
   |none=>simp[hs]at hq
   |some size=>
    simp only[hs]at hq
    cases hf:mI (fun i=>some (i*size,size)) z ps with
    |none=>simp[hf]at hq
    |some cs=>
     simp only[hf,bv]at hq
     subst hq
     obtain⟨R,h1,h2⟩:=yG (Place:=fun i=>some (i*size,size)) (fun i p h=>h) hp hz2 hf
     refine⟨.agg R,?_,?_⟩
     ·simp only[Instr.build,Sem.run_bind,hz1,Result.andThen_ok,bF ht hd,di ht hs]
      rw[h1]
      simp
     ·have:=aj.agg h2
      simpa using this
  ·cases hq
def nK:List AV→Option (List Value)
 |[]=>some []
 |.int k n::l=>match nK l with
  |none=>none
  |some vs=>some (.int k n::vs)
 |_=>none
theorem uQ {vs:List AV}{Vs Us:List Value}(h:ap γ vs Vs)(hi:nK vs=some Us):Vs=Us:=by
 induction vs generalizing Vs Us with
 |nil=>cases h;simp[nK]at hi;exact hi.symm▸rfl
 |cons v vs ih=>
  cases h with
  |cons hv ht=>
   cases v<;>simp[nK]at hi
   split at hi
   ·cases hi
   ·rename_i us hus
    cases hi
    cases hv
    rw[ih ht hus]
def zE (ti:Tr TypeInfo)(t:Nat)(x:AV):Option AV:=
 match bN ti t with
 |none=>none
 |some (.interface _)=>none
 |some _=>some (.ifc t x)
include ht in
theorem ML {t:Nat}{x v:AV}{X:Value}(hx:aj γ x X)(hq:zE ti t x=some v):∃V,(Instr.makeInterface t X).run P w=.ok V w∧aj γ v V:=by
 unfold zE at hq
 split at hq
 ·cases hq
 ·cases hq
 ·rename_i d hn hd
  cases hq
  refine⟨_,?_,.ifc _ hx⟩
  simp only[Instr.makeInterface,Sem.run_bind,bF ht hd,Result.andThen_ok]
  cases d<;>first|rfl|exact absurd rfl (hn _)
end
def ma (ρ:Operand→Option AV):List Operand→Option (List AV)
 |[]=>some []
 |x::l=>match ρ x with
  |none=>none
  |some v=>match ma ρ l with
   |none=>none
   |some vs=>some (v::vs)
def qN (ρ:Operand→Option AV):List (Nat×Operand)→Option (List (Nat×AV))
 |[]=>some []
 |(i,x)::l=>match ρ x with
  |none=>none
  |some v=>match qN ρ l with
   |none=>none
   |some vs=>some ((i,v)::vs)
def g9 (ρ:Operand→Option AV):Option Operand→Option (Option AV)
 |none=>some none
 |some x=>match ρ x with
  |none=>none
  |some v=>some (some v)
section
variable {γ:Gm}{ρ:Operand→Option AV}{R:Operand→Value}(hρ:∀x v,ρ x=some v→aj γ v (R x))
include hρ
theorem qv {l:List Operand}{vs:List AV}(h:ma ρ l=some vs):ap γ vs (l.map R):=by
 induction l generalizing vs with
 |nil=>simp[ma]at h;subst h;exact .nil
 |cons x l ih=>
  simp only[ma]at h
  split at h
  ·cases h
  ·rename_i v hv
   split at h
   ·cases h
   ·rename_i us hus
    cases h
    exact .cons (hρ _ _ hv) (ih hus)
theorem E6 {l:List (Nat×Operand)}{vs:List (Nat×AV)}(h:qN ρ l=some vs):qE γ vs (l.map fun p=>(p.1,R p.2)):=by
 induction l generalizing vs with
 |nil=>simp[qN]at h;subst h;exact .nil
 |cons p l ih=>
  obtain⟨i,x⟩:=p
  simp only[qN]at h
  split at h
  ·cases h
  ·rename_i v hv
   split at h
   ·cases h
   ·rename_i us hus
    cases h
    exact .cons i (hρ _ _ hv) (ih hus)
theorem qw {o:Option Operand}{v:Option AV}(h:g9 ρ o=some v):cG γ v (o.map R):=by
 cases o with
 |none=>simp[g9]at h;subst h;trivial
 |some x=>
  simp only[g9]at h
  split at h
  ·cases h
  ·rename_i u hu;cases h;exact hρ _ _ hu
end
def re (ti:Tr TypeInfo)(lz:Nat→Nat→Nat→Nat→Bool)(h:Tr ag)(ρ:Operand→Option AV)(op:Op)(ty:Nat):Option AV:=
 match op with
 |.move x=>ρ x
 |.assign x=>ρ x
 |.pick c a b=>match ρ c with
  |some (.bool true)=>ρ a
  |some (.bool false)=>ρ b
  |_=>none
 |.load t a=>match ρ a with
  |none=>none
  |some x=>sY ti h t x
 |.nilCheck x=>match ρ x with
  |some (.ptr b o)=>some (.ptr b o)
  |some (.fn f vs)=>some (.fn f vs)
  |_=>none
 |.binOp op t x y _=>match ρ x with
  |none=>none
  |some u=>match ρ y with
   |none=>none
   |some v=>wF ti op t x y u v
 |.unOp op _ x=>match ρ x with
  |none=>none
  |some u=>xz op u
 |.convert s d x=>match ρ x with
  |none=>none
  |some u=>AM ti lz h s d u
 |.makeInterface t x=>match ρ x with
  |none=>none
  |some u=>zE ti t u
 |.makeFunc (.func f) ⟨[]⟩ ⟨captured⟩=>match ma ρ captured with
  |none=>none
  |some vs=>some (.fn f vs)
 |.build t ⟨ps⟩=>match qN ρ ps with
  |none=>none
  |some vs=>zC ti t vs
 |.slice t x lo hi mx=>match ρ x with
  |none=>none
  |some u=>match g9 ρ lo with
   |none=>none
   |some l=>match g9 ρ hi with
    |none=>none
    |some e=>match g9 ρ mx with
     |none=>none
     |some m=>zQ ti h t u l e m
 |.fieldAddr s x f=>match ρ x with
  |none=>none
  |some u=>x9 ti s u f
 |.field s x f=>match ρ x with
  |none=>none
  |some u=>zW ti s u f
 |.indexAddr t x i=>match ρ x with
  |none=>none
  |some u=>match ρ i with
   |none=>none
   |some v=>ya ti t u v
 |.index t x i=>match ρ x with
  |none=>none
  |some u=>match ρ i with
   |none=>none
   |some v=>zX ti t u v
 |.extract x i=>match ρ x with
  |none=>none
  |some u=>yN u i
 |.call ⟨.builtin .len,⟨[x]⟩,⟨t::_⟩⟩=>match ρ x with
  |none=>none
  |some u=>Bc ti t u
 |.call ⟨.builtin .unsafeSliceData,⟨[x]⟩,_⟩=>match ρ x with
  |none=>none
  |some u=>AN u
 |.call ⟨.builtin .min,⟨xs⟩,ts⟩=>match ma ρ xs with
  |none=>none
  |some vs=>match nK vs with
   |none=>none
   |some us=>lQ (Builtin.min_ ts ty us.toArray)
 |.call ⟨.builtin .max,⟨xs⟩,ts⟩=>match ma ρ xs with
  |none=>none
  |some vs=>match nK vs with
   |none=>none
   |some us=>lQ (Builtin.max_ ts ty us.toArray)
 |_=>none
theorem Sk {P:Program}{ti:Tr TypeInfo}(ht:dL P ti){lz:Nat→Nat→Nat→Nat→Bool}(hlz:qy P lz){γ:Gm}{h:Tr ag}{nx:Nat}{w:World}(hr:aJ γ h.get nx w){ρ:Operand→Option AV}{R:Operand→Value}(hρ:∀x v,ρ x=some v→aj γ v (R x)){o:Oper}{v:AV}
 (hq:re ti lz h ρ o.op o.type=some v):∃V,(execOp R o).run P w=.ok (.value V) w∧aj γ v V:=by
 obtain⟨dst,op,ty,pos,after,guard⟩:=o
 simp only at hq
 unfold re at hq
 split at hq
 ·exact⟨_,rfl,hρ _ _ hq⟩
 ·exact⟨_,rfl,hρ _ _ hq⟩
 ·rename_i c a b
  split at hq
  ·rename_i hc
   have h1:=hρ _ _ hc
   cases hR:R c<;>rw[hR]at h1<;>cases h1
   exact⟨R a,by simp[execOp,hR,asBool],hρ _ _ hq⟩
  ·rename_i hc
   have h1:=hρ _ _ hc
   cases hR:R c<;>rw[hR]at h1<;>cases h1
   exact⟨R b,by simp[execOp,hR,asBool],hρ _ _ hq⟩
  ·cases hq
 ·rename_i t a
  split at hq
  ·cases hq
  ·rename_i x hx
   obtain⟨V,ad,h1,h2,h3⟩:=Ee ht hr (hρ _ _ hx) hq
   exact⟨V,by simp[execOp,Instr.loadAt,h1,Instr.sureAddr,h2],h3⟩
 ·rename_i x
  split at hq
  ·rename_i hx
   cases hq
   have h1:=hρ _ _ hx
   cases hR:R x<;>rw[hR]at h1<;>cases h1
   rename_i hg
   exact⟨_,by simp[execOp,hR],.ptr _ hg⟩
  ·rename_i hx
   cases hq
   have h1:=hρ _ _ hx
   cases hR:R x<;>rw[hR]at h1<;>cases h1
   rename_i hg
   exact⟨_,by simp[execOp,hR],.fn _ hg⟩
  ·cases hq
 ·rename_i op' t x y yt
  split at hq
  ·cases hq
  ·rename_i u hu
   split at hq
   ·cases hq
   ·rename_i v' hv
    obtain⟨V,h1,h2⟩:=Fh (P:=P) ht w (hρ _ _ hu) (hρ _ _ hv) hq
    refine⟨V,?_,h2⟩
    show((do let r←(do eqGuard op' t x y (R x) (R y);binOp op' t (R x) (R y):Sem Value);pure (Next.value r)):Sem Next).run P w=_
    rw[Sem.run_bind,h1]
    rfl
 ·rename_i op' t x
  split at hq
  ·cases hq
  ·rename_i u hu
   obtain⟨V,h1,h2⟩:=Gq (P:=P) w (hρ _ _ hu) hq
   exact⟨V,by simp[execOp,h1],h2⟩
 ·rename_i s d x
  split at hq
  ·cases hq
  ·rename_i u hu
   obtain⟨V,h1,h2⟩:=Oz (P:=P) ht w hlz hr (hρ _ _ hu) hq
   exact⟨V,by simp[execOp,h1],h2⟩
 ·rename_i t x
  split at hq
  ·cases hq
  ·rename_i u hu
   obtain⟨V,h1,h2⟩:=ML (P:=P) ht w (hρ _ _ hu) hq
   exact⟨V,by simp[execOp,h1],h2⟩
 ·rename_i f captured
  split at hq
  ·cases hq
  ·rename_i vs hvs
   cases hq
   refine⟨.func (.func f) #[] (captured.map R).toArray,?_,.fn f (qv hρ hvs)⟩
   simp[execOp,Instr.makeFunc]
 ·rename_i t ps
  split at hq
  ·cases hq
  ·rename_i vs hvs
   have hp:=E6 hρ hvs
   obtain⟨V,h1,h2⟩:=MK (P:=P) (Ps:=(ps.map fun p=>(p.1,R p.2)).toArray) ht w (by simpa using hp) hq
   refine⟨V,?_,h2⟩
   simp only[execOp]
   have e:(Array.map (fun x:Nat×Operand=>(x.1,R x.2)) ⟨ps⟩)=(ps.map fun p=>(p.1,R p.2)).toArray:=by simp
   show((do let r←Instr.build t (Array.map (fun x:Nat×Operand=>(x.1,R x.2)) ⟨ps⟩);pure (Next.value r)):Sem Next).run P w=_
   rw[e,Sem.run_bind,h1]
   rfl
 ·rename_i t x lo hi mx
  split at hq
  ·cases hq
  ·rename_i u hu
   split at hq
   ·cases hq
   ·rename_i l hl
    split at hq
    ·cases hq
    ·rename_i e he
     split at hq
     ·cases hq
     ·rename_i m hm
      obtain⟨V,h1,h2⟩:=MT (P:=P) ht w hr (hρ _ _ hu) (qw hρ hl) (qw hρ he) (qw hρ hm) hq
      exact⟨V,by simp[execOp,h1],h2⟩
 ·rename_i s x f
  split at hq
  ·cases hq
  ·rename_i u hu
   obtain⟨V,h1,h2⟩:=Lt (P:=P) ht w (hρ _ _ hu) hq
   exact⟨V,by simp[execOp,h1],h2⟩
 ·rename_i s x f
  split at hq
  ·cases hq
  ·rename_i u hu
   obtain⟨V,h1,h2⟩:=M3 (P:=P) ht w (hρ _ _ hu) hq
   exact⟨V,by simp[execOp,h1],h2⟩
 ·rename_i t x i
  split at hq
  ·cases hq
  ·rename_i u hu
   split at hq
   ·cases hq
   ·rename_i v' hv
    obtain⟨V,h1,h2⟩:=Lu (P:=P) ht w (hρ _ _ hu) (hρ _ _ hv) hq
    exact⟨V,by simp[execOp,h1],h2⟩
 ·rename_i t x i
  split at hq
  ·cases hq
  ·rename_i u hu
   split at hq
   ·cases hq
   ·rename_i v' hv
    obtain⟨V,h1,h2⟩:=M4 (P:=P) ht w (hρ _ _ hu) (hρ _ _ hv) hq
    exact⟨V,by simp[execOp,h1],h2⟩
 ·rename_i x i
  split at hq
  ·cases hq
  ·rename_i u hu
   obtain⟨V,h1,h2⟩:=LS (P:=P) w (hρ _ _ hu) hq
   exact⟨V,by simp[execOp,h1],h2⟩
 ·rename_i x t ts
  split at hq
  ·cases hq
  ·rename_i u hu
   obtain⟨V,h1,h2⟩:=P8 (P:=P) (ty:=ty) (ts:=⟨t::ts⟩) (Xs:=#[R x]) ht w si si (hρ _ _ hu) hq
   refine⟨V,?_,h2⟩
   simp[execOp,resolve,invoke,builtin,h1]
 ·rename_i x ts
  split at hq
  ·cases hq
  ·rename_i u hu
   obtain⟨V,h1,h2⟩:=OA (P:=P) w (hρ _ _ hu) hq ts ty
   refine⟨V,?_,h2⟩
   simp[execOp,resolve,invoke,builtin,h1]
 ·rename_i xs ts
  split at hq
  ·cases hq
  ·rename_i vs hvs
   split at hq
   ·cases hq
   ·rename_i us hus
    obtain⟨V,h1,h2⟩:=nq γ hq
    have e:=uQ (qv hρ hvs) hus
    refine⟨V,?_,h2⟩
    have e2:Array.map R ⟨xs⟩=us.toArray:=by rw[←e];simp
    simp[execOp,resolve,invoke,builtin,e2,h1]
 ·rename_i xs ts
  split at hq
  ·cases hq
  ·rename_i vs hvs
   split at hq
   ·cases hq
   ·rename_i us hus
    obtain⟨V,h1,h2⟩:=nq γ hq
    have e:=uQ (qv hρ hvs) hus
    refine⟨V,?_,h2⟩
    have e2:Array.map R ⟨xs⟩=us.toArray:=by rw[←e];simp
    simp[execOp,resolve,invoke,builtin,e2,h1]
 ·cases hq
def wX (z:List AV)(n:Nat):List AV:=(List.range n).map fun i=>z.getD (i%z.length) .nilif
theorem zw {γ:Gm}{z:List AV}{Z:Array Value}(h:ap γ z Z.toList)(hz:z≠[])(n:Nat):ap γ (wX z n) ((Array.range n).map (Z[·%Z.size]!)).toList:=by
 have hl:=h.length
 simp only[um]at hl
 have key:∀(l:List Nat),ap γ (l.map fun i=>z.getD (i%z.length) .nilif) (l.map fun i=>Z[i%Z.size]!):=by
  intro l
  induction l with
  |nil=>exact .nil
  |cons i l ih=>
   refine .cons ?_ ih
   have hpos:0<z.length:=nf.2 hz
   have hlt:i%z.length<z.length:=jI _ hpos
   rcases h.get (i%z.length)with⟨h1,h2⟩|⟨v,V,h1,h2,h3⟩
   ·rw[List.getElem?_eq_none_iff]at h1;omega
   ·show aj γ (z.getD (i%z.length) AV.nilif) (Z[i%Z.size]!)
    rw[ev,h1,hl]
    simp only[Option.getD_some]
    simp only[Array.getElem?_toList]at h2
    rw[getElem!_pos Z (i%z.length) om]
    have:Z[i%z.length]'om=V:=by
     rw[Array.getElem?_eq_getElem om]at h2
     exact xL h2
    rw[this]
    exact h3
 rw[Array.toList_map,Array.toList_range]
 exact key _
structure tk where
 v:AV
 blk:ag
def lP (ti:Tr TypeInfo)(t:Nat):Option Nat:=match ti.get t with
 |none=>none
 |some i=>some i.bytes
theorem nr {P:Program}{ti:Tr TypeInfo}(ht:dL P ti){t n:Nat}{i:TypeInfo}(h:lP ti t=some n)(hi:P.info? t=some i):i.bytes=n:=by
 unfold lP at h
 split at h
 ·cases h
 ·rename_i j hj
  rw[ht _ _ hj]at hi
  cases hi
  exact xL h
def Aq (ti:Tr TypeInfo)(i t:Nat)(l c:AV):Option tk:=
 match l,c with
 |.int _ l,.int _ c=>
  match bN ti t with
  |some (.slice el)=>
   match cC ti el,lP ti el,jc ti el with
   |some z,some by_,some zs=>
    bif decide (0≤l)&&decide (l≤c)&&decide (c≤1000000000)&&decide ((by_:Int)*c≤281474976710656)&&!zs.isEmpty then
     some ⟨.slc i 0 l.toNat c.toNat,⟨.plain (wX zs (c.toNat*z)),el,z,false,true⟩⟩
    else none
   |_,_,_=>none
  |_=>none
 |_,_=>none
def xX (ti:Tr TypeInfo)(i t len:Nat)(ps:List (Nat×AV)):Option tk:=
 match bN ti t with
 |some (.slice el)=>
  match cC ti el,jc ti el with
  |some z,some zs=>
   bif Nat.ble (len*z) 16777216&&!zs.isEmpty then
    match mI (fun j=>some (j*z,z)) (wX zs (len*z)) ps with
    |none=>none
    |some cs=>some ⟨.slc i 0 len len,⟨.plain cs,el,z,false,true⟩⟩
   else none
  |_,_=>none
 |_=>none
def pF (ti:Tr TypeInfo)(ρ:Operand→Option AV)(op:Op)(i:Nat):Option tk:=
 match op with
 |.alloc el=>match jc ti el with
  |none=>none
  |some zs=>some ⟨.ptr i 0,⟨.plain zs,el,0,false,true⟩⟩
 |.box el x=>match ρ x with
  |none=>none
  |some v=>some ⟨.ptr i 0,⟨.plain v.cells,el,0,false,true⟩⟩
 |.buildSlice t len ⟨ps⟩=>match qN ρ ps with
  |none=>none
  |some vs=>xX ti i t len vs
 |.makeSlice t l c=>match ρ l with
  |none=>none
  |some u=>match ρ c with
   |none=>none
   |some v=>Aq ti i t u v
 |_=>none
section
variable {P:Program}{ti:Tr TypeInfo}(ht:dL P ti)
theorem vy {γ:Gm}{f:Hf}{nx:Nat}{w:World}(hr:aJ γ f nx w){i nx':Nat}(hi:γ i=none)(hi':i<nx')(hn:nx≤nx'){vs:List AV}{Vs:Array Value}(hv:ap γ vs Vs.toList)(el z:Nat):
 be γ f w (γ.put i (some (w.heap.size,0))) (es f i (some ⟨.plain vs,el,z,false,true⟩)) nx' (w.alloc (.cells Vs el)):=by
 have:=hr.new i nx' hi hi' hn hv (ex:=[]) el z false 0 si (fun _=>rfl) (w1:=w) rfl rfl rfl rfl (bp _)
 simpa using this
include ht in
theorem FR {γ:Gm}{f:Hf}{nx:Nat}{w:World}(hr:aJ γ f nx w){ρ:Operand→Option AV}{R:Operand→Value}(hρ:∀x v,ρ x=some v→aj γ v (R x)){o:Oper}{i nx':Nat}(hi:γ i=none)(hi':i<nx')(hn:nx≤nx'){m:tk}
 (hq:pF ti ρ o.op i=some m):∃V w',(execOp R o).run P w=.ok (.value V) w'∧be γ f w (γ.put i (some (w.heap.size,0))) (es f i (some m.blk)) nx' w'∧aj (γ.put i (some (w.heap.size,0))) m.v V:=by
 obtain⟨dst,op,ty,pos,after,guard⟩:=o
 simp only at hq
 have hg:(γ.put i (some (w.heap.size,0))) i=some (w.heap.size,0):=Gm.put_same _ _ _
 unfold pF at hq
 split at hq
 ·rename_i el
  split at hq
  ·cases hq
  ·rename_i zs hz
   cases hq
   obtain⟨Z,h1,h2⟩:=yH (P:=P) (γ:=γ) ht w hz
   refine⟨_,_,?_,vy hr hi hi' hn h2 el 0,.ptr 0 hg⟩
   simp[execOp,Instr.alloc,h1,newVar,newRow]
 ·rename_i el x
  split at hq
  ·cases hq
  ·rename_i v hv
   cases hq
   refine⟨_,_,?_,vy hr hi hi' hn (hρ _ _ hv).cells el 0,.ptr 0 hg⟩
   simp[execOp,Instr.box,newVar,newRow]
 ·rename_i t len ps
  split at hq
  ·cases hq
  ·rename_i vs hvs
   have hp:=E6 hρ hvs
   unfold xX at hq
   split at hq
   ·rename_i el hd
    split at hq
    ·rename_i z zs hz hzs
     cases hb:(Nat.ble (len*z) 16777216&&!zs.isEmpty)with
     |false=>simp[hb]at hq
     |true=>
      simp only[hb,aU]at hq
      obtain⟨b1,b2⟩:=bB hb
      have b1:=aT b1
      have hne:zs≠[]:=by intro e;rw[e]at b2;simp at b2
      split at hq
      ·cases hq
      ·rename_i cs hcs
       cases hq
       obtain⟨Z,h1,h2⟩:=yH (P:=P) (γ:=γ) ht w hzs
       have hzl:zs.length=Z.cells.size:=by have:=h2.length;simpa using this.symm
       have hcy:=zw h2 hne (len*z)
       obtain⟨RR,g1,g2⟩:=yG (Place:=fun j=>some (j*z,z)) (fun _ _ h=>h) hp hcy hcs
       refine⟨_,_,?_,vy hr hi hi' hn g2 el z,.slc (x:=0) 0 len len hg⟩
       have e:(Array.map (fun x:Nat×Operand=>(x.1,R x.2)) ⟨ps⟩)=(ps.map fun p=>(p.1,R p.2)).toArray:=by simp
       show((do let r←Instr.buildSlice t len (Array.map (fun x:Nat×Operand=>(x.1,R x.2)) ⟨ps⟩);pure (Next.value r)):Sem Next).run P w=_
       rw[e]
       have hle:¬(len*z>2^24):=by omega
       simp only[Instr.buildSlice,Sem.run_bind,bF ht hd,Result.andThen_ok,di ht hz,Sem.run_ite,hle,iF]
       simp only[Sem.run_bind,Sem.run_pure,Result.andThen_ok,h1]
       have hfin:∀(a:Array Value),(if len*z=0 then a=#[]else a=Z.cells)→Instr.fill (fun j=>some (j*z,z)) ((Array.range (len*z)).map (a[·%a.size]!)) (ps.map fun p=>(p.1,R p.2))=some RR:=by
        intro a ha
        by_cases h0:len*z=0
        ·simp only[h0,fx]at ha
         subst ha
         rw[←g1]
         simp[h0,Array.range_zero']
        ·simp only[h0,iF]at ha
         subst ha
         exact g1
       by_cases h0:len*z=0
       ·simp only[h0,fx,Result.andThen_ok]
        have:=hfin #[] (by simp[h0])
        simp only[h0]at this
        simp only[this,newRow,Sem.run_bind,run_newObj,Result.andThen_ok,Sem.run_pure]
        rfl
       ·simp only[h0,iF,Result.andThen_ok]
        have:=hfin Z.cells (by simp[h0])
        simp[this,newRow]
    ·cases hq
   ·cases hq
 ·rename_i t l c
  split at hq
  ·cases hq
  ·rename_i u hu
   split at hq
   ·cases hq
   ·rename_i v hv
    have h1:=hρ _ _ hu
    have h2:=hρ _ _ hv
    unfold Aq at hq
    split at hq
    ·rename_i kl l' kc c'
     cases hL:R l<;>rw[hL]at h1<;>cases h1
     cases hC:R c<;>rw[hC]at h2<;>cases h2
     split at hq
     ·rename_i el hd
      split at hq
      ·rename_i z by_ zs hz hby hzs
       cases hb:(decide (0≤l')&&decide (l'≤c')&&decide (c'≤1000000000)&&decide ((by_:Int)*c'≤281474976710656)&&!zs.isEmpty)with
       |false=>simp[hb]at hq
       |true=>
        simp only[hb,aU,bv]at hq
        subst hq
        simp only[bj,ib]at hb
        obtain⟨⟨⟨⟨b1,b2⟩,b3⟩,b4⟩,b5⟩:=hb
        have hne:zs≠[]:=by intro e;rw[e]at b5;simp at b5
        obtain⟨inf,Z,g1,g2,g3⟩:=mC (P:=P) (γ:=γ) ht hzs
        obtain⟨inf',q1,q2⟩:=kg ht hz
        rw[g1]at q1
        cases q1
        have hbytes:inf.bytes=by_:=nr ht hby g1
        have hu2:P.underlying t=some (.slice el):=il ht hd
        have hrun:=run_make (P:=P) w t el inf Z hu2 g1 g2 kl kc l' c' b1 b2 (by rw[hbytes];exact b4) om
        have hcy:=zw g3 hne (c'.toNat*z)
        refine⟨_,_,?_,vy hr hi hi' hn hcy el z,.slc (x:=0) 0 l'.toNat c'.toNat hg⟩
        simp only[execOp,hL,hC,Sem.run_bind,hrun,Result.andThen_ok,Sem.run_pure]
        rw[←q2]
        simp[madeCells]
      ·cases hq
     ·cases hq
    ·cases hq
 ·cases hq
end
structure Hs where
 m:Tr ag
 nx:Nat
 tp:List Bool
 ms:List Prop
def Up (k:ag)(o:Nat)(vs:List AV):ag:={k with view:=.plain (k.cells.take o++vs++k.cells.drop (o+vs.length))}
def qu (h:Tr ag)(b o:Nat)(vs:List AV):Option (Tr ag):=
 match h.get b with
 |none=>none
 |some k=>bif k.own&&vs.all AV.one&&Nat.ble (o+vs.length) k.cells.length then h.set b (some (Up k o vs))else none
theorem ej {α:Type}{t t':Tr α}{n:Nat}{v:Option α}(h:t.set n v=some t'):t'.get=es t.get n v:=by
 funext m
 rw[Tr.get_set h m]
 rfl
theorem uF {γ:Gm}{h h':Tr ag}{nx:Nat}{w:World}(hr:aJ γ h.get nx w){b B x o:Nat}(hg:γ b=some (B,x)){vs:List AV}{Vs:List Value}(hv:ap γ vs Vs)(hq:qu h b o vs=some h')(P:Program):
 ∃w',(storeCells ⟨B,o,none⟩ Vs).run P w=.ok () w'∧be γ h.get w γ h'.get nx w':=by
 unfold qu at hq
 cases hk:h.get b with
 |none=>simp[hk]at hq
 |some k=>
  simp only[hk]at hq
  cases hb:(k.own&&vs.all AV.one&&Nat.ble (o+vs.length) k.cells.length)with
  |false=>simp[hb]at hq
  |true=>
   simp only[hb,aU]at hq
   obtain⟨b1,b2⟩:=bB hb
   obtain⟨b0,b1⟩:=bB b1
   obtain⟨w',h1,h2⟩:=hr.store hk b0 hg o hv b1 (aT b2) P
   refine⟨w',h1,?_⟩
   rw[ej hq]
   exact h2
def vz (ti:Tr TypeInfo)(h:Tr ag)(t:Nat)(x v:AV):Option (Tr ag):=
 match x with
 |.ptr b o=>match cC ti t with
  |none=>none
  |some n=>bif Nat.beq v.cells.length n then qu h b o v.cells else none
 |_=>none
theorem Dd {P:Program}{ti:Tr TypeInfo}(ht:dL P ti){γ:Gm}{h h':Tr ag}{nx:Nat}{w:World}(hr:aJ γ h.get nx w){t:Nat}{x v:AV}{X V:Value}(hx:aj γ x X)(hv:aj γ v V)(hq:vz ti h t x v=some h'):
 ∃w',(Instr.storeAt t X V).run P w=.ok () w'∧be γ h.get w γ h'.get nx w':=by
 unfold vz at hq
 split at hq
 ·rename_i b o
  cases hx with
  |ptr _ hg=>
   split at hq
   ·cases hq
   ·rename_i n hn
    cases hb:Nat.beq v.cells.length n with
    |false=>simp[hb]at hq
    |true=>
     simp only[hb,aU]at hq
     have hc:=hv.cells
     have hl:=hc.length
     obtain⟨w',h1,h2⟩:=uF hr hg hc hq P
     refine⟨w',?_,h2⟩
     have hsz:V.cells.size=n:=by rw[←aM hb,←hl];simp
     simp[Instr.storeAt,Instr.sureAddr,storeVar,di ht hn,hsz,h1]
 ·cases hq
def fN (ts:Array TypeId):Sem Bool:=
 match ts[1]? with
 |some xType=>do pure ((←underlying xType) matches .int _)
 |none=>pure false
def fO (elem:TypeId)(zeros:Bool)(x:Value):Sem Nat:=
 if zeros then do
  let l:=w6.wrap (←asInt x)
  if l<0 then runtimePanic (.error "makeslice: len out of range")
  if l*(←typeInfo elem).bytes>2^48 then
   let made←choose (.extern "append.ofMake.carriedOut" 2)
   runtimePanic (.error (if made==1 then "makeslice: len out of range" else "growslice: len out of range"))
  pure l.toNat
  else Builtin.lenOf x
def gp (size:Nat)(elem:TypeId)(zeros:Bool)(n:Nat)(x:Value):Sem (Array Value):=
 if !zeros then Builtin.firstCells size n x
 else if n*size=0 then pure #[]
 else do pure (Builtin.zeroCells (←zeroValue elem).cells n)
def jO (argTypes:Array TypeId)(args:Array Value):Sem Value:=do
 let(some sType,some s,some x):=(argTypes[0]?,args[0]?,args[1]?)|stuck "append: two arguments expected"
 let .slice elem←underlying sType|stuck "append: slice type expected"
 let .slice base sLen sCap:=s|stuck "append: slice expected"
 let size←sizeOf elem
 let zeros←fN argTypes
 let n←fO elem zeros x
 let appended:Sem (Array Value):=gp size elem zeros n x
 let need:=sLen+n
 if need≤sCap then
  let new←appended
  if let some a:=base then storeCells (a.add (sLen*size)) new.toList
  pure (.slice base need sCap)
 else
  if(need:Int)>IntKind.i64.max∧(zeros∨(←typeInfo elem).bytes=0)then runtimePanic (.error "growslice: len out of range")
  if Builtin.nextslicecap need sCap*(←typeInfo elem).bytes>2^48 then(if zeros then runtimePanic (.error "growslice: len out of range")else do
   if !(←Builtin.mayShare size sLen n base x)then mark .noRoom
   unsupported (.resourceLimit "append: a slice or a string whose bytes no memory bears"))
  let newCap←choose (.appendCap need sCap elem)
  askRoom (newCap*(←typeInfo elem).bytes)
  let old←Builtin.firstCells size sLen s
  let new←appended
  let rest:=Builtin.zeroCells (←zeroValue elem).cells (newCap-need)
  pure (.slice (some (←newRow elem (old++new++rest))) need newCap)
theorem MI (elem:TypeId)(x:Value)(K:Nat→Sem Value):(fO elem true x >>= K)=(do
 let a←asInt x
 if w6.wrap a<0 then
  runtimePanic (.error "makeslice: len out of range")
 if w6.wrap a*(←typeInfo elem).bytes>2^48 then
  let made←choose (.extern "append.ofMake.carriedOut" 2)
  runtimePanic (.error (if made==1 then "makeslice: len out of range" else "growslice: len out of range"))
 K (w6.wrap a).toNat):=by
 unfold fO
 simp only[fx,bind_assoc]
 congr 1
 funext a
 by_cases h1:w6.wrap a<0
 ·simp only[h1,fx,bind_assoc]
  congr 1
  funext _
  congr 1
  funext ii
  by_cases h2:w6.wrap a*ii.bytes>2^48
  ·simp only[h2,fx,bind_assoc,pure_bind]
  ·simp only[h2,iF,pure_bind]
 ·simp only[h1,iF,bind_assoc]
  congr 1
  funext ii
  by_cases h2:w6.wrap a*ii.bytes>2^48
  ·simp only[h2,fx,bind_assoc,pure_bind]
  ·simp only[h2,iF,pure_bind]
theorem rL (ts:Array TypeId)(ty:TypeId)(args:Array Value):Builtin.append_ ts ty args=jO ts args:=by
 unfold Builtin.append_ jO fN fO gp
 cases ts[0]? <;>cases args[0]? <;>cases args[1]? <;>try rfl
 rename_i sType s x
 simp only[]
 congr 1
 funext d
 cases d<;>try rfl
 rename_i elem
 cases s<;>try rfl
 rename_i base sLen sCap
 simp only[]
 congr 1
 funext size
 cases ts[1]? with
 |none=>simp only[pure_bind,nh,iF];rfl
 |some xType=>
  simp only[bind_assoc,pure_bind]
  congr 1
  funext u
  cases u<;>try rfl
  symm
  refine(MI elem x _).trans ?_
  rfl
section
variable {P:Program}(w:World)
theorem pS {t0 e size n sLen sCap:Nat}{i:TypeInfo}{ts:Array TypeId}{args:Array Value}{base:Option Addr}{x:Value}{zeros:Bool}{news:List Value}
 (ht0:ts[0]? =some t0)(ha0:args[0]? =some (.slice base sLen sCap))(ha1:args[1]? =some x)(hu:P.underlying t0=some (.slice e))(hi:P.info? e=some i)(hs:i.size=size)
 (hz:(fN ts).run P w=.ok zeros w)(hn:(fO e zeros x).run P w=.ok n w)(ha:(gp size e zeros n x).run P w=.ok news.toArray w)(hroom:sLen+n≤sCap):
 (jO ts args).run P w=(match base with
   |some a=>((storeCells (a.add (sLen*size)) news).run P w).andThen fun _ w'=>.ok (.slice base (sLen+n) sCap) w'
   |none=>.ok (.slice base (sLen+n) sCap) w):=by
 unfold jO
 simp only[ht0,ha0,ha1,Sem.run_bind,run_underlying hu,Result.andThen_ok,sizeOf,typeInfo,run_program,hi,hs,Sem.run_pure,hz,hn,Sem.run_ite,hroom,fx,ha]
 cases base<;>simp
theorem Ll {t0 e size n sLen sCap:Nat}{i:TypeInfo}{z:Value}{ts:Array TypeId}{args:Array Value}{base:Option Addr}{x:Value}{zeros:Bool}{olds news:List Value}
 (ht0:ts[0]? =some t0)(ha0:args[0]? =some (.slice base sLen sCap))(ha1:args[1]? =some x)(hu:P.underlying t0=some (.slice e))(hi:P.info? e=some i)(hs:i.size=size)(hz0:i.zero=some z)
 (hz:(fN ts).run P w=.ok zeros w)(hn:(fO e zeros x).run P w=.ok n w)(ha:(gp size e zeros n x).run P w.drew=.ok news.toArray w.drew)(ho:(Builtin.firstCells size sLen (.slice base sLen sCap)).run P w.drew=.ok olds.toArray w.drew)
 (hroom:sCap<sLen+n)(h63:sLen+n≤9223372036854775807)(hb:(sLen+n)*i.bytes≤140737488355328):
 (jO ts args).run P w=.ok (.slice (some ⟨w.heap.size,0,none⟩) (sLen+n) (grownCap w (sLen+n) sCap e))
   (w.drew.alloc (.cells (olds.toArray++news.toArray++Builtin.zeroCells z.cells (grownCap w (sLen+n) sCap e-(sLen+n))) e)):=by
 have h1:¬(sLen+n≤sCap):=by omega
 have h2:¬(((sLen+n:Nat):Int)>IntKind.i64.max):=by rw[IntKind.max_i64];omega
 have h3:¬(Builtin.nextslicecap (sLen+n) sCap*i.bytes>2^48):=by have:=growslice_fits hroom hb;omega
 unfold jO
 simp only[ht0,ha0,ha1,Sem.run_bind,run_underlying hu,Result.andThen_ok,sizeOf,typeInfo,run_program,hi,hs,Sem.run_pure,hz,hn,Sem.run_ite,h1,iF,h2,h3,false_and,run_choose,Question.forced,nh,World.drew_eq,run_askRoom,zeroValue,hz0,ha,ho,newRow,run_newObj,World.alloc_eq]
 rfl
end
def nP (ti:Tr TypeInfo)(h:Tr ag)(e z:Nat)(t:Nat)(x:AV):Option (Nat×List AV):=
 match bN ti t with
 |some (.slice _)=>match x with
  |.slc b o n _=>match h.get b with
   |none=>none
   |some k=>bif Nat.ble (o+n*z) k.cells.length then some (n,(k.cells.drop o).take (n*z))else none
  |.nils=>some (0,[])
  |.emp=>some (0,[])
  |.zer=>some (0,[])
  |_=>none
 |some .string=>match x with
  |.str s=>bif Nat.beq z 1 then some (s.size,s.data.toList.map fun b=>.int .u8 b.toNat)else none
  |_=>none
 |some (.int _)=>match x with
  |.int _ l=>match lP ti e,jc ti e with
   |some by_,some zs=>bif decide (0≤l)&&decide (l≤1000000)&&decide (l*by_≤281474976710656)&&!zs.isEmpty&&Nat.beq zs.length z then some (l.toNat,wX zs (l.toNat*z))else none
   |_,_=>none
  |_=>none
 |_=>none
theorem De (γ:Gm)(l:List UInt8):ap γ (l.map fun b=>.int .u8 b.toNat) (l.map fun b=>Value.int .u8 b.toNat):=by
 induction l with
 |nil=>exact .nil
 |cons b l ih=>exact .cons (.int _ _) ih
theorem sd {P:Program}{ti:Tr TypeInfo}(ht:dL P ti){γ:Gm}{h:Tr ag}{nx:Nat}{w:World}(hr:aJ γ h.get nx w){e z t:Nat}(hz:cC ti e=some z){x:AV}{X:Value}(hx:aj γ x X){n:Nat}{vs:List AV}(hq:nP ti h e z t x=some (n,vs))
 {ts:Array TypeId}(ht1:ts[1]? =some t):
 ∃zeros news,(fN ts).run P w=.ok zeros w∧(fO e zeros X).run P w=.ok n w∧(∀w',w'.heap=w.heap→(gp z e zeros n X).run P w'=.ok news.toArray w')∧ap γ vs news∧news.length=n*z:=by
 unfold nP at hq
 split at hq
 ·rename_i e' hd
  have hZ:(fN ts).run P w=.ok false w:=by simp[fN,ht1,bF ht hd]
  refine⟨false,?_⟩
  split at hq
  ·rename_i b o m c
   cases hx with
   |slc _ _ _ hg=>
    split at hq
    ·cases hq
    ·rename_i k hk
     cases hb:Nat.ble (o+m*z) k.cells.length with
     |false=>simp[hb]at hq
     |true=>
      simp only[hb,aU,bv,dh]at hq
      obtain⟨rfl,rfl⟩:=hq
      obtain⟨Vs,g1,g2,g3⟩:=hr.load hk hg o (m*z) (aT hb)
      refine⟨Vs,hZ,by simp[fO,Builtin.lenOf],fun w' hw'=>?_,g1,g2⟩
      simp only[gp,lH,fx]
      refine run_firstCells_some (P:=P) w' z m _ _ _ Vs g2 (fun j v hv=>?_)
      have:=g3 j v hv
      simpa [World.cell?,hw']using this
  ·cases hq;cases hx;exact⟨[],hZ,by simp[fO,Builtin.lenOf],fun w' _=>by simp[gp,Builtin.firstCells],.nil,si⟩
  ·cases hq
   cases hx
   rename_i a c
   refine⟨[],hZ,by simp[fO,Builtin.lenOf],fun w' _=>?_,.nil,si⟩
   cases a<;>simp[gp,Builtin.firstCells,loadCells,loadCellsFrom]
  ·cases hq;cases hx;exact⟨[],hZ,by simp[fO,Builtin.lenOf],fun w' _=>by simp[gp,Builtin.firstCells,loadCells,loadCellsFrom],.nil,si⟩
  ·cases hq
 ·rename_i hd
  have hZ:(fN ts).run P w=.ok false w:=by simp[fN,ht1,bF ht hd]
  refine⟨false,?_⟩
  split at hq
  ·rename_i s
   cases hx
   cases hb:Nat.beq z 1 with
   |false=>simp[hb]at hq
   |true=>
    simp only[hb,aU,bv,dh]at hq
    obtain⟨rfl,rfl⟩:=hq
    refine⟨s.data.toList.map fun b=>Value.int .u8 b.toNat,hZ,by simp[fO,Builtin.lenOf],fun w' _=>?_,De γ _,by rw[aM hb];simp⟩
    simp only[gp,lH,fx,Builtin.firstCells,Sem.run_pure]
    congr 1
    apply Array.ext'
    have:s.extract 0 s.size=s:=by simp
    rw[this]
    simp
  ·cases hq
 ·rename_i k hd
  have hZ:(fN ts).run P w=.ok true w:=by simp[fN,ht1,bF ht hd]
  refine⟨true,?_⟩
  split at hq
  ·rename_i kk l
   cases hx
   split at hq
   ·rename_i by_ zs hby hzs
    cases hb:(decide (0≤l)&&decide (l≤1000000)&&decide (l*by_≤281474976710656)&&!zs.isEmpty&&Nat.beq zs.length z)with
    |false=>simp[hb]at hq
    |true=>
     simp only[hb,aU,bv,dh]at hq
     obtain⟨rfl,rfl⟩:=hq
     simp only[bj,ib]at hb
     obtain⟨⟨⟨⟨b1,b2⟩,b3⟩,b4⟩,b5⟩:=hb
     have b5:=aM b5
     have hne:zs≠[]:=by intro e;rw[e]at b4;simp at b4
     obtain⟨inf,Z,g1,g2,g3⟩:=mC (P:=P) (γ:=γ) ht hzs
     have hbytes:inf.bytes=by_:=nr ht hby g1
     have hZl:Z.cells.size=z:=by have:=g3.length;simp at this;omega
     have hcy:=zw g3 hne (l.toNat*z)
     refine⟨((Array.range (l.toNat*z)).map (Z.cells[·%Z.cells.size]!)).toList,hZ,?_,fun w' _=>?_,hcy,si⟩
     ·have wl:w6.wrap l=l:=by rw[IntKind.wrap_i64];omega
      have n1:¬l<0:=by omega
      have n2:¬(l*inf.bytes>2^48):=by rw[hbytes];omega
      simp only[fO,fx,Sem.run_bind,asInt,asIntOf,Sem.run_pure,Result.andThen_ok,wl,Sem.run_ite,n1,iF,typeInfo,run_program,g1,n2]
     ·simp only[gp,oD,nh,iF]
      by_cases h0:l.toNat*z=0
      ·simp[h0,Array.range_zero']
      ·simp[h0,zeroValue,typeInfo,g1,g2,Builtin.zeroCells,hZl]
       apply Array.ext'
       simp
   ·cases hq
  ·cases hq
 ·cases hq
def A5 (ti:Tr TypeInfo)(h:Tr ag)(i t0 t1:Nat)(s x:AV):Option (AV×Tr ag):=
 match bN ti t0 with
 |some (.slice e)=>match cC ti e,lP ti e,jc ti e with
  |some z,some by_,some zs=>match nP ti h e z t1 x with
   |none=>none
   |some (n,vs)=>
    bif !Nat.beq zs.length z||!vs.all AV.one then none else
    let grown (olds:List AV) (m:Nat) (h:Tr ag):Option (AV×Tr ag):=
     bif Nat.ble (m+n) 1000000000&&Nat.ble ((m+n)*by_) 140737488355328 then
      match h.set i (some ⟨.plain (olds++vs),e,z,true,true⟩)with
      |none=>none
      |some h'=>some (.slc i 0 (m+n) (m+n),h')
     else none
    match s with
    |.nils=>bif Nat.beq n 0 then some (.nils,h)else grown [] 0 h
    |.zer=>bif Nat.beq n 0 then some (.zer,h)else grown [] 0 h
    |.emp=>bif Nat.beq n 0 then some (.emp,h)else none
    |.slc b o m c=>match h.get b with
     |none=>none
     |some k=>
      bif Nat.ble (m+n) c then
       match qu h b (o+m*z) vs with
       |none=>none
       |some h'=>some (.slc b o (m+n) c,h')
      else bif !k.opn then
       (bif Nat.ble (o+m*z) k.cells.length then grown ((k.cells.drop o).take (m*z)) m h else none)
      else
       (bif Nat.beq o 0&&Nat.beq k.cells.length (c*z)&&k.own&&Nat.beq k.sz z&&Nat.beq k.elem e&&Nat.ble m c then
         match h.set b none with
         |none=>none
         |some h1=>grown (k.cells.take (m*z)) m h1
       else none)
    |_=>none
  |_,_,_=>none
 |_=>none
theorem be.weaken {γ γ':Gm}{f f1 f':Hf}{nx':Nat}{w w':World}(h:be γ f1 w γ' f' nx' w')(hsub:∀b k,f1 b=some k→f b=some k)(hs:∀k,eQ γ f1 k→eQ γ f k):be γ f w γ' f' nx' w':=
 ⟨h.le,h.rel,h.size,h.os,h.tape,h.output,fun k hk hn=>h.frame k hk (fun ho=>hn (hs k ho)),fun k hk ho=>hs k (h.own k hk ho),fun b k hb ho=>hsub b k (h.ro b k hb ho),fun b k hb=>(h.dom b k hb).imp (fun⟨k',hk'⟩=>⟨k',hsub b k' hk'⟩) id,fun B x hB=>(h.fzn B x hB).imp id (Or.imp id (hs B)),h.drawn⟩
theorem eQ.sub {γ:Gm}{f f1:Hf}(hs:∀b k,f1 b=some k→f b=some k){k:Nat}(h:eQ γ f1 k):eQ γ f k:=by
 obtain⟨b,kk,x,h1,h2,h3⟩:=h
 exact⟨b,kk,x,hs _ _ h1,h2,h3⟩
section
variable {P:Program}{ti:Tr TypeInfo}
theorem p9 {γ:Gm}{f f1:Hf}{nx:Nat}{w:World}(hr:aJ γ f nx w)(hsub:∀b k,f1 b=some k→f b=some k){i nx':Nat}(hi:γ i=none)(hi':i<nx')(hn:nx≤nx')
 {t0 e z n m sCap:Nat}{inf:TypeInfo}{Z:Value}{ts:Array TypeId}{args:Array Value}{base:Option Addr}{X:Value}{zeros:Bool}{olds vs:List AV}{Olds news:List Value}
 (ht0:ts[0]? =some t0)(ha0:args[0]? =some (.slice base m sCap))(ha1:args[1]? =some X)(hu:P.underlying t0=some (.slice e))(hinf:P.info? e=some inf)(hsz:inf.size=z)(hz0:inf.zero=some Z)(hZ:Z.cells.size=z)
 (hz:(fN ts).run P w=.ok zeros w)(hN:(fO e zeros X).run P w=.ok n w)(hA:(gp z e zeros n X).run P w.drew=.ok news.toArray w.drew)(hO:(Builtin.firstCells z m (.slice base m sCap)).run P w.drew=.ok Olds.toArray w.drew)
 (hroom:sCap<m+n)(h63:m+n≤1000000000)(hb:(m+n)*inf.bytes≤140737488355328)(hol:ap γ olds Olds)(hvs:ap γ vs news):
 ∃V γ' w',(jO ts args).run P w=.ok V w'∧be γ f w γ' (es f1 i (some ⟨.plain (olds++vs),e,z,true,true⟩)) nx' w'∧aj γ' (.slc i 0 (m+n) (m+n)) V∧∀j,j≠i→γ' j=γ j:=by
 have hrun:=Ll (P:=P) w ht0 ha0 ha1 hu hinf hsz hz0 hz hN hA hO hroom om hb
 have hge:=grownCap_ge w (m+n) sCap e
 have hstp:=(hr.sub hsub).new i nx' hi hi' hn (hol.append hvs) (ex:=(Builtin.zeroCells Z.cells (grownCap w (m+n) sCap e-(m+n))).toList) e z true (grownCap w (m+n) sCap e-(m+n)) (by simp[size_zeroCells,hZ]) si (w1:=w.drew) rfl rfl rfl rfl (Nat.le_succ _)
 refine⟨_,γ.put i (some (w.heap.size,grownCap w (m+n) sCap e-(m+n))),_,hrun,?_,?_,fun j hj=>Gm.put_other _ _ hj⟩
 ·have:=hstp.weaken hsub (fun k=>eQ.sub hsub (k:=k))
  have e1:((Olds++news)++(Builtin.zeroCells Z.cells (grownCap w (m+n) sCap e-(m+n))).toList).toArray=(Olds.toArray++news.toArray++Builtin.zeroCells Z.cells (grownCap w (m+n) sCap e-(m+n))):=by
   apply Array.ext'
   simp
  rw[e1]at this
  exact this
 ·have hv:aj (γ.put i (some (w.heap.size,grownCap w (m+n) sCap e-(m+n)))) (.slc i 0 (m+n) (m+n)) (.slice (some ⟨w.heap.size,0,none⟩) (m+n) ((m+n)+(grownCap w (m+n) sCap e-(m+n)))):=.slc 0 (m+n) (m+n) (Gm.put_same _ _ _)
  rwa[show(m+n)+(grownCap w (m+n) sCap e-(m+n))=grownCap w (m+n) sCap e by omega]at hv
theorem PX (ht:dL P ti){γ:Gm}{h h':Tr ag}{nx:Nat}{w:World}(hr:aJ γ h.get nx w){i nx':Nat}(hi:γ i=none)(hi':i<nx')(hn:nx≤nx'){t0 t1:Nat}{s x v:AV}{S X:Value}(hs:aj γ s S)(hx:aj γ x X)
 (hq:A5 ti h i t0 t1 s x=some (v,h')){ts:Array TypeId}{args:Array Value}(ty:TypeId)(ht0:ts[0]? =some t0)(ht1:ts[1]? =some t1)(ha0:args[0]? =some S)(ha1:args[1]? =some X):
 ∃V γ' w',(Builtin.append_ ts ty args).run P w=.ok V w'∧be γ h.get w γ' h'.get nx' w'∧aj γ' v V∧∀j,j≠i→γ' j=γ j:=by
 rw[rL]
 unfold A5 at hq
 split at hq
 case h_2=>cases hq
 rename_i e hd
 have hu:P.underlying t0=some (.slice e):=il ht hd
 split at hq
 case h_2=>cases hq
 rename_i z by_ zs hz hby hzs
 obtain⟨inf,Z,g1,g2,g3⟩:=mC (P:=P) (γ:=γ) ht hzs
 obtain⟨inf',q1,q2⟩:=kg ht hz
 rw[g1]at q1
 cases q1
 have hbytes:inf.bytes=by_:=nr ht hby g1
 split at hq
 ·cases hq
 rename_i n vs hsrc
 obtain⟨zeros,news,c1,c2,c3,c4,c5⟩:=sd ht hr hz hx hsrc ht1
 have c3w:=c3 w rfl
 have c3d:=c3 w.drew rfl
 cases hzl:(!Nat.beq zs.length z||!vs.all AV.one)with
 |true=>simp[hzl]at hq
 |false=>
  simp only[hzl,bt]at hq
  have hzl':zs.length=z∧vs.all AV.one=true:=by
   cases a1:Nat.beq zs.length z with
   |false=>rw[a1]at hzl;simp at hzl
   |true=>
    rw[a1]at hzl
    exact⟨aM a1,by simpa using hzl⟩
  obtain⟨hzl1,hone⟩:=hzl'
  have hZ:Z.cells.size=z:=by have:=g3.length;simp at this;omega
  -- what growing gives
  have grown:∀(olds:List AV)(m:Nat)(h1:Tr ag)(base:Option Addr)(sCap:Nat)(Olds:List Value),(bif Nat.ble (m+n) 1000000000&&Nat.ble ((m+n)*by_) 140737488355328 then
   match h1.set i (some ⟨.plain (olds++vs),e,z,true,true⟩)with
   |none=>none
   |some h'=>some (AV.slc i 0 (m+n) (m+n),h')
   else none)=some (v,h')→(∀b k,h1.get b=some k→h.get b=some k)→S=.slice base m sCap→(Builtin.firstCells z m (.slice base m sCap)).run P w.drew=.ok Olds.toArray w.drew→sCap<m+n→ap γ olds Olds→
   ∃V γ' w',(jO ts args).run P w=.ok V w'∧be γ h.get w γ' h'.get nx' w'∧aj γ' v V∧∀j,j≠i→γ' j=γ j:=by
   intro olds m h1 base sCap Olds hg hsub hS hO hroom hol
   cases hb:(Nat.ble (m+n) 1000000000&&Nat.ble ((m+n)*by_) 140737488355328)with
   |false=>simp[hb]at hg
   |true=>
    simp only[hb,aU]at hg
    obtain⟨b1,b2⟩:=bB hb
    split at hg
    ·cases hg
    ·rename_i h2 hset
     cases hg
     rw[ej hset]
     exact p9 hr hsub hi hi' hn ht0 (by rw[ha0,hS]) ha1 hu g1 q2 g2 hZ c1 c2 c3d hO hroom (aT b1) (by rw[hbytes];exact aT b2) hol c4
  have still:n=0→∀(base:Option Addr)(c:Nat),S=.slice base 0 c→(jO ts args).run P w=.ok (.slice base 0 c) w:=by
   intro h0 base c hS
   subst h0
   have hnews:news=[]:=kP (by simpa using c5)
   subst hnews
   have:=pS (P:=P) w ht0 (by rw[ha0,hS]) ha1 hu g1 q2 c1 c2 c3w (sLen:=0) (sCap:=c) (base:=base) om
   rw[this]
   cases base<;>simp[storeCells]
  have stay:aJ γ h.get nx' w:=hr.nx_mono hn
  split at hq
  ·-- nil
   cases hb:Nat.beq n 0 with
   |true=>
    simp only[hb,aU,bv,dh]at hq
    obtain⟨rfl,rfl⟩:=hq
    cases hs
    exact⟨_,γ,w,still (aM hb) none 0 rfl,be.refl stay,.nils,fun _ _=>rfl⟩
   |false=>
    simp only[hb,bt]at hq
    have h0:=mH hb
    cases hs
    exact grown [] 0 h none 0 [] hq (fun _ _ h=>h) rfl (by simp[Builtin.firstCells]) om .nil
  ·-- an empty slice without capacity
   cases hb:Nat.beq n 0 with
   |true=>
    simp only[hb,aU,bv,dh]at hq
    obtain⟨rfl,rfl⟩:=hq
    cases hs
    exact⟨_,γ,w,still (aM hb) _ 0 rfl,be.refl stay,.zer _,fun _ _=>rfl⟩
   |false=>
    simp only[hb,bt]at hq
    have h0:=mH hb
    cases hs
    exact grown [] 0 h _ 0 [] hq (fun _ _ h=>h) rfl (by simp[Builtin.firstCells,loadCells,loadCellsFrom]) om .nil
  ·cases hb:Nat.beq n 0 with
   |true=>
    simp only[hb,aU,bv,dh]at hq
    obtain⟨rfl,rfl⟩:=hq
    cases hs
    exact⟨_,γ,w,still (aM hb) _ _ rfl,be.refl stay,.emp _ _,fun _ _=>rfl⟩
   |false=>simp[hb]at hq
  ·rename_i b o m c
   cases hs with
   |slc _ _ _ hg=>
    rename_i B x
    split at hq
    ·cases hq
    ·rename_i k hk
     cases hle:Nat.ble (m+n) c with
     |true=>
      simp only[hle,aU]at hq
      have hle:=aT hle
      split at hq
      ·cases hq
      ·rename_i h2 hst
       cases hq
       obtain⟨w',s1,s2⟩:=uF hr hg c4 hst P
       refine⟨_,γ,w',?_,⟨s2.le,s2.rel.nx_mono hn,s2.size,s2.os,s2.tape,s2.output,s2.frame,s2.own,s2.ro,s2.dom,s2.fzn,s2.drawn⟩,.slc o (m+n) c hg,fun _ _=>rfl⟩
       rw[pS (P:=P) w ht0 ha0 ha1 hu g1 q2 c1 c2 c3w om]
       simp only[dl,s1,Result.andThen_ok]
     |false=>
      simp only[hle,bt]at hq
      have hle:c<m+n:=by
       rcases bA c (m+n)with h'|h'
       ·exact h'
       ·rw[fW h']at hle;cases hle
      cases hop:k.opn with
      |false=>
       simp only[hop,lH,aU]at hq
       have hx0:x=0:=by
        obtain⟨B',x',cs,ex,p1,p2,p3,p4,p5⟩:=hr.blk b k hk
        rw[hg]at p1;cases p1;exact p5 hop
       subst hx0
       cases hl:Nat.ble (o+m*z) k.cells.length with
       |false=>simp[hl]at hq
       |true=>
        simp only[hl,aU]at hq
        obtain⟨Vs,p1,p2,p3⟩:=hr.load hk hg o (m*z) (aT hl)
        refine grown _ m h _ _ Vs hq (fun _ _ h=>h) rfl ?_ om p1
        exact run_firstCells_some (P:=P) w.drew z m _ _ _ Vs p2 (fun j u hu=>by simpa using p3 j u hu)
      |true=>
       simp only[hop,oD,bt]at hq
       cases hc:(Nat.beq o 0&&Nat.beq k.cells.length (c*z)&&k.own&&Nat.beq k.sz z&&Nat.beq k.elem e&&Nat.ble m c)with
       |false=>simp[hc]at hq
       |true=>
        simp only[hc,aU]at hq
        simp only[bj]at hc
        obtain⟨⟨⟨⟨⟨d1,d2⟩,d3⟩,d4⟩,d5⟩,d6⟩:=hc
        have d1:=aM d1
        have d2:=aM d2
        have d4:=aM d4
        have d5:=aM d5
        have d6:=aT d6
        subst d1
        split at hq
        ·cases hq
        ·rename_i h1 hkill
         have hget1:=ej hkill
         have hsub:∀b' k',h1.get b'=some k'→h.get b'=some k':=by
          intro b' k' hb'
          rw[hget1]at hb'
          by_cases e1:b'=b
          ·subst e1;rw[eU]at hb';cases hb'
          ·rw[dj _ _ e1]at hb';exact hb'
         obtain⟨B',x',cs,ex,p1,p2,p3,p4,p5⟩:=hr.blk b k hk
         rw[hg]at p1
         cases p1
         have hcl:=p3.length
         have hmz:m*z≤c*z:=iT _ d6
         by_cases hroom:m+n≤c+x
         ·-- at its place
          cases hb:(Nat.ble (m+n) 1000000000&&Nat.ble ((m+n)*by_) 140737488355328)with
          |false=>simp[hb]at hq
          |true=>
           simp only[hb,aU]at hq
           split at hq
           ·cases hq
           ·rename_i h2 hset
            cases hq
            have hnl:=c4.length
            have hfit:(m+n)*z≤(c+x)*z:=iT _ hroom
            have htot:(cs++ex).length=(c+x)*z:=by
             rw[fV,hcl,d2,p4,d4,gG]
            have hst:=run_storeCells_at P B (m*z) k.elem news 0 (cs++ex).toArray w p2 (by
             simp only[pO]
             rw[htot,c5,fv,←gG];exact hfit) (c4.ones hone)
            have hrun:=pS (P:=P) w ht0 ha0 ha1 hu g1 q2 c1 c2 c3w hroom
            simp only[dl,gF,hst,Result.andThen_ok]at hrun
            have hren:=hr.rename hk d3 hg i nx' hi hi' hn (vs:=k.cells.take (m*z)++vs) (Vs:=cs.take (m*z)++news) (ex:=(cs++ex).drop ((m+n)*z)) ((p3.take (m*z)).append c4) (c+x-(m+n)) (by
             rw[rF,htot,d4,←Nat.sub_mul])
            refine⟨_,γ.put i (some (B,c+x-(m+n))),_,hrun,?_,?_,fun j hj=>Gm.put_other _ _ hj⟩
            ·rw[ej hset,hget1]
             rw[d4,d5]at hren
             have e3:(cs++ex).take (m*z+0)++news++(cs++ex).drop (m*z+0+news.length)=(cs.take (m*z)++news)++(cs++ex).drop ((m+n)*z):=by
              simp only[fv,c5,←gG]
              rw[rA om]
             rw[e3]
             exact hren
            ·have hv:aj (γ.put i (some (B,c+x-(m+n)))) (.slc i 0 (m+n) (m+n)) (.slice (some ⟨B,0,none⟩) (m+n) ((m+n)+(c+x-(m+n)))):=.slc 0 (m+n) (m+n) (Gm.put_same _ _ _)
             rwa[show(m+n)+(c+x-(m+n))=c+x by omega]at hv
         ·-- anew
          obtain⟨Vs,r1,r2,r3⟩:=hr.load hk hg 0 (m*z) om
          rw[oB]at r1
          refine grown _ m h1 _ _ Vs hq hsub rfl ?_ om r1
          exact run_firstCells_some (P:=P) w.drew z m _ _ _ Vs r2 (fun j u hu=>by simpa using r3 j u hu)
  ·cases hq
noncomputable def AI (ti:Tr TypeInfo)(h:Tr ag)(t0:Nat)(d x:AV):Option (AV×Tr ag):=
 match bN ti t0 with
 |some (.slice e)=>match cC ti e with
  |none=>none
  |some z=>match d with
   |.slc b o dn _=>match x with
    |.slc b2 o2 n _=>match h.get b2 with
     |none=>none
     |some k=>
      let c:=Nat.min n dn
      bif Nat.ble (o2+c*z) k.cells.length then
       match qu h b o ((k.cells.drop o2).take (c*z))with
       |none=>none
       |some h'=>some (.int .i64 c,h')
      else none
    |.nils=>some (.int .i64 0,h)
    |.emp=>some (.int .i64 0,h)
    |.zer=>some (.int .i64 0,h)
    |.str s=>bif Nat.beq z 1 then
     let c:=Nat.min s.size dn
     match qu h b o (((s.extract 0 c).data.toList).map fun u=>.int .u8 u.toNat)with
     |none=>none
     |some h'=>some (.int .i64 c,h')
     else none
    |_=>none
   |_=>none
 |_=>none
theorem Oq (ht:dL P ti){γ:Gm}{h h':Tr ag}{nx:Nat}{w:World}(hr:aJ γ h.get nx w){t0:Nat}{d x v:AV}{D X:Value}(hd:aj γ d D)(hx:aj γ x X)
 (hq:AI ti h t0 d x=some (v,h')){ts:Array TypeId}{args:Array Value}(ty:TypeId)(ht0:ts[0]? =some t0)(ha0:args[0]? =some D)(ha1:args[1]? =some X):
 ∃V w',(Builtin.copy_ ts ty args).run P w=.ok V w'∧be γ h.get w γ h'.get nx w'∧aj γ v V:=by
 unfold AI at hq
 split at hq
 case h_2=>cases hq
 rename_i e hu
 split at hq
 ·cases hq
 rename_i z hz
 split at hq
 case h_2=>cases hq
 rename_i b o dn dc
 cases hd with
 |slc _ _ _ hg=>
  rename_i B xx
  split at hq
  ·rename_i b2 o2 n c2
   cases hx with
   |slc _ _ _ hg2=>
    split at hq
    ·cases hq
    ·rename_i k hk
     cases hl:Nat.ble (o2+Nat.min n dn*z) k.cells.length with
     |false=>simp[hl]at hq
     |true=>
      simp only[hl,aU]at hq
      split at hq
      ·cases hq
      ·rename_i h2 hst
       cases hq
       obtain⟨Vs,p1,p2,p3⟩:=hr.load hk hg2 o2 (Nat.min n dn*z) (aT hl)
       obtain⟨w',s1,s2⟩:=uF hr hg p1 hst P
       refine⟨_,w',?_,s2,.int _ _⟩
       have hf:=fun cap=>run_firstCells_some (P:=P) w z (Nat.min n dn) _ n cap Vs p2 p3
       simp only[Builtin.copy_,ht0,ha0,ha1,Sem.run_bind,bF ht hu,Result.andThen_ok,Builtin.lenOf,Sem.run_pure,di ht hz,hf,s1,goInt]
  ·cases hq
   cases hx
   refine⟨_,w,?_,be.refl hr,.int _ _⟩
   have:Nat.min 0 dn=0:=Nat.zero_min dn
   simp[Builtin.copy_,ht0,ha0,ha1,bF ht hu,Builtin.lenOf,di ht hz,this,Builtin.firstCells,storeCells,goInt]
  ·cases hq
   cases hx
   rename_i a cc
   refine⟨_,w,?_,be.refl hr,.int _ _⟩
   have:Nat.min 0 dn=0:=Nat.zero_min dn
   cases a<;>simp[Builtin.copy_,ht0,ha0,ha1,bF ht hu,Builtin.lenOf,di ht hz,this,Builtin.firstCells,storeCells,goInt,loadCells,loadCellsFrom]
  ·cases hq
   cases hx
   refine⟨_,w,?_,be.refl hr,.int _ _⟩
   have:Nat.min 0 dn=0:=Nat.zero_min dn
   simp[Builtin.copy_,ht0,ha0,ha1,bF ht hu,Builtin.lenOf,di ht hz,this,Builtin.firstCells,storeCells,goInt,loadCells,loadCellsFrom]
  ·rename_i s
   cases hx
   cases hb:Nat.beq z 1 with
   |false=>simp[hb]at hq
   |true=>
    simp only[hb,aU]at hq
    split at hq
    ·cases hq
    ·rename_i h2 hst
     cases hq
     obtain⟨w',s1,s2⟩:=uF hr hg (De γ _) hst P
     refine⟨_,w',?_,s2,.int _ _⟩
     simp only[Builtin.copy_,ht0,ha0,ha1,Sem.run_bind,bF ht hu,Result.andThen_ok,Builtin.lenOf,Sem.run_pure,di ht hz,Builtin.firstCells,Array.toList_map,s1,goInt]
  ·cases hq
end
section
def clr:AV→AV
 |.vbool b=>.bool b
 |.vint k n=>.int k n
 |.vstr s=>.str s
 |v=>v
def tnt:AV→AV
 |.bool b=>.vbool b
 |.int k n=>.vint k n
 |.str s=>.vstr s
 |v=>v
def pC:AV→Bool
 |.vbool _=>true
 |.vint _ _=>true
 |.vstr _=>true
 |_=>false
theorem aj.clr {γ:Gm}{v:AV}{V:Value}(h:aj γ v V):aj γ (clr v) V:=by
 cases h with
 |vbool b=>exact .bool b
 |vint k n=>exact .int k n
 |vstr s=>exact .str s
 |verr h=>exact .verr h
 |vnum k n=>exact .vnum k n
 |ro h=>exact .ro h
 |rp h hf=>exact .rp h hf
 |lo n h=>exact .lo n h
 |lp i z j h=>exact .lp i z j h
 |ls o z e h ha hc he=>exact .ls o z e h ha hc he
 |z0 a=>exact .z0 a
 |bool b=>exact .bool b
 |int k n=>exact .int k n
 |str s=>exact .str s
 |ptr o h=>exact .ptr o h
 |nilp=>exact .nilp
 |slc o n c h=>exact .slc o n c h
 |nils=>exact .nils
 |emp a c=>exact .emp a c
 |zer a=>exact .zer a
 |fn f h=>exact .fn f h
 |nilfn=>exact .nilfn
 |ifc t h=>exact .ifc t h
 |nilif=>exact .nilif
 |agg h=>exact .agg h
 |tup h=>exact .tup h
theorem aj.tnt {γ:Gm}{v:AV}{V:Value}(h:aj γ v V):aj γ (tnt v) V:=by
 cases h with
 |vbool b=>exact .vbool b
 |vint k n=>exact .vint k n
 |vstr s=>exact .vstr s
 |verr h=>exact .verr h
 |vnum k n=>exact .vnum k n
 |ro h=>exact .ro h
 |rp h hf=>exact .rp h hf
 |lo n h=>exact .lo n h
 |lp i z j h=>exact .lp i z j h
 |ls o z e h ha hc he=>exact .ls o z e h ha hc he
 |z0 a=>exact .z0 a
 |bool b=>exact .vbool b
 |int k n=>exact .vint k n
 |str s=>exact .vstr s
 |ptr o h=>exact .ptr o h
 |nilp=>exact .nilp
 |slc o n c h=>exact .slc o n c h
 |nils=>exact .nils
 |emp a c=>exact .emp a c
 |zer a=>exact .zer a
 |fn f h=>exact .fn f h
 |nilfn=>exact .nilfn
 |ifc t h=>exact .ifc t h
 |nilif=>exact .nilif
 |agg h=>exact .agg h
 |tup h=>exact .tup h
mutual
theorem bZ.av {γ:Gm}{r:RV}{V:Value}(h:bZ γ.fz r V):aj γ r.av V:=by
 cases h with
 |bool b=>simp only[RV.av];exact .vbool b
 |int k n=>simp only[RV.av];exact .vint k n
 |str s=>simp only[RV.av];exact .vstr s
 |err h=>simp only[RV.av];exact .verr h
 |sl0 sz row a c hn=>simp only[RV.av];exact .ro (.sl0 _ _ _ _ hn)
 |sl cs hc hl hf h=>simp only[RV.av];exact .ro (.sl cs hc hl hf h)
 |agg h=>simp only[RV.av];exact .agg (bY.avl h)
 |tup h=>simp only[RV.av];exact .tup (bY.avl h)
theorem bY.avl {γ:Gm}{rs:List RV}{Vs:List Value}(h:bY γ.fz rs Vs):ap γ (RV.avl rs) Vs:=by
 cases h with
 |nil=>simp only[RV.avl];exact .nil
 |cons h t=>simp only[RV.avl];exact .cons (bZ.av h) (bY.avl t)
end
theorem bY.length {F:Fz}{vs:List RV}{Vs:List Value}(h:bY F vs Vs):Vs.length=vs.length:=by
 induction vs generalizing Vs with
 |nil=>cases h;rfl
 |cons v vs ih=>cases h with|cons h t=>simp[ih t]
theorem bY.drop {F:Fz}{vs:List RV}{Vs:List Value}(h:bY F vs Vs)(n:Nat):bY F (vs.drop n) (Vs.drop n):=by
 induction vs generalizing Vs n with
 |nil=>cases h;simp;exact .nil
 |cons v vs ih=>
  cases h with
  |cons h t=>
   cases n with
   |zero=>exact .cons h t
   |succ n=>exact ih t n
theorem bY.take {F:Fz}{vs:List RV}{Vs:List Value}(h:bY F vs Vs)(n:Nat):bY F (vs.take n) (Vs.take n):=by
 induction vs generalizing Vs n with
 |nil=>cases h;simp;exact .nil
 |cons v vs ih=>
  cases h with
  |cons h t=>
   cases n with
   |zero=>simp;exact .nil
   |succ n=>exact .cons h (ih t n)
theorem mP.cell {γ:Gm}{f:Hf}{nx:Nat}{w:World}(hr:aJ γ f nx w){B o:Nat}{v:Value}(h:mP γ.fz B o v):w.cell? ⟨B,o,none⟩=some v:=by
 obtain⟨cs,el,fr,h1,h2⟩:=h
 rw[cell_of_row w B o cs el fr (hr.fzr _ _ h1)]
 exact h2
noncomputable def oQ (ti:Tr TypeInfo)(t:Nat)(x i:AV):Option (AV×List Prop):=
 match clr i with
 |.int _ j=>
  match bN ti t with
  |some (.slice e)=>match cC ti e with
   |none=>none
   |some z=>match x with
    |.ro n sz row=>bif Nat.beq z sz then some (.rp (row j.toNat) 0,[0≤j∧j<n])else none
    |.lo b n=>some (.lp b j.toNat z 0,[0≤j∧j<n])
    |.slc b o n _=>some (.lp b j.toNat z o,[0≤j∧j<n])
    |_=>none
  |some (.array len e)=>match cC ti e with
   |none=>none
   |some z=>match x with
    |.ptr b o=>some (.lp b j.toNat z o,[0≤j∧j<len])
    |.rp cs 0=>bif Nat.beq z 1&&Nat.ble len cs.length then some (.rp (cs.drop j.toNat) 0,[0≤j∧j<len])else none
    |_=>none
  |_=>none
 |_=>none
theorem ay {α:Type}{c:Bool}{x:Option α}{y:α}(h:(bif c then x else none)=some y):c=true∧x=some y:=by
 cases c with
 |true=>exact⟨rfl,h⟩
 |false=>cases h
theorem aA {p:Prop}(h:∀q∈[p],q):p:=h p si
section
variable {P:Program}{ti:Tr TypeInfo}(ht:dL P ti){γ:Gm}(w:World)
include ht
theorem Ln {t:Nat}{x i v:AV}{ms:List Prop}{X I:Value}(hx:aj γ x X)(hi:aj γ i I)(hq:oQ ti t x i=some (v,ms))(hm:∀p∈ms,p):∃V,(Instr.indexAt t X I).run P w=.ok V w∧aj γ v V:=by
 have hi:=hi.clr
 unfold oQ at hq
 split at hq
 ·rename_i k j hc
  rw[hc]at hi
  cases hi
  split at hq
  ·rename_i e hd
   split at hq
   ·cases hq
   ·rename_i z hz
    split at hq
    ·rename_i n sz row
     obtain⟨hb,hq⟩:=ay hq
     cases hq
     have hb:=aM hb
     subst hb
     have hj:=aA hm
     cases hx with
     |ro h=>
      cases h with
      |sl0 _ _ _ _ hn=>omega
      |sl cs hc hl hf h=>
       rename_i B o c
       have hlt:j.toNat<n:=by omega
       refine⟨.pointer (some ⟨B,o+j.toNat*z+0,none⟩),?_,.rp (h _ hlt) (fun i v hv=>hf _ i v hlt hv)⟩
       simp[Instr.indexAt,asIntOf,bF ht hd,di ht hz,hj,dl]
    ·rename_i b n
     cases hq
     have hj:=aA hm
     cases hx with
     |lo _ hg=>
      rename_i B x
      refine⟨.pointer (some ⟨B,j.toNat*z+0,none⟩),?_,.lp _ _ _ hg⟩
      simp[Instr.indexAt,asIntOf,bF ht hd,di ht hz,hj,dl]
    ·rename_i b o n c
     cases hq
     have hj:=aA hm
     cases hx with
     |slc _ _ _ hg=>
      rename_i B x
      refine⟨.pointer (some ⟨B,j.toNat*z+o,none⟩),?_,.lp _ _ _ hg⟩
      simp[Instr.indexAt,asIntOf,bF ht hd,di ht hz,hj,dl]
      omega
    ·cases hq
  ·rename_i len e hd
   split at hq
   ·cases hq
   ·rename_i z hz
    split at hq
    ·rename_i b o
     cases hq
     have hj:=aA hm
     cases hx with
     |ptr _ hg=>
      rename_i B x
      refine⟨.pointer (some ⟨B,j.toNat*z+o,none⟩),?_,.lp _ _ _ hg⟩
      simp[Instr.indexAt,asIntOf,bF ht hd,di ht hz,hj,dl,Instr.sureAddr]
      omega
    ·rename_i cs
     obtain⟨hb,hq⟩:=ay hq
     cases hq
     obtain⟨hb1,hb2⟩:=bB hb
     have hb1:=aM hb1
     subst hb1
     have hj:=aA hm
     cases hx with
     |rp h hf=>
      rename_i B o Cs
      refine⟨.pointer (some ⟨B,o+j.toNat+0,none⟩),?_,.rp (h.drop j.toNat) (fun i v hv=>?_)⟩
      ·simp[Instr.indexAt,asIntOf,bF ht hd,di ht hz,hj,dl,Instr.sureAddr]
      ·rw[lG]at hv
       have:=hf _ _ hv
       rwa[←Nat.add_assoc]at this
    ·cases hq
  ·cases hq
 ·cases hq
end
end
def rM (ti:Tr TypeInfo)(s:Nat)(x:AV)(f:Nat):Option AV:=
 match bN ti s with
 |some (.struct fields)=>match fields[f]? with
  |none=>none
  |some fd=>match cC ti fd.type with
   |some (_+1)=>match x with
    |.rp cs j=>some (.rp cs (j+fd.offset))
    |.lp b i z j=>some (.lp b i z (j+fd.offset))
    |_=>none
   |_=>none
 |_=>none
theorem D4 (L:List Con):∀(i j:Nat),i<L.length→j<5→(L.flatMap Con.avs)[i*5+j]? =(L.getD i Con.zero).avs[j]? :=by
 induction L with
 |nil=>intro i j h;simp at h
 |cons c L ih=>
  intro i j hi hj
  rw[gh]
  cases i with
  |zero=>
   rw[gg (by simp[Con.avs];omega)]
   simp
  |succ i=>
   rw[nc (by simp[Con.avs];omega)]
   have e:(i+1)*5+j-c.avs.length=i*5+j:=by simp[Con.avs];omega
   rw[e,ih i j (by simpa using hi) hj]
   simp
theorem lM (L:List Con):(L.flatMap Con.avs).length=L.length*5:=by
 induction L with
 |nil=>rfl
 |cons c L ih=>rw[gh,fV,ih];simp[Con.avs];omega
theorem D5 (L:List Con)(i:Nat)(hi:i<L.length):((L.flatMap Con.avs).drop (i*5)).take 5=(L.getD i Con.zero).avs:=by
 apply List.ext_getElem?
 intro j
 rw[ow]
 split
 ·rename_i hj
  rw[lG]
  exact D4 L i j hi hj
 ·rw[jD]
  simp[Con.avs];omega
theorem vf:∀rs:List RV,RV.avl rs=rs.map RV.av
 |[]=>rfl
 |r::rs=>by simp only[RV.avl,jH,vf rs]
theorem o9 (rs:List RV):(RV.avl rs).length=rs.length:=by rw[vf,jG]
theorem Ot (rs:List RV)(j n:Nat):RV.avl ((rs.drop j).take n)=((RV.avl rs).drop j).take n:=by
 simp only[vf,List.map_take,List.map_drop]
def ce (τ:ae)(L:List τ.car):List AV:=L.flatMap (fun c=>RV.avl (τ.rvs c))
theorem jN (τ:ae)(L:List τ.car):(ce τ L).length=L.length*τ.sz:=by
 unfold ce
 induction L with
 |nil=>simp
 |cons c L ih=>rw[gh,fV,ih,o9,ae.rvs_len,dg,gG];omega
theorem yM (τ:ae):∀(L:List τ.car)(i:Nat),i<L.length→((ce τ L).drop (i*τ.sz)).take τ.sz=RV.avl (τ.rvs (L.getD i τ.zero))
 |[],i,h=>by simp at h
 |c::L,0,h=>by
  have e:(RV.avl (τ.rvs c)).length=τ.sz:=by rw[o9,ae.rvs_len]
  simp only[ce,gh,kV,oB]
  rw[←e,List.take_left']
  ·rfl
  ·rfl
 |c::L,i+1,h=>by
  have e:(RV.avl (τ.rvs c)).length=τ.sz:=by rw[o9,ae.rvs_len]
  have ih:=yM τ L i (by simpa using h)
  simp only[ce,gh]at ih⊢
  rw[show(i+1)*τ.sz=(RV.avl (τ.rvs c)).length+i*τ.sz by rw[e,gG];omega,List.drop_length_add_append,ih]
  rfl
theorem Dn (τ:ae)(L:List τ.car)(i j n:Nat)(hi:i<L.length)(h:j+n≤τ.sz):((ce τ L).drop (i*τ.sz+j)).take n=RV.avl (((τ.rvs (L.getD i τ.zero)).drop j).take n):=by
 rw[Ot,←yM τ L i hi,←List.drop_drop,List.drop_take,List.take_take]
 congr 1
 omega
def nE (k:IntKind):List AV→Option (List Int)
 |[]=>some []
 |v::vs=>match clr v with
  |.int k' n=>bif decide (k=k')then(match nE k vs with|none=>none|some l=>some (n::l))else none
  |_=>none
theorem uI {γ:Gm}{k:IntKind}{vs:List AV}{Vs:List Value}(h:ap γ vs Vs){l:List Int}(hq:nE k vs=some l):Vs=l.map (Value.int k):=by
 induction vs generalizing Vs l with
 |nil=>cases h;simp[nE]at hq;subst hq;rfl
 |cons v vs ih=>
  cases h with
  |cons hv ht=>
   have hv:=hv.clr
   simp only[nE]at hq
   split at hq
   ·rename_i k' n hc
    rw[hc]at hv
    cases hv
    obtain⟨hk,hq'⟩:=ay hq
    have hk:=ea hk
    clear hq
    subst hk
    split at hq'
    ·cases hq'
    ·rename_i l' hl'
     cases hq'
     rw[ih ht hl']
     rfl
   ·cases hq
def lc:List AV→Option (List Bool)
 |[]=>some []
 |v::vs=>match clr v with
  |.bool b=>match lc vs with|none=>none|some l=>some (b::l)
  |_=>none
theorem CE {γ:Gm}{vs:List AV}{Vs:List Value}(h:ap γ vs Vs){l:List Bool}(hq:lc vs=some l):Vs=l.map Value.bool:=by
 induction vs generalizing Vs l with
 |nil=>cases h;simp[lc]at hq;subst hq;rfl
 |cons v vs ih=>
  cases h with
  |cons hv ht=>
   have hv:=hv.clr
   simp only[lc]at hq
   split at hq
   ·rename_i b hc
    rw[hc]at hv
    cases hv
    split at hq
    ·cases hq
    ·rename_i l' hl'
     cases hq
     rw[ih ht hl']
     rfl
   ·cases hq
def qU (ti:Tr TypeInfo)(t:Nat):Option IntKind:=match bN ti t with
 |some (.int k)=>some k
 |_=>none
def sS (ti:Tr TypeInfo)(h:Tr ag)(t:Nat)(x:AV):Option (AV×List Prop):=
 match bN ti t with
 |none=>none
 |some d=>match x with
  |.rp cs j=>
   bif gq d then
    match cC ti t with
    |none=>none
    |some n=>bif Nat.ble (j+n) cs.length then some (.agg (RV.avl ((cs.drop j).take n)),[])else none
   else(match(cs.drop j).head? with
    |none=>none
    |some r=>some (r.av,[]))
  |.lp b i z j=>match h.get b with
   |none=>none
   |some k=>match k.view with
    |.con L=>
     bif Nat.beq z 5 then
      bif gq d then
       match cC ti t with
       |none=>none
       |some n=>bif Nat.beq n 5&&Nat.beq j 0 then some (.agg (L.getD i Con.zero).avs,[i<L.length])else none
      else(match(L.getD i Con.zero).avs[j]? with
       |none=>none
       |some v=>some (v,[i<L.length]))
     else none
    |.ints kk L=>bif gq d then none else bif Nat.beq z 1&&Nat.beq j 0 then some (.vint kk (L.getD i 0),[i<L.length])else none
    |.rows _ L c n=>bif gq d then none else bif Nat.beq z 1&&Nat.beq j 0 then some (.lo c n,[i=L.length])else none
    |.vals τ L=>
     bif Nat.beq z τ.sz then
      bif gq d then
       match cC ti t with
       |none=>none
       |some n=>bif Nat.ble (j+n) τ.sz then some (.agg (RV.avl (((τ.rvs (List.getD (α:=τ.car) L i τ.zero)).drop j).take n)),[i<List.length (α:=τ.car) L])else none
      else(match((τ.rvs (List.getD (α:=τ.car) L i τ.zero)).drop j).head? with
       |none=>none
       |some r=>some (r.av,[i<List.length (α:=τ.car) L]))
     else none
    |.plain cs=>bif gq d then none else match qU ti t with
     |none=>match lc cs with
      |none=>none
      |some l=>bif Nat.beq z 1 then some (.vbool (l.getD (i+j) false),[i+j<l.length])else none
     |some kk=>match nE kk cs with
      |none=>none
      |some l=>bif Nat.beq z 1 then some (.vint kk (l.getD (i+j) 0),[i+j<l.length])else none
  |_=>none
section
variable {P:Program}{ti:Tr TypeInfo}(ht:dL P ti){γ:Gm}{w:World}
include ht
theorem Lr {s f:Nat}{x v:AV}{X:Value}(hx:aj γ x X)(hq:rM ti s x f=some v):∃V,(Instr.fieldAt s X f).run P w=.ok V w∧aj γ v V:=by
 unfold rM at hq
 split at hq
 ·rename_i fields hd
  split at hq
  ·cases hq
  ·rename_i fd hf
   split at hq
   ·rename_i n hs
    split at hq
    ·rename_i cs j
     cases hq
     cases hx with
     |rp h hc=>
      rename_i B o Cs
      refine⟨.pointer (some ⟨B,o+(j+fd.offset),none⟩),?_,.rp h hc⟩
      simp[Instr.fieldAt,bF ht hd,hf,Instr.sureAddr,fieldPlace,di ht hs,dl,Nat.add_assoc]
    ·rename_i b i z j
     cases hq
     cases hx with
     |lp _ _ _ hg=>
      rename_i B x
      refine⟨.pointer (some ⟨B,i*z+(j+fd.offset),none⟩),?_,.lp _ _ _ hg⟩
      simp[Instr.fieldAt,bF ht hd,hf,Instr.sureAddr,fieldPlace,di ht hs,dl,Nat.add_assoc]
    ·cases hq
   ·cases hq
 ·cases hq
omit ht in
theorem xZ (ht:dL P ti){t n:Nat}{d:TypeDesc}(hd:bN ti t=some d)(hag:gq d=true)(hs:cC ti t=some n){B o:Nat}{Vs:List Value}(hl:Vs.length=n)(hc:∀j v,Vs[j]? =some v→w.cell? ⟨B,o+j,none⟩=some v):
 (loadVar t ⟨B,o,none⟩).run P w=.ok (.agg Vs.toArray) w:=by
 have hl':=run_loadCells_list (P:=P) w ⟨B,o,none⟩ Vs (fun j v hv=>by rw[dl];exact hc j v hv)
 rw[hl]at hl'
 simp[loadVar,oV ht hd,hag,di ht hs,hl']
omit ht in
theorem oP (ht:dL P ti){t:Nat}{d:TypeDesc}(hd:bN ti t=some d)(hag:gq d=false){B o:Nat}{V:Value}(hc:w.cell? ⟨B,o,none⟩=some V):
 (loadVar t ⟨B,o,none⟩).run P w=.ok V w:=by
 simp[loadVar,oV ht hd,hag,hc]
theorem Ou {h:Tr ag}{nx:Nat}(hr:aJ γ h.get nx w){t:Nat}{x v:AV}{ms:List Prop}{X:Value}(hx:aj γ x X)(hq:sS ti h t x=some (v,ms))(hm:∀p∈ms,p):
 ∃V a,X=.pointer (some a)∧(loadVar t a).run P w=.ok V w∧aj γ v V:=by
 unfold sS at hq
 split at hq
 ·cases hq
 ·rename_i d hd
  split at hq
  ·rename_i cs j
   cases hx with
   |rp h1 hf=>
    rename_i B o Cs
    have hlen:=h1.length
    cases hag:gq d with
    |true=>
     rw[hag]at hq
     simp only[aU]at hq
     split at hq
     ·cases hq
     ·rename_i n hs
      obtain⟨hb,hq⟩:=ay hq
      cases hq
      have hb:=aT hb
      refine⟨_,_,rfl,xZ ht hd hag hs (Vs:=(Cs.drop j).take n) (by simp;omega) (fun i u hu=>?_),.agg (bY.avl ((h1.drop j).take n))⟩
      rw[ow]at hu
      split at hu
      ·rw[lG]at hu
       have:=(hf _ _ hu).cell hr
       rwa[←Nat.add_assoc]at this
      ·cases hu
    |false=>
     rw[hag]at hq
     simp only[bt]at hq
     split at hq
     ·cases hq
     ·rename_i r hr0
      cases hq
      have h2:=h1.drop j
      cases hcs:cs.drop j with
      |nil=>rw[hcs]at hr0;simp at hr0
      |cons r' l=>
       rw[hcs]at hr0 h2
       simp at hr0
       subst hr0
       generalize hCs:Cs.drop j=Ds at h2
       cases h2 with
       |@cons _ V _ _ hv _=>
        refine⟨V,_,rfl,oP ht hd hag ?_,hv.av⟩
        refine(hf j V ?_).cell hr
        have:(Cs.drop j)[0]? =some V:=by rw[hCs];rfl
        rwa[lG,fv]at this
  ·rename_i b i z j
   cases hx with
   |lp _ _ _ hg=>
    rename_i B x
    split at hq
    ·cases hq
    ·rename_i k hk
     split at hq
     ·rename_i L hv
      obtain⟨hz,hq⟩:=ay hq
      have hz:=aM hz
      subst hz
      have hcells:k.cells=L.flatMap Con.avs:=by unfold ag.cells;rw[hv];rfl
      cases hag:gq d with
      |true=>
       rw[hag]at hq
       simp only[aU]at hq
       split at hq
       ·cases hq
       ·rename_i n hs
        obtain⟨hb,hq'⟩:=ay (c:=Nat.beq n 5&&Nat.beq j 0) hq
        clear hq
        obtain⟨hb1,hb2⟩:=bB hb
        have hb1:=aM hb1
        have hb2:=aM hb2
        subst hb1 hb2
        cases hq'
        have hi:=aA hm
        obtain⟨Vs,q1,q2,q3⟩:=hr.load hk hg (i*5) 5 (by rw[hcells,lM];omega)
        rw[hcells,D5 L i hi]at q1
        exact⟨_,_,rfl,xZ ht hd hag hs q2 (fun j u hu=>by have:=q3 j u hu;rwa[dl]at this),.agg q1⟩
      |false=>
       rw[hag]at hq
       simp only[bt]at hq
       split at hq
       ·cases hq
       ·rename_i u hu
        cases hq
        have hi:=aA hm
        have hj:j<5:=by
         have:=(xK.1 hu).1
         simpa [Con.avs]using this
        obtain⟨Vs,q1,q2,q3⟩:=hr.load hk hg (i*5+j) 1 (by rw[hcells,lM];omega)
        have e:(k.cells.drop (i*5+j)).take 1=[v]:=by
         rw[List.take_one,oz,hcells,D4 L i j hi hj,hu];rfl
        rw[e]at q1
        cases q1 with
        |@cons _ V _ _ hv' _=>
         have:=q3 0 V rfl
         rw[dl,fv]at this
         exact⟨V,_,rfl,oP ht hd hag this,hv'⟩
     ·rename_i kk L hv
      cases hag:gq d with
      |true=>rw[hag]at hq;cases hq
      |false=>
       rw[hag]at hq
       simp only[bt]at hq
       obtain⟨hb,hq⟩:=ay hq
       cases hq
       obtain⟨hb1,hb2⟩:=bB hb
       have hb1:=aM hb1
       have hb2:=aM hb2
       subst hb1 hb2
       have hi:=aA hm
       have hcells:k.cells=L.map (AV.vint kk):=by unfold ag.cells;rw[hv];rfl
       obtain⟨Vs,q1,q2,q3⟩:=hr.load hk hg (i*1+0) 1 (by rw[hcells];simp;omega)
       have e:(k.cells.drop (i*1+0)).take 1=[AV.vint kk (L.getD i 0)]:=by
        rw[List.take_one,oz,hcells]
        simp[hi]
       rw[e]at q1
       cases q1 with
       |@cons _ V _ _ hv' _=>
        have:=q3 0 V rfl
        rw[dl,fv]at this
        exact⟨V,_,rfl,oP ht hd hag this,hv'⟩
     ·rename_i kk L c n hv
      cases hag:gq d with
      |true=>rw[hag]at hq;cases hq
      |false=>
       rw[hag]at hq
       simp only[bt]at hq
       obtain⟨hb,hq⟩:=ay hq
       cases hq
       obtain⟨hb1,hb2⟩:=bB hb
       have hb1:=aM hb1
       have hb2:=aM hb2
       subst hb1 hb2
       have hi:=aA hm
       have hcells:k.cells=L.map (fU kk)++[AV.lo c n]:=by unfold ag.cells;rw[hv];rfl
       obtain⟨Vs,q1,q2,q3⟩:=hr.load hk hg (i*1+0) 1 (by rw[hcells];simp;omega)
       have e:(k.cells.drop (i*1+0)).take 1=[AV.lo c n]:=by
        rw[List.take_one,oz,hcells]
        simp[hi]
       rw[e]at q1
       cases q1 with
       |@cons _ V _ _ hv' _=>
        have:=q3 0 V rfl
        rw[dl,fv]at this
        exact⟨V,_,rfl,oP ht hd hag this,hv'⟩
     ·rename_i τ L hv
      obtain⟨hz,hq'⟩:=ay hq
      clear hq
      have hz:=aM hz
      subst hz
      have hcells:k.cells=ce τ L:=by unfold ag.cells;rw[hv];rfl
      cases hag:gq d with
      |true=>
       rw[hag]at hq'
       simp only[aU]at hq'
       split at hq'
       ·cases hq'
       ·rename_i n hs
        obtain⟨hb,hq⟩:=ay hq'
        cases hq
        have hb:=aT hb
        have hi:=aA hm
        have hsz:(i+1)*τ.sz≤L.length*τ.sz:=iT _ hi
        rw[gG]at hsz
        obtain⟨Vs,q1,q2,q3⟩:=hr.load hk hg (i*τ.sz+j) n (by rw[hcells,jN];omega)
        rw[hcells,Dn τ L i j n hi hb]at q1
        exact⟨_,_,rfl,xZ ht hd hag hs q2 (fun q u hu=>by have:=q3 q u hu;rwa[dl]at this),.agg q1⟩
      |false=>
       rw[hag]at hq'
       simp only[bt]at hq'
       split at hq'
       ·cases hq'
       ·rename_i r hr0
        cases hq'
        have hi:=aA hm
        have hj:j<τ.sz:=by
         rw[oz]at hr0
         have:=(xK.1 hr0).1
         rwa[ae.rvs_len]at this
        have hsz:(i+1)*τ.sz≤L.length*τ.sz:=iT _ hi
        rw[gG]at hsz
        obtain⟨Vs,q1,q2,q3⟩:=hr.load hk hg (i*τ.sz+j) 1 (by rw[hcells,jN];omega)
        rw[hcells,Dn τ L i j 1 hi om,List.take_one,hr0]at q1
        simp only[Option.toList_some,RV.avl]at q1
        cases q1 with
        |@cons _ V _ _ hv' _=>
         have:=q3 0 V rfl
         rw[dl,fv]at this
         exact⟨V,_,rfl,oP ht hd hag this,hv'⟩
     ·rename_i cs hv
      cases hag:gq d with
      |true=>rw[hag]at hq;cases hq
      |false=>
       rw[hag]at hq
       simp only[bt]at hq
       split at hq
       ·split at hq
        ·cases hq
        ·rename_i l hl
         obtain⟨hb,hq⟩:=ay hq
         cases hq
         have hb:=aM hb
         subst hb
         have hi:=aA hm
         have hcells:k.cells=cs:=by unfold ag.cells;rw[hv];rfl
         obtain⟨B',x',Cs,ex,g1,g2,g3,_⟩:=hr.blk b k hk
         rw[hg]at g1
         cases g1
         rw[hcells]at g3
         have hCs:=CE g3 hl
         subst hCs
         refine⟨.bool (l.getD (i+j) false),_,rfl,oP ht hd hag ?_,.vbool _⟩
         rw[Nat.mul_one,cell_of_row w B (i+j) _ _ _ g2,ke,gg (by simpa using hi)]
         simp[hi]
       ·rename_i kk hkk
        split at hq
        ·cases hq
        ·rename_i l hl
         obtain⟨hb,hq⟩:=ay hq
         cases hq
         have hb:=aM hb
         subst hb
         have hi:=aA hm
         have hcells:k.cells=cs:=by unfold ag.cells;rw[hv];rfl
         obtain⟨B',x',Cs,ex,g1,g2,g3,_⟩:=hr.blk b k hk
         rw[hg]at g1
         cases g1
         rw[hcells]at g3
         have hCs:=uI g3 hl
         subst hCs
         refine⟨.int kk (l.getD (i+j) 0),_,rfl,oP ht hd hag ?_,.vint _ _⟩
         rw[Nat.mul_one,cell_of_row w B (i+j) _ _ _ g2,ke,gg (by simpa using hi)]
         simp[hi]
  ·cases hq
end
theorem ap.parts {γ:Gm}:∀{us vs:List AV}{Vs:List Value},ap γ (us++vs) Vs→∃V1 V2,Vs=V1++V2∧ap γ us V1∧ap γ vs V2
 |[],vs,Vs,h=>⟨[],Vs,rfl,.nil,h⟩
 |u::us,vs,Vs,h=>by
  cases h with
  |cons h t=>
   obtain⟨V1,V2,rfl,h1,h2⟩:=ap.parts t
   exact⟨_::V1,V2,rfl,.cons h h1,h2⟩
theorem aJ.freeze {γ:Gm}{f:Hf}{nx:Nat}{w:World}(h:aJ γ f nx w){b:Nat}{k:ag}(hb:f b=some k)(hown:k.own=true){B x:Nat}(hg:γ b=some (B,x)){y:Obj}(hy:w.heap[B]? =some y):
 be γ f w ⟨γ.nm,fun B'=>if B'=B then some y else γ.fz B'⟩ (es f b none) nx w:=by
 have hz:γ.fz B=none:=h.fzo b k B x hb hown hg
 have hle:γ.le ⟨γ.nm,fun B'=>if B'=B then some y else γ.fz B'⟩:=by
  refine⟨fun _ _ h=>h,fun B' z hz'=>?_⟩
  show(if B'=B then some y else γ.fz B')=some z
  rw[if_neg]
  ·exact hz'
  ·intro e;rw[e,hz]at hz';cases hz'
 have hold:∀c kc,es f b none c=some kc→f c=some kc∧c≠b:=by
  intro c kc hc
  by_cases e:c=b
  ·subst e;rw[eU]at hc;cases hc
  ·rw[dj f _ e]at hc;exact⟨hc,e⟩
 refine⟨hle,⟨?_,?_,h.fresh,?_,?_⟩,bp _,rfl,rfl,rfl,fun _ _ _=>rfl,?_,?_,?_,?_,bp _⟩
 ·intro c kc hc
  obtain⟨B2,x2,cs2,ex2,q1,q2,q3,q4⟩:=h.blk c kc (hold c kc hc).1
  exact⟨B2,x2,cs2,ex2,q1,q2,q3.mono hle,q4⟩
 ·intro c c' kc kc' B' x' x'' q1 q2 q3 q4
  exact h.inj c c' kc kc' B' x' x'' (hold _ _ q1).1 (hold _ _ q2).1 q3 q4
 ·intro B' z hz'
  have hz':(if B'=B then some y else γ.fz B')=some z:=hz'
  by_cases e:B'=B
  ·rw[if_pos e]at hz';cases hz';rw[e];exact hy
  ·rw[if_neg e]at hz';exact h.fzr B' z hz'
 ·intro c kc B' x' hc ho hgc
  obtain⟨h1,h2⟩:=hold c kc hc
  show(if B'=B then some y else γ.fz B')=none
  rw[if_neg]
  ·exact h.fzo c kc B' x' h1 ho hgc
  ·intro e
   subst e
   exact h2 (h.inj c b kc k B' x' x h1 hb hgc hg)
 ·rintro k' hk ⟨c,kc,y',q1,q2,q3⟩
  exact⟨c,kc,y',(hold c kc q1).1,q2,q3⟩
 ·intro c kc hc ho
  exact(hold c kc hc).1
 ·intro c kc hc
  exact .inl ⟨kc,(hold c kc hc).1⟩
 ·intro B' z hz'
  have hz':(if B'=B then some y else γ.fz B')=some z:=hz'
  by_cases e:B'=B
  ·exact .inr (.inr ⟨b,k,x,hb,hown,e▸hg⟩)
  ·rw[if_neg e]at hz';exact .inl hz'
def Con.ofR:List RV→Con
 |[.int _ x,.int _ n,.int _ s,.bool o,.int _ t]=>⟨x,n,s,o,t⟩
 |_=>Con.zero
def aF (n:Nat)(row:Nat→List RV):List Con:=(List.range n).map fun i=>Con.ofR (row i)
def gN:List RV→Int
 |[.int _ x]=>x
 |_=>0
def dQ (n:Nat)(row:Nat→List RV):List Int:=(List.range n).map fun i=>gN (row i)
theorem bZ.rows {F:Fz}{n sz:Nat}{row row':Nat→List RV}(h:∀i,i<n→row i=row' i){V:Value}(k:bZ F (.sl n sz row) V):bZ F (.sl n sz row') V:=by
 cases k with
 |sl0 sz row a c hn=>exact .sl0 sz _ a c hn
 |sl cs hc hl hf hr=>exact .sl cs hc hl hf (fun i hi=>h i hi▸hr i hi)
theorem Q9 (c:Con):Con.ofR c.rvs=c:=rfl
theorem cb (L:List Con):aF L.length (fun i=>(L.getD i Con.zero).rvs)=L:=by
 apply rG
 ·simp[aF]
 ·intro i h1 h2
  simp[aF,Q9,h2]
mutual
theorem aj.rv {γ:Gm}:∀{r:RV}{V:Value},aj γ r.av V→bZ γ.fz r V:=by
 intro r V h
 cases r with
 |bool b=>simp only[RV.av]at h;cases h;exact .bool _
 |int k n=>simp only[RV.av]at h;cases h;exact .int _ _
 |str s=>simp only[RV.av]at h;cases h;exact .str _
 |err b=>simp only[RV.av]at h;cases h with|verr h=>exact .err h
 |sl n z r=>simp only[RV.av]at h;cases h with|ro h=>exact h
 |agg vs=>simp only[RV.av]at h;cases h with|agg h=>exact .agg (ap.rvs h)
 |tup vs=>simp only[RV.av]at h;cases h with|tup h=>exact .tup (ap.rvs h)
theorem ap.rvs {γ:Gm}:∀{rs:List RV}{Vs:List Value},ap γ (RV.avl rs) Vs→bY γ.fz rs Vs:=by
 intro rs Vs h
 cases rs with
 |nil=>simp only[RV.avl]at h;cases h;exact .nil
 |cons r rs=>simp only[RV.avl]at h;cases h with|cons h t=>exact .cons (aj.rv h) (ap.rvs t)
end
def Loc.ofR:List RV→Loc
 |[.int _ p,.sl n _ row]=>⟨p,aF n row⟩
 |_=>Loc.zero
def cn (n:Nat)(row:Nat→List RV):List Loc:=(List.range n).map fun i=>Loc.ofR (row i)
def aG.ofR:List RV→aG
 |[.int _ a,.int _ b,.sl n _ row]=>⟨a,b,cn n row⟩
 |_=>aG.zero
def aN.ofR:List RV→aN
 |[.int _ a,.int _ b]=>⟨a,b⟩
 |_=>aN.zero
def Jb.ofR:List RV→Jb
 |[.int _ a,.int _ b,.int _ c,.int _ d,.int _ e]=>⟨a,b,c,d,e⟩
 |_=>Jb.zero
def lu.ofR:List RV→lu
 |[.bool b,.sl n _ row]=>⟨b,dQ n row⟩
 |_=>lu.zero
def Wt:List RV→Bool
 |[.bool b]=>b
 |_=>false
def ae.of:(τ:ae)→List RV→τ.car
 |.con,rs=>Con.ofR rs
 |.num _,rs=>gN rs
 |.loc,rs=>Loc.ofR rs
 |.gen,rs=>aG.ofR rs
 |.pow,rs=>aN.ofR rs
 |.jb,rs=>Jb.ofR rs
 |.bint,rs=>lu.ofR rs
 |.flag,rs=>Wt rs
 |.list τ,rs=>match rs with
  |[.sl n _ row]=>(List.range n).map fun i=>τ.of (row i)
  |_=>[]
def eX (τ:ae)(n:Nat)(row:Nat→List RV):List τ.car:=match τ with
 |.con=>aF n row
 |.num _=>dQ n row
 |.loc=>cn n row
 |τ=>(List.range n).map fun i=>τ.of (row i)
theorem u0 (τ:ae)(n:Nat)(row:Nat→List RV):eX τ n row=(List.range n).map fun i=>τ.of (row i):=by
 cases τ<;>rfl
theorem CN {α:Type}(L:List α)(z:α):(List.range L.length).map (fun i=>L.getD i z)=L:=by
 apply rG
 ·simp
 ·intro i h1 h2
  simp[h2]
theorem p8 (k:IntKind)(L:List Int):dQ L.length (fun i=>[.int k (L.getD i 0)])=L:=CN L 0
theorem Ev (x:Loc):Loc.ofR x.rvs=x:=by
 show(⟨x.prime,aF x.list.length (fun i=>(x.list.getD i Con.zero).rvs)⟩:Loc)=x
 rw[cb]
theorem lO (L:List Loc):cn L.length (fun i=>(L.getD i Loc.zero).rvs)=L:=by
 unfold cn
 simp only[Ev]
 exact CN L _
def dU (τ:ae)(L:List τ.car):RV:=.sl L.length τ.sz (fun i=>τ.rvs (L.getD i τ.zero))
theorem FB {τ:ae}{n:Nat}{row:Nat→List RV}(h:∀i,i<n→row i=τ.rvs (τ.of (row i))){F:Fz}{V:Value}(k:bZ F (.sl n τ.sz row) V):bZ F (dU τ (eX τ n row)) V:=by
 unfold dU
 have hn:(eX τ n row).length=n:=by rw[u0];simp
 rw[hn]
 refine k.rows (fun i hi=>?_)
 rw[u0]
 simp only[ev,mo,List.getElem?_range hi,kU,Option.getD_some]
 exact h i hi
theorem Cw {γ:Gm}{τ:ae}{L:List τ.car}{B c el:Nat}{fr:Nat×Nat}{cs ex:List Value}(hF:γ.fz B=some (.cells (cs++ex).toArray el fr))(hr:ap γ (ce τ L) cs)(hc:L.length≤c):bZ γ.fz (dU τ L) (.slice (some ⟨B,0,none⟩) L.length c):=by
 have hl:=hr.length
 rw[jN]at hl
 refine .sl (fun i=>(cs.drop (i*τ.sz)).take τ.sz) hc (fun i hi=>?_) (fun i j v hi hv=>?_) (fun i hi=>?_)
 ·have hsz:(i+1)*τ.sz≤L.length*τ.sz:=iT _ hi
  rw[gG]at hsz
  simp;omega
 ·refine⟨_,_,_,hF,?_⟩
  rw[ow]at hv
  split at hv
  ·rw[lG]at hv
   have hlt:=(xK.1 hv).1
   rw[ke,gg om,show 0+i*τ.sz+j=i*τ.sz+j by omega]
   exact hv
  ·cases hv
 ·have h:=(hr.drop (i*τ.sz)).take τ.sz
  rw[yM τ L i hi]at h
  exact h.rvs
def wu (τ τ':ae)(L:List τ.car):Option (List τ'.car):=match τ,τ',L with
 |.con,.con,L=>some L
 |.num k,.num k',L=>bif decide (k=k')then some L else none
 |.loc,.loc,L=>some L
 |.gen,.gen,L=>some L
 |.pow,.pow,L=>some L
 |.jb,.jb,L=>some L
 |.bint,.bint,L=>some L
 |.flag,.flag,L=>some L
 |.list .con,.list .con,L=>some L
 |.list (.num k),.list (.num k'),L=>bif decide (k=k')then some L else none
 |.list .loc,.list .loc,L=>some L
 |.list .gen,.list .gen,L=>some L
 |.list .pow,.list .pow,L=>some L
 |.list .jb,.list .jb,L=>some L
 |.list .bint,.list .bint,L=>some L
 |_,_,_=>none
theorem Ew {τ τ':ae}{L:List τ.car}{L':List τ'.car}(h:wu τ τ' L=some L'):ce τ L=ce τ' L':=by
 unfold wu at h
 split at h
 all_goals first
  |(cases h;rfl)
  |(cases h;done)
  |(obtain⟨h1,h2⟩:=ay h
    have h1:=ea h1
    subst h1
    cases h2
    rfl)
def pu (τ:ae):b6→Option (List τ.car)
 |.con L=>match τ with
  |.con=>some L
  |_=>none
 |.ints k L=>match τ with
  |.num k'=>bif decide (k'=k)then some L else none
  |_=>none
 |.vals τ' L=>wu τ' τ L
 |_=>none
theorem ye (k:IntKind):∀L:List Int,L.map (AV.vint k)=ce (.num k) L
 |[]=>rfl
 |a::L=>by rw[jH,ye k L];rfl
theorem rZ {τ:ae}{V:b6}{L:List τ.car}(h:pu τ V=some L):V.cells=ce τ L:=by
 unfold pu at h
 split at h
 ·split at h
  ·cases h;rfl
  ·cases h
 ·split at h
  ·obtain⟨h1,h2⟩:=ay h
   have h1:=ea h1
   subst h1
   cases h2
   exact ye _ _
  ·cases h
 ·exact Ew h
 ·cases h
noncomputable def lW (h:Tr ag)(τ:ae)(u:AV):Option (List τ.car×Tr ag×List Prop):=
 match u with
 |.ro n z row=>bif Nat.beq z τ.sz then some (eX τ n row,h,[∀i,i<n→row i=τ.rvs (τ.of (row i))])else none
 |.nils=>some ([],h,[])
 |.z0=>some ([],h,[])
 |.lo b n=>match h.get b with
  |none=>none
  |some k=>bif k.own then(match pu τ k.view with
   |none=>none
   |some L=>match h.set b none with
    |none=>none
    |some h'=>some (L,h',[n=L.length]))else none
 |_=>none
structure dm (γ:Gm)(h:Tr ag)(nx:Nat)(w:World)(γ':Gm)(h':Tr ag):Prop where
 stp:be γ h.get w γ' h'.get nx w
 nm:γ'.nm=γ.nm
 sub:∀b k,h'.get b=some k→h.get b=some k
theorem dm.refl {γ:Gm}{h:Tr ag}{nx:Nat}{w:World}(hr:aJ γ h.get nx w):dm γ h nx w γ h:=⟨be.refl hr,rfl,fun _ _ h=>h⟩
theorem dm.trans {γ γ1 γ2:Gm}{h h1 h2:Tr ag}{nx:Nat}{w:World}(a:dm γ h nx w γ1 h1)(b:dm γ1 h1 nx w γ2 h2):dm γ h nx w γ2 h2:=
 ⟨a.stp.trans b.stp,b.nm.trans a.nm,fun c k hc=>a.sub c k (b.sub c k hc)⟩
theorem o6 {γ:Gm}{h h':Tr ag}{nx:Nat}{w:World}(hr:aJ γ h.get nx w){τ:ae}{u:AV}{L:List τ.car}{ms:List Prop}(hq:lW h τ u=some (L,h',ms))(hm:∀p∈ms,p):
 u.one=true∧∃γ',dm γ h nx w γ' h'∧∀γ2:Gm,γ'.le γ2→∀V,aj γ2 u V→bZ γ2.fz (dU τ L) V:=by
 unfold lW at hq
 split at hq
 ·rename_i n z row
  obtain⟨hz,hq'⟩:=ay hq
  have hz:=aM hz
  subst hz
  cases hq'
  refine⟨rfl,γ,dm.refl hr,fun γ2 _ V hV=>?_⟩
  cases hV with|ro hR=>
  exact FB (aA hm) hR
 ·cases hq
  exact⟨rfl,γ,dm.refl hr,fun γ2 _ V hV=>by cases hV;exact .sl0 _ _ _ _ rfl⟩
 ·cases hq
  exact⟨rfl,γ,dm.refl hr,fun γ2 _ V hV=>by cases hV;exact .sl0 _ _ _ _ rfl⟩
 ·rename_i b n
  split at hq
  ·cases hq
  ·rename_i k hk
   obtain⟨hown,hq'⟩:=ay hq
   clear hq
   split at hq'
   ·cases hq'
   ·rename_i L' hL
    split at hq'
    ·cases hq'
    ·rename_i h2 hset
     cases hq'
     have hn:=aA hm
     have hcells:k.cells=ce τ L:=rZ hL
     obtain⟨B,x,cs,ex,g1,g2,g3,g4,g5⟩:=hr.blk b k hk
     have hfz:=hr.freeze hk hown g1 g2
     refine⟨rfl,⟨γ.nm,fun B'=>if B'=B then some (Obj.cells (cs++ex).toArray k.elem)else γ.fz B'⟩,⟨by rw[ej hset];exact hfz,rfl,fun c kc hc=>?_⟩,fun γ2 hle V hV=>?_⟩
     ·rw[ej hset]at hc
      by_cases e:c=b
      ·subst e;rw[eU]at hc;cases hc
      ·rw[dj _ _ e]at hc;exact hc
     ·subst hn
      cases hV with
      |lo _ hg=>
       have:=hle.nm b _ (show γ.nm b=_ from g1)
       rw[hg]at this
       cases this
       refine Cw (el:=k.elem) (fr:=(0,0)) (cs:=cs) (ex:=ex) (hle.fz B _ ?_) ?_ om
       ·show(if B=B then _ else _)=_
        rw[if_pos rfl]
       ·rw[←hcells]
        refine(g3.mono ?_)
        exact Gm.le_trans hfz.le hle
 ·cases hq
theorem ap.one1 {γ:Gm}{v:AV}{Vs:List Value}(h:ap γ [v] Vs):∃V,Vs=[V]∧aj γ v V:=by
 cases h with|cons h t=>cases t;exact⟨_,rfl,h⟩
noncomputable def wN (h:Tr ag):(τ:ae)→τ.car→Nat→List AV→Option (τ.car×Tr ag×List Prop)
 |.flag,_,0,[v]=>match clr v with
  |.bool a=>some (a,h,[])
  |_=>none
 |.num k,_,0,[v]=>match clr v with
  |.int k' a=>bif decide (k'=k)then some (a,h,[])else none
  |_=>none
 |.loc,_,0,[v,u]=>match clr v with
  |.int .i64 p=>match lW h .con u with
   |none=>none
   |some (L,h',ms)=>some (⟨p,L⟩,h',ms)
  |_=>none
 |.loc,x,0,[v]=>match clr v with
  |.int .i64 p=>some (⟨p,x.list⟩,h,[])
  |_=>none
 |.loc,x,1,[u]=>match lW h .con u with
  |none=>none
  |some (L,h',ms)=>some (⟨x.prime,L⟩,h',ms)
 |.gen,_,0,[v,v',u]=>match clr v with
  |.int .i64 a=>match clr v' with
   |.int .i64 b=>match lW h .loc u with
    |none=>none
    |some (L,h',ms)=>some (⟨a,b,L⟩,h',ms)
   |_=>none
  |_=>none
 |.gen,x,2,[u]=>match lW h .loc u with
  |none=>none
  |some (L,h',ms)=>some (⟨x.dim,x.det,L⟩,h',ms)
 |.pow,_,0,[v,v']=>match clr v with
  |.int .i64 a=>match clr v' with
   |.int .i64 b=>some (⟨a,b⟩,h,[])
   |_=>none
  |_=>none
 |.jb,_,0,[v1,v2,v3,v4,v5]=>match clr v1,clr v2,clr v3,clr v4,clr v5 with
  |.int .i64 a,.int .i64 b,.int .i64 c,.int .i64 d,.int .i64 e=>some (⟨a,b,c,d,e⟩,h,[])
  |_,_,_,_,_=>none
 |.bint,_,0,[v,u]=>match clr v with
  |.bool b=>match lW h (.num .u32) u with
   |none=>none
   |some (L,h',ms)=>some (⟨b,L⟩,h',ms)
  |_=>none
 |.list τ,_,0,[u]=>match lW h τ u with
  |none=>none
  |some (L,h',ms)=>some (L,h',ms)
 |_,_,_,_=>none
theorem jr {v u:AV}(h:clr v=u)(hu:u.one=true):v.one=true:=by
 cases v<;>first|rfl|(simp only[clr]at h;rw[←h]at hu;exact hu)
theorem kn {γ:Gm}{v:AV}{k:IntKind}{a:Int}(h:clr v=.int k a){V:Value}(hV:aj γ v V):V=.int k a:=by
 have:=hV.clr;rw[h]at this;cases this;rfl
theorem Ex {γ:Gm}{v:AV}{a:Bool}(h:clr v=.bool a){V:Value}(hV:aj γ v V):V=.bool a:=by
 have:=hV.clr;rw[h]at this;cases this;rfl
structure Wu (τ:ae)(c c':τ.car)(j:Nat)(vs:List AV)(rs:List RV)(γ':Gm):Prop where
 len:rs.length=vs.length
 fit:j+vs.length≤τ.sz
 eq:τ.rvs c'=(τ.rvs c).take j++rs++(τ.rvs c).drop (j+vs.length)
 one:vs.all AV.one=true
 rel:∀γ2:Gm,γ'.le γ2→∀Vs,ap γ2 vs Vs→bY γ2.fz rs Vs
theorem FC {γ:Gm}{h h':Tr ag}{nx:Nat}{w:World}(hr:aJ γ h.get nx w){τ:ae}{c c':τ.car}{j:Nat}{vs:List AV}{ms:List Prop}(hq:wN h τ c j vs=some (c',h',ms))(hm:∀p∈ms,p):
 ∃γ' rs,dm γ h nx w γ' h'∧Wu τ c c' j vs rs γ':=by
 unfold wN at hq
 split at hq
 ·rename_i c0 v
  split at hq
  ·rename_i a hv
   cases hq
   refine⟨γ,[.bool c'],dm.refl hr,rfl,bp _,rfl,?_,fun γ2 _ Vs hVs=>?_⟩
   ·simp[jr hv rfl]
   ·obtain⟨V,rfl,hV⟩:=hVs.one1
    rw[Ex hv hV]
    exact .cons (.bool _) .nil
  ·cases hq
 ·rename_i k c0 v
  split at hq
  ·rename_i k' a hv
   obtain⟨hk,hq'⟩:=ay hq
   have hk:=ea hk
   subst hk
   cases hq'
   refine⟨γ,[.int k' a],dm.refl hr,rfl,bp _,rfl,?_,fun γ2 _ Vs hVs=>?_⟩
   ·simp[jr hv rfl]
   ·obtain⟨V,rfl,hV⟩:=hVs.one1
    rw[kn hv hV]
    exact .cons (.int _ _) .nil
  ·cases hq
 ·rename_i c0 v u
  split at hq
  ·rename_i p hv
   split at hq
   ·cases hq
   ·rename_i L h1 ms1 hL
    cases hq
    obtain⟨ho,γ',hF,hrel⟩:=o6 hr hL hm
    refine⟨γ',[.int .i64 p,dU .con L],hF,rfl,bp _,rfl,?_,fun γ2 hle Vs hVs=>?_⟩
    ·simp[jr hv rfl,ho]
    ·cases hVs with|cons h1 t1=>
     cases t1 with|cons h2 t2=>
     cases t2
     rw[kn hv h1]
     exact .cons (.int _ _) (.cons (hrel γ2 hle _ h2) .nil)
  ·cases hq
 ·rename_i x v
  split at hq
  ·rename_i p hv
   cases hq
   refine⟨γ,[.int .i64 p],dm.refl hr,rfl,by simp[ae.sz],rfl,?_,fun γ2 hle Vs hVs=>?_⟩
   ·simp[jr hv rfl]
   ·obtain⟨V,rfl,hV⟩:=hVs.one1
    rw[kn hv hV]
    exact .cons (.int _ _) .nil
  ·cases hq
 ·rename_i x u
  split at hq
  ·cases hq
  ·rename_i L h1 ms1 hL
   cases hq
   obtain⟨ho,γ',hF,hrel⟩:=o6 hr hL hm
   refine⟨γ',[dU .con L],hF,rfl,by simp[ae.sz],rfl,?_,fun γ2 hle Vs hVs=>?_⟩
   ·simp[ho]
   ·obtain⟨V,rfl,hV⟩:=hVs.one1
    exact .cons (hrel γ2 hle _ hV) .nil
 ·rename_i x v v' u
  split at hq
  ·rename_i a hv
   split at hq
   ·rename_i b hv'
    split at hq
    ·cases hq
    ·rename_i L h1 ms1 hL
     cases hq
     obtain⟨ho,γ',hF,hrel⟩:=o6 hr hL hm
     refine⟨γ',[.int .i64 a,.int .i64 b,dU .loc L],hF,rfl,bp _,rfl,?_,fun γ2 hle Vs hVs=>?_⟩
     ·simp[jr hv rfl,jr hv' rfl,ho]
     ·cases hVs with|cons h1 t1=>
      cases t1 with|cons h2 t2=>
      cases t2 with|cons h3 t3=>
      cases t3
      rw[kn hv h1,kn hv' h2]
      exact .cons (.int _ _) (.cons (.int _ _) (.cons (hrel γ2 hle _ h3) .nil))
   ·cases hq
  ·cases hq
 ·rename_i x u
  split at hq
  ·cases hq
  ·rename_i L h1 ms1 hL
   cases hq
   obtain⟨ho,γ',hF,hrel⟩:=o6 hr hL hm
   refine⟨γ',[dU .loc L],hF,rfl,by simp[ae.sz],rfl,?_,fun γ2 hle Vs hVs=>?_⟩
   ·simp[ho]
   ·obtain⟨V,rfl,hV⟩:=hVs.one1
    exact .cons (hrel γ2 hle _ hV) .nil
 ·rename_i x v v'
  split at hq
  ·rename_i a hv
   split at hq
   ·rename_i b hv'
    cases hq
    refine⟨γ,[.int .i64 a,.int .i64 b],dm.refl hr,rfl,bp _,rfl,?_,fun γ2 hle Vs hVs=>?_⟩
    ·simp[jr hv rfl,jr hv' rfl]
    ·cases hVs with|cons h1 t1=>
     cases t1 with|cons h2 t2=>
     cases t2
     rw[kn hv h1,kn hv' h2]
     exact .cons (.int _ _) (.cons (.int _ _) .nil)
   ·cases hq
  ·cases hq
 ·rename_i x v1 v2 v3 v4 v5
  split at hq
  ·rename_i a b c d e q1 q2 q3 q4 q5
   cases hq
   refine⟨γ,[.int .i64 a,.int .i64 b,.int .i64 c,.int .i64 d,.int .i64 e],dm.refl hr,rfl,bp _,rfl,?_,fun γ2 hle Vs hVs=>?_⟩
   ·simp[jr q1 rfl,jr q2 rfl,jr q3 rfl,jr q4 rfl,jr q5 rfl]
   ·cases hVs with|cons h1 t1=>
    cases t1 with|cons h2 t2=>
    cases t2 with|cons h3 t3=>
    cases t3 with|cons h4 t4=>
    cases t4 with|cons h5 t5=>
    cases t5
    rw[kn q1 h1,kn q2 h2,kn q3 h3,kn q4 h4,kn q5 h5]
    exact .cons (.int _ _) (.cons (.int _ _) (.cons (.int _ _) (.cons (.int _ _) (.cons (.int _ _) .nil))))
  ·cases hq
 ·rename_i x v u
  split at hq
  ·rename_i b hv
   split at hq
   ·cases hq
   ·rename_i L h1 ms1 hL
    cases hq
    obtain⟨ho,γ',hF,hrel⟩:=o6 hr hL hm
    refine⟨γ',[.bool b,dU (.num .u32) L],hF,rfl,bp _,rfl,?_,fun γ2 hle Vs hVs=>?_⟩
    ·simp[jr hv rfl,ho]
    ·cases hVs with|cons h1 t1=>
     cases t1 with|cons h2 t2=>
     cases t2
     rw[Ex hv h1]
     exact .cons (.bool _) (.cons (hrel γ2 hle _ h2) .nil)
  ·cases hq
 ·rename_i τ x u
  split at hq
  ·cases hq
  ·rename_i L h1 ms1 hL
   cases hq
   obtain⟨ho,γ',hF,hrel⟩:=o6 hr hL hm
   refine⟨γ',[dU τ c'],hF,rfl,bp _,rfl,?_,fun γ2 hle Vs hVs=>?_⟩
   ·simp[ho]
   ·obtain⟨V,rfl,hV⟩:=hVs.one1
    exact .cons (hrel γ2 hle _ hV) .nil
 ·cases hq
theorem Ey {τ:ae}{c':τ.car}{j:Nat}{rs:List RV}:∀{L:List τ.car}{i:Nat},i<L.length→j+rs.length≤τ.sz→τ.rvs c'=(τ.rvs (L.getD i τ.zero)).take j++rs++(τ.rvs (L.getD i τ.zero)).drop (j+rs.length)→
 ce τ (L.set i c')=(ce τ L).take (i*τ.sz+j)++RV.avl rs++(ce τ L).drop (i*τ.sz+j+rs.length)
 |[],_,h,_,_=>by simp at h
 |x::L,0,h,hj,he=>by
  have hx:(RV.avl (τ.rvs x)).length=τ.sz:=by rw[o9,ae.rvs_len]
  have he:τ.rvs c'=(τ.rvs x).take j++rs++(τ.rvs x).drop (j+rs.length):=he
  simp only[ce,List.set_cons_zero,gh,kV,gF]
  rw[he,rA om,List.drop_append_of_le_length om]
  simp only[vf,List.map_append,List.map_take,List.map_drop,List.append_assoc]
 |x::L,i+1,h,hj,he=>by
  have hx:(RV.avl (τ.rvs x)).length=τ.sz:=by rw[o9,ae.rvs_len]
  have ih:=Ey (τ:=τ) (c':=c') (j:=j) (rs:=rs) (L:=L) (i:=i) (by simpa using h) hj he
  simp only[ce,List.set_cons_succ,gh]at ih⊢
  rw[ih,show(i+1)*τ.sz+j=(RV.avl (τ.rvs x)).length+(i*τ.sz+j) by rw[hx,gG];omega,List.take_length_add_append,show(RV.avl (τ.rvs x)).length+(i*τ.sz+j)+rs.length=(RV.avl (τ.rvs x)).length+(i*τ.sz+j+rs.length) by omega,List.drop_length_add_append]
  simp only[List.append_assoc]
def l8 (x:Option AV)(d y:Nat):Option (Nat×List Prop):=
 match x with
 |none=>some (d,[])
 |some v=>match clr v with
  |.int _ j=>some (j.toNat,[0≤j∧j≤(y:Int)])
  |_=>none
theorem ny {P:Program}{γ:Gm}{w:World}{x:Option AV}{X:Option Value}(h:cG γ x X){d y r:Nat}{ms:List Prop}(hb:l8 x d y=some (r,ms))(hm:∀p∈ms,p):(X=none∧r=d)∨∃k i,X=some (.int k i)∧(0≤i∧i≤(y:Int))∧r=i.toNat:=by
 unfold l8 at hb
 cases x with
 |none=>
  cases X with
  |none=>simp at hb;exact .inl ⟨rfl,hb.1.symm⟩
  |some V=>simp[cG]at h
 |some v=>
  cases X with
  |none=>simp[cG]at h
  |some V=>
   have hv:=aj.clr h
   simp only at hb
   split at hb
   ·rename_i k j hc
    rw[hc]at hv
    cases hv
    cases hb
    exact .inr ⟨k,j,rfl,aA hm,rfl⟩
   ·cases hb
def xc:Option AV→Bool
 |some (.int _ j)=>decide (j=0)
 |_=>false
def sO:Option AV→Bool
 |none=>true
 |some (.int _ j)=>decide (j=0)
 |_=>false
def pb (ti:Tr TypeInfo)(t:Nat)(x:AV)(lo hi mx:Option AV):Option (AV×List Prop):=
 match bN ti t with
 |some (.slice e)=>match x with
  |.ro n sz row=>match cC ti e with
   |none=>none
   |some z=>bif Nat.beq z sz then
    (match mx with
    |none=>match l8 hi n n with
     |none=>none
     |some (h,m1)=>match l8 lo 0 h with
      |none=>none
      |some (l,m2)=>some (.ro (h-l) sz (fun i=>row (i+l)),m1++m2)
    |some _=>bif sO lo&&xc hi&&xc mx then some (.z0,[])else none)
    else none
  |.lo b n=>match cC ti e with
   |none=>none
   |some z=>bif sO lo then(match mx with
    |none=>match l8 hi n n with
     |none=>none
     |some (h,m1)=>some (.slc b 0 h n,m1)
    |some _=>match hi with
     |none=>none
     |some _=>match l8 mx n n with
      |none=>none
      |some (m,m1)=>match l8 hi n m with
       |none=>none
       |some (h,m2)=>some (.ls b 0 z h true,[h=m]++(m1++m2)))else(match mx,hi with
    |none,none=>match l8 lo 0 n with
     |none=>none
     |some (l,m2)=>some (.ls b l z (n-l) false,m2)
    |_,_=>none)
  |_=>none
 |some .string=>match clr x with
  |.str s=>match mx with
   |none=>match l8 hi s.size s.size with
    |none=>none
    |some (h,m1)=>match l8 lo 0 h with
     |none=>none
     |some (l,m2)=>some (.vstr (s.extract l h),m1++m2)
   |some _=>none
  |_=>none
 |_=>none
theorem Gb {γ:Gm}{x:Option AV}{X:Option Value}(h:cG γ x X)(hz:xc x=true):∃k,X=some (.int k 0):=by
 unfold xc at hz
 split at hz
 ·rename_i k j
  have:=ea hz
  subst this
  cases X with
  |none=>simp[cG]at h
  |some V=>cases h;exact⟨k,rfl⟩
 ·cases hz
theorem yJ {γ:Gm}{x:Option AV}{X:Option Value}(h:cG γ x X)(hz:sO x=true):X=none∨∃k,X=some (.int k 0):=by
 unfold sO at hz
 split at hz
 ·cases X with
  |none=>exact .inl rfl
  |some V=>simp[cG]at h
 ·rename_i k j
  have:=ea hz
  subst this
  cases X with
  |none=>simp[cG]at h
  |some V=>cases h;exact .inr ⟨k,rfl⟩
 ·cases hz
theorem dJ {m1 m2:List Prop}(h:∀p∈m1++m2,p):(∀p∈m1,p)∧(∀p∈m2,p):=⟨fun p hp=>h p (by simp[hp]),fun p hp=>h p (by simp[hp])⟩
section
variable {P:Program}{ti:Tr TypeInfo}(ht:dL P ti){γ:Gm}{w:World}
theorem sf {sl:Bool}{lo hi:Option Value}{n c h l:Nat}(hh:(hi=none∧h=n)∨∃k i,hi=some (.int k i)∧(0≤i∧i≤(n:Int))∧h=i.toNat)(hl:(lo=none∧l=0)∨∃k i,lo=some (.int k i)∧(0≤i∧i≤(h:Int))∧l=i.toNat)(hc:n≤c):
 (Instr.sliceBounds sl n c lo hi none).run P w=.ok (l,h,c) w:=by
 rcases hh with⟨rfl,rfl⟩|⟨k,i,rfl,hi1,rfl⟩
 ·rcases hl with⟨rfl,rfl⟩|⟨k',i',rfl,hi2,rfl⟩
  ·simp[Instr.sliceBounds]
  ·simp[Instr.sliceBounds,Instr.sliceBound,asIntOf,hi2]
 ·have e1:0≤i∧i≤(c:Int):=⟨hi1.1,om⟩
  rcases hl with⟨rfl,rfl⟩|⟨k',i',rfl,hi2,rfl⟩
  ·simp[Instr.sliceBounds,Instr.sliceBound,asIntOf,e1]
  ·have e2:0≤i'∧i'≤(i.toNat:Int):=hi2
   have e3:0≤i'∧i'≤max i 0:=by omega
   simp[Instr.sliceBounds,Instr.sliceBound,asIntOf,e1,e2,e3]
include ht in
theorem MQ {t:Nat}{x v:AV}{ms:List Prop}{X:Value}(hx:aj γ x X){lo hi mx:Option AV}{LO HI MX:Option Value}(hl:cG γ lo LO)(hh:cG γ hi HI)(hmx:cG γ mx MX)(hq:pb ti t x lo hi mx=some (v,ms))(hm:∀p∈ms,p):
 ∃V,(Instr.slice t X LO HI MX).run P w=.ok V w∧aj γ v V:=by
 unfold pb at hq
 split at hq
 ·rename_i e hd
  split at hq
  ·rename_i n sz row
   split at hq
   ·cases hq
   ·rename_i z hz
    obtain⟨hb,hq⟩:=ay hq
    have hb:=aM hb
    subst hb
    split at hq
    ·have hMX:MX=none:=by
      cases MX with
      |none=>rfl
      |some V=>simp[cG]at hmx
     subst hMX
     split at hq
     ·cases hq
     ·rename_i h m1 h1
      split at hq
      ·cases hq
      ·rename_i l m2 h2
       cases hq
       obtain⟨hm1,hm2⟩:=dJ hm
       have b1:=ny (P:=P) (w:=w) hh h1 hm1
       have b2:=ny (P:=P) (w:=w) hl h2 hm2
       have hhn:h≤n:=by rcases b1 with⟨_,rfl⟩|⟨_,i,_,hi,rfl⟩<;>omega
       have hlh:l≤h:=by rcases b2 with⟨_,rfl⟩|⟨_,i,_,hi,rfl⟩<;>omega
       cases hx with
       |ro hR=>
        cases hR with
        |sl0 _ _ a c hn=>
         subst hn
         refine⟨.slice (if c=l then a else a.map (·.add (l*z))) (h-l) (c-l),?_,?_⟩
         ·simp[Instr.slice,bF ht hd,sf b1 b2 (bQ c),di ht hz]
         ·have e:h-l=0:=by omega
          rw[e]
          exact .ro (.sl0 _ _ _ _ rfl)
        |sl cs hc hlen hf hrow=>
         rename_i B o c
         refine⟨.slice (if c=l then some ⟨B,o,none⟩else(some (⟨B,o,none⟩:Addr)).map (·.add (l*z))) (h-l) (c-l),?_,?_⟩
         ·simp[Instr.slice,bF ht hd,sf b1 b2 hc,di ht hz]
         ·by_cases e:c=l
          ·have e0:h-l=0:=by omega
           rw[e0]
           exact .ro (.sl0 _ _ _ _ rfl)
          ·rw[if_neg e]
           simp only[kU,dl]
           refine .ro (.sl (fun i=>cs (i+l)) om (fun i hi=>hlen _ om) (fun i j v hi hv=>?_) (fun i hi=>hrow _ om))
           have:=hf (i+l) j v om hv
           rwa[show o+(i+l)*z+j=o+l*z+i*z+j by rw[gG];omega]at this
    ·rename_i mv
     obtain⟨hb,hq⟩:=ay hq
     cases hq
     obtain⟨hb1,b3⟩:=bB hb
     obtain⟨b1,b2⟩:=bB hb1
     obtain⟨kh,rfl⟩:=Gb hh b2
     obtain⟨km,rfl⟩:=Gb hmx b3
     cases hx with
     |ro hR=>
      have key:∀(a:Option Addr)(n c:Nat),(Instr.slice t (.slice a n c) LO (some (.int kh 0)) (some (.int km 0))).run P w=.ok (.slice a 0 0) w:=by
       intro a n c
       rcases yJ hl b1 with rfl|⟨kl,rfl⟩
       ·simp[Instr.slice,bF ht hd,Instr.sliceBounds,Instr.sliceBound,asIntOf,di ht hz]
       ·simp[Instr.slice,bF ht hd,Instr.sliceBounds,Instr.sliceBound,asIntOf,di ht hz]
      cases hR with
      |sl0 _ _ a c hn=>exact⟨_,key _ _ _,.z0 _⟩
      |sl cs hc hlen hf hrow=>exact⟨_,key _ _ _,.z0 _⟩
  ·rename_i b n
   split at hq
   ·cases hq
   ·rename_i z hz
    cases b2:sO lo with
    |false=>
     rw[b2,bt]at hq
     split at hq
     ·have hMX:MX=none:=by
       cases MX with
       |none=>rfl
       |some V=>simp[cG]at hmx
      have hHI:HI=none:=by
       cases HI with
       |none=>rfl
       |some V=>simp[cG]at hh
      subst hMX
      subst hHI
      split at hq
      ·cases hq
      ·rename_i l m2 h2
       cases hq
       have b3:=ny (P:=P) (w:=w) hl h2 hm
       have hln:l≤n:=by rcases b3 with⟨_,rfl⟩|⟨_,i,_,hi,rfl⟩<;>omega
       cases hx with
       |lo _ hg=>
        rename_i B x
        refine⟨.slice (if n+x=l then some ⟨B,0,none⟩else(some (⟨B,0,none⟩:Addr)).map (·.add (l*z))) (n-l) (n+x-l),?_,.ls l z false hg (fun h=>?_) om (fun h=>by cases h)⟩
        ·simp[Instr.slice,bF ht hd,sf (.inl ⟨rfl,rfl⟩) b3 (mn n x),di ht hz]
        ·rw[if_neg om,kU,dl,gF]
     ·cases hq
    |true=>
    rw[b2,aU]at hq
    split at hq
    ·have hMX:MX=none:=by
      cases MX with
      |none=>rfl
      |some V=>simp[cG]at hmx
     subst hMX
     split at hq
     ·cases hq
     ·rename_i h m1 h1
      cases hq
      have b1:=ny (P:=P) (w:=w) hh h1 hm
      have hhn:h≤n:=by rcases b1 with⟨_,rfl⟩|⟨_,i,_,hi,rfl⟩<;>omega
      cases hx with
      |lo _ hg=>
       rename_i B x
       have b3:(LO=none∧(0:Nat)=0)∨∃k i,LO=some (.int k i)∧(0≤i∧i≤(h:Int))∧0=i.toNat:=by
        rcases yJ hl b2 with rfl|⟨k,rfl⟩
        ·exact .inl ⟨rfl,rfl⟩
        ·exact .inr ⟨k,0,rfl,⟨om,om⟩,rfl⟩
       refine⟨.slice (some ⟨B,0,none⟩) h (n+x),?_,.slc 0 h n hg⟩
       have e:(if n+x=0 then some (⟨B,0,none⟩:Addr)else(some (⟨B,0,none⟩:Addr)).map (·.add (0*z)))=some ⟨B,0,none⟩:=by
        split
        ·rfl
        ·rw[kU,kV,dl]
       simp[Instr.slice,bF ht hd,sf b1 b3 (mn n x),di ht hz,dl]
    ·split at hq
     ·cases hq
     ·split at hq
      ·cases hq
      ·rename_i m m1 h1
       split at hq
       ·cases hq
       ·rename_i h m2 h2
        cases hq
        obtain⟨q1,q2⟩:=dJ hm
        have hhm:h=m:=q1 _ eB
        obtain⟨q3,q4⟩:=dJ q2
        have b1:=ny (P:=P) (w:=w) hmx h1 q3
        have b4:=ny (P:=P) (w:=w) hh h2 q4
        cases MX with
        |none=>simp[cG]at hmx
        |some VM=>
        cases HI with
        |none=>simp[cG]at hh
        |some VH=>
        rcases b1 with⟨h0,_⟩|⟨km,im,e1,e2,e3⟩
        ·cases h0
        rcases b4 with⟨h0,_⟩|⟨kh,ih,e4,e5,e6⟩
        ·cases h0
        cases e1
        cases e4
        cases hx with
        |lo _ hg=>
         rename_i B x
         have b3:LO=none∨∃k,LO=some (.int k 0):=yJ hl b2
         have f1:0≤im∧im≤((n+x:Nat):Int):=⟨e2.1,om⟩
         have f2:0≤ih∧ih≤(im.toNat:Int):=by rw[←e3];exact e5
         have hb:(Instr.sliceBounds true n (n+x) LO (some (.int kh ih)) (some (.int km im))).run P w=.ok (0,h,m) w:=by
          rw[e6,e3]
          have f3:0≤im∧im≤(n:Int)+(x:Int):=⟨e2.1,om⟩
          have f4:0≤ih∧ih≤max im 0:=by omega
          rcases b3 with rfl|⟨k,rfl⟩
          ·simp[Instr.sliceBounds,Instr.sliceBound,asIntOf,f1,f2,f3,f4]
          ·simp[Instr.sliceBounds,Instr.sliceBound,asIntOf,f1,f2,f3,f4]
         refine⟨.slice (if m=0 then some ⟨B,0,none⟩else(some (⟨B,0,none⟩:Addr)).map (·.add (0*z))) (h-0) (m-0),?_,.ls 0 z true hg (fun _=>?_) om (fun _=>om)⟩
         ·simp[Instr.slice,bF ht hd,hb,di ht hz]
         ·split
          ·rw[kV]
          ·rw[kU,dl,kV]
  ·cases hq
 ·rename_i hd
  have hxc:=hx.clr
  split at hq
  ·rename_i s hs
   rw[hs]at hxc
   cases hxc
   split at hq
   ·have hMX:MX=none:=by
     cases MX with
     |none=>rfl
     |some V=>simp[cG]at hmx
    subst hMX
    split at hq
    ·cases hq
    ·rename_i h m1 h1
     split at hq
     ·cases hq
     ·rename_i l m2 h2
      cases hq
      obtain⟨hm1,hm2⟩:=dJ hm
      have b1:=ny (P:=P) (w:=w) hh h1 hm1
      have b2:=ny (P:=P) (w:=w) hl h2 hm2
      refine⟨.string (s.extract l h),?_,.vstr _⟩
      simp[Instr.slice,bF ht hd,sf b1 b2 (bp s.size)]
   ·cases hq
  ·cases hq
 ·cases hq
def Ba (ti:Tr TypeInfo)(op:BinOp)(t:Nat)(xo yo:Operand)(x y:AV):Option (AV×List Prop):=
 match op,clr x,clr y with
 |.quo,.int k a,.int k' b=>bif decide (k=k')then some (.vint k (k.wrap (a.tdiv b)),[b≠0])else none
 |.rem,.int k a,.int k' b=>bif decide (k=k')then some (.vint k (a.tmod b),[b≠0])else none
 |.add,.str a,.str b=>some (.vstr (a++b),[a.size+b.size≤1000000])
 |.eql,.verr b,.nilif=>match bN ti t with
  |some (.interface _)=>bif kZ yo then some (.vbool b,[])else none
  |_=>none
 |.neq,.verr b,.nilif=>match bN ti t with
  |some (.interface _)=>bif kZ yo then some (.vbool (!b),[])else none
  |_=>none
 |.eql,.ro n _ _,.nils=>match bN ti t with
  |some (.slice _)=>some (.bool false,[0<n])
  |_=>none
 |.eql,.lo _ _,.nils=>match bN ti t with
  |some (.slice _)=>some (.bool false,[])
  |_=>none
 |op,u,v=>match wF ti op t xo yo u v with
  |none=>none
  |some r=>some (tnt r,[])
include ht in
theorem Gc {t:Nat}{xo yo:Operand}{b:Bool}{X:Value}{ims:_}(h:vJ b X)(hd:bN ti t=some (.interface ims))(hc:kZ yo=true)(op:BinOp):
 (eqGuard op t xo yo X .nilIface).run P w=.ok () w∧(binOp .eql t X .nilIface).run P w=.ok (.bool b) w∧(binOp .neq t X .nilIface).run P w=.ok (.bool (!b)) w:=by
 have he:(Op.equal t X .nilIface).run P w=.ok b w:=by
  have:∀q:Nat,(Op.equalIn (q+1) t X .nilIface).run P w=.ok b w:=by
   intro q
   rcases h with⟨rfl,rfl⟩|⟨rfl,t',v,rfl⟩<;>simp[Op.equalIn,bF ht hd]
  exact this 9999
 refine⟨?_,by simp[binOp,he],by simp[binOp,he]⟩
 rcases h with⟨rfl,rfl⟩|⟨rfl,t',v,rfl⟩
 ·cases xo<;>cases yo<;>simp[kZ]at hc<;>simp[go_sem]
 ·simp[go_sem]
include ht in
theorem PL {op:BinOp}{t:Nat}{xo yo:Operand}{x y v:AV}{ms:List Prop}{X Y:Value}(hx:aj γ x X)(hy:aj γ y Y)(hq:Ba ti op t xo yo x y=some (v,ms))(hm:∀p∈ms,p):
 ∃V,((do eqGuard op t xo yo X Y;binOp op t X Y:Sem Value)).run P w=.ok V w∧aj γ v V:=by
 have hx:=hx.clr
 have hy:=hy.clr
 unfold Ba at hq
 split at hq
 ·rename_i k a k' b h1 h2
  rw[h1]at hx
  rw[h2]at hy
  cases hx
  cases hy
  obtain⟨hk,hq'⟩:=ay hq
  have hk:=ea hk
  clear hq
  subst hk
  cases hq'
  have:=aA hm
  exact⟨.int k (k.wrap (a.tdiv b)),by simp[go_sem,binOp,Op.intDiv,this],.vint _ _⟩
 ·rename_i k a k' b h1 h2
  rw[h1]at hx
  rw[h2]at hy
  cases hx
  cases hy
  obtain⟨hk,hq'⟩:=ay hq
  have hk:=ea hk
  clear hq
  subst hk
  cases hq'
  have:=aA hm
  exact⟨.int k (a.tmod b),by simp[go_sem,binOp,Op.intDiv,this],.vint _ _⟩
 ·rename_i a b h1 h2
  rw[h1]at hx
  rw[h2]at hy
  cases hx
  cases hy
  cases hq
  have:=aA hm
  refine⟨.string (a++b),?_,.vstr _⟩
  have h3:¬(((a.size+b.size:Nat):Int)>IntKind.i64.max):=by rw[IntKind.max_i64];omega
  have h4:¬(IntKind.i64.max<(a.size:Int)+(b.size:Int)):=by rw[IntKind.max_i64];omega
  simp[go_sem,binOp,Op.stringOp,h3,h4]
  omega
 ·rename_i b h1 h2
  rw[h1]at hx
  rw[h2]at hy
  split at hq
  ·rename_i ims hd
   obtain⟨hc,hq'⟩:=ay hq
   cases hq'
   cases hy
   cases hx with
   |verr h=>
    obtain⟨g1,g2,_⟩:=Gc (P:=P) ht (w:=w) (xo:=xo) h hd hc .eql
    exact⟨_,by rw[Sem.run_bind,g1];exact g2,.vbool _⟩
  ·cases hq
 ·rename_i b h1 h2
  rw[h1]at hx
  rw[h2]at hy
  split at hq
  ·rename_i ims hd
   obtain⟨hc,hq'⟩:=ay hq
   cases hq'
   cases hy
   cases hx with
   |verr h=>
    obtain⟨g1,_,g3⟩:=Gc (P:=P) ht (w:=w) (xo:=xo) h hd hc .neq
    exact⟨_,by rw[Sem.run_bind,g1];exact g3,.vbool _⟩
  ·cases hq
 ·rename_i n sz row h1 h2
  rw[h1]at hx
  rw[h2]at hy
  split at hq
  ·rename_i e hd
   cases hq
   have hn:=aA hm
   cases hy
   cases hx with
   |ro hx=>
    cases hx with
    |sl0 _ _ _ _ h0=>omega
    |sl cs _ _ _ _=>
     refine⟨.bool false,?_,.bool _⟩
     have he:∀(q:Nat)(a:Addr)(c:Nat),(Op.equalIn (q+1) t (.slice (some a) n c) (.slice none 0 0)).run P w=.ok false w:=by
      intro q a c
      simp only[Op.equalIn,Sem.run_bind,bF ht hd,Result.andThen_ok]
      rfl
     have he':∀(a:Addr)(c:Nat),(Op.equal t (.slice (some a) n c) (.slice none 0 0)).run P w=.ok false w:=fun a c=>he 9999 a c
     simp[go_sem,binOp,he']
  ·cases hq
 ·rename_i b n h1 h2
  rw[h1]at hx
  rw[h2]at hy
  split at hq
  ·rename_i e hd
   cases hq
   cases hy
   cases hx with
   |lo _ _=>
    refine⟨.bool false,?_,.bool _⟩
    have he:∀(q:Nat)(a:Addr)(c:Nat),(Op.equalIn (q+1) t (.slice (some a) n c) (.slice none 0 0)).run P w=.ok false w:=by
     intro q a c
     simp only[Op.equalIn,Sem.run_bind,bF ht hd,Result.andThen_ok]
     rfl
    have he':∀(a:Addr)(c:Nat),(Op.equal t (.slice (some a) n c) (.slice none 0 0)).run P w=.ok false w:=fun a c=>he 9999 a c
    simp[go_sem,binOp,he']
  ·cases hq
 ·split at hq
  ·cases hq
  ·rename_i r hr
   cases hq
   obtain⟨V,h1,h2⟩:=Fh (P:=P) ht w hx hy hr
   exact⟨V,h1,h2.tnt⟩
def zM (ti:Tr TypeInfo)(t:Nat)(x i:AV):Option (AV×List Prop):=
 match bN ti t,clr x,clr i with
 |some .string,.str s,.int _ j=>some (.vint .u8 ((s[j.toNat]?.getD 0).toNat:Int),[0≤j∧j.toNat<s.size])
 |some (.array len e),.agg cs,.int _ j=>match bN ti e,cC ti e,lc cs with
  |some d,some 1,some l=>bif gq d then none else some (.vbool (l.getD j.toNat false),[0≤j∧j<len∧j.toNat<l.length])
  |_,_,_=>none
 |_,_,_=>none
include ht in
theorem MR {t:Nat}{x i v:AV}{ms:List Prop}{X I:Value}(hx:aj γ x X)(hi:aj γ i I)(hq:zM ti t x i=some (v,ms))(hm:∀p∈ms,p):∃V,(Instr.index t X I).run P w=.ok V w∧aj γ v V:=by
 have hx:=hx.clr
 have hi:=hi.clr
 unfold zM at hq
 split at hq
 ·rename_i s k j hd h1 h2
  rw[h1]at hx
  rw[h2]at hi
  cases hx
  cases hi
  cases hq
  obtain⟨hj0,hj⟩:=aA hm
  have:s[j.toNat]? =some s[j.toNat]:=by simp[hj]
  exact⟨.int .u8 s[j.toNat].toNat,by simp[Instr.index,asIntOf,bF ht hd,hj0,this],by rw[this];exact .vint _ _⟩
 ·rename_i len e cs k j hd h1 h2
  rw[h1]at hx
  rw[h2]at hi
  cases hi
  split at hq
  ·rename_i d l hd2 hz hl
   cases hag:gq d with
   |true=>rw[hag]at hq;cases hq
   |false=>
    rw[hag]at hq
    cases hq
    obtain⟨hj0,hj1,hj⟩:=aA hm
    cases hx with
    |agg hc=>
     have hCs:=CE hc hl
     subst hCs
     have e1:(l.map Value.bool)[j.toNat]? =some (.bool (l.getD j.toNat false)):=by simp[hj]
     refine⟨.bool (l.getD j.toNat false),?_,.vbool _⟩
     have h4:(part e (l.map Value.bool).toArray (j.toNat*1)).run P w=.ok (.bool (l.getD j.toNat false)) w:=by
      simp[part,oV ht hd2,hag,hj]
     rw[Nat.mul_one]at h4
     simp only[ev]at h4⊢
     simp[Instr.index,asIntOf,bF ht hd,hj0,hj1,di ht hz,h4]
  ·cases hq
 ·cases hq
def sLen (ti:Tr TypeInfo)(t:Nat)(x:AV):Option AV:=
 match bN ti t,x with
 |some .string,.vstr s=>some (.vint .i64 s.size)
 |some (.slice _),.ro n _ _=>some (.vint .i64 n)
 |some (.slice _),.lo _ n=>some (.vint .i64 n)
 |some (.slice _),.z0=>some (.int .i64 0)
 |_,_=>none
include ht in
theorem PM {t ty:Nat}{ts:Array TypeId}(hts:ts[0]? =some t){x v:AV}{X:Value}{Xs:Array Value}(hXs:Xs[0]? =some X)(hx:aj γ x X)(hq:sLen ti t x=some v):
 ∃V,(Builtin.len_ ts ty Xs).run P w=.ok V w∧aj γ v V:=by
 unfold sLen at hq
 split at hq
 ·rename_i s hd
  cases hx;cases hq
  exact⟨_,by simp[Builtin.len_,hts,hXs,bF ht hd,goInt],.vint _ _⟩
 ·rename_i e n _ _ hd
  cases hq
  cases hx with
  |ro h=>
   cases h with
   |sl0 _ _ a c hn=>subst hn;exact⟨_,by simp[Builtin.len_,hts,hXs,bF ht hd,goInt],.vint _ _⟩
   |sl cs hc hlen hf hrow=>exact⟨_,by simp[Builtin.len_,hts,hXs,bF ht hd,goInt],.vint _ _⟩
 ·rename_i e n _ hd
  cases hx;cases hq
  exact⟨_,by simp[Builtin.len_,hts,hXs,bF ht hd,goInt],.vint _ _⟩
 ·rename_i e hd
  cases hx;cases hq
  exact⟨_,by simp[Builtin.len_,hts,hXs,bF ht hd,goInt],.int _ _⟩
 ·cases hq
end
def UJ:AV→Bool
 |.ro _ _ _=>true
 |.verr _=>true
 |.lo _ _=>true
 |_=>false
def qQ (ti:Tr TypeInfo)(h:Tr ag)(ρ:Operand→Option AV)(op:Op)(ty:Nat):Option (AV×List Prop):=
 match op with
 |.load t a=>match ρ a with
  |some (.rp cs j)=>sS ti h t (.rp cs j)
  |some (.lp b i z j)=>sS ti h t (.lp b i z j)
  |_=>none
 |.nilCheck x=>match ρ x with
  |some (.rp cs j)=>some (.rp cs j,[])
  |some (.lp b i z j)=>some (.lp b i z j,[])
  |_=>none
 |.binOp op t x y _=>match ρ x,ρ y with
  |some u,some v=>bif pC u||pC v||UJ u then Ba ti op t x y u v else none
  |_,_=>none
 |.unOp op _ x=>match ρ x with
  |some u=>bif pC u then(match xz op (clr u)with|none=>none|some r=>some (tnt r,[]))else none
  |_=>none
 |.convert s d x=>match ρ x with
  |some (.vint _ n)=>match bN ti s,bN ti d with
   |some _,some (.int k)=>some (.vint k (k.wrap n),[])
   |_,_=>none
  |some (.vstr z)=>match bN ti s,bN ti d with
   |some _,some .string=>some (.vstr z,[])
   |_,_=>none
  |some (.slc b o n _)=>match bN ti s,bN ti d with
   |some (.slice e),some .string=>match qU ti e with
    |some .u8=>match h.get b with
     |none=>none
     |some k=>match nE .u8 ((k.cells.drop o).take n)with
      |none=>none
      |some l=>bif Nat.ble (o+n) k.cells.length then some (.vstr (strOfNums l),[])else none
    |_=>none
   |_,_=>none
  |_=>none
 |.slice t x lo hi mx=>match ρ x with
  |some (.ro n sz row)=>match g9 ρ lo,g9 ρ hi,g9 ρ mx with
   |some l,some e,some m=>pb ti t (.ro n sz row) l e m
   |_,_,_=>none
  |some (.vstr s)=>match g9 ρ lo,g9 ρ hi,g9 ρ mx with
   |some l,some e,some m=>pb ti t (.vstr s) l e m
   |_,_,_=>none
  |some (.lo b n)=>match g9 ρ lo,g9 ρ hi,g9 ρ mx with
   |some l,some e,some m=>pb ti t (.lo b n) l e m
   |_,_,_=>none
  |_=>none
 |.fieldAddr s x f=>match ρ x with
  |some (.rp cs j)=>match rM ti s (.rp cs j) f with
   |none=>none
   |some r=>some (r,[])
  |some (.lp b i z j)=>match rM ti s (.lp b i z j) f with
   |none=>none
   |some r=>some (r,[])
  |_=>none
 |.indexAddr t x i=>match ρ x,ρ i with
  |some (.ro n sz row),some v=>oQ ti t (.ro n sz row) v
  |some (.lo b n),some v=>oQ ti t (.lo b n) v
  |some (.rp cs j),some v=>oQ ti t (.rp cs j) v
  |some u,some (.vint k n)=>oQ ti t u (.vint k n)
  |_,_=>none
 |.index t x i=>match ρ x,ρ i with
  |some u,some v=>bif pC u||pC v then zM ti t u v else none
  |_,_=>none
 |.call ⟨.builtin .len,⟨[x]⟩,⟨t::_⟩⟩=>match ρ x with
  |none=>none
  |some u=>match sLen ti t u with
   |none=>none
   |some r=>some (r,[])
 |.call ⟨.builtin .unsafeSliceData,⟨[x]⟩,_⟩=>match ρ x with
  |some (.lo b n)=>some (.lp b 0 1 0,[0<n])
  |_=>none
 |.call ⟨.builtin .min,⟨xs⟩,ts⟩=>match ma ρ xs with
  |none=>none
  |some vs=>bif vs.any pC then(match nK (vs.map clr)with
   |none=>none
   |some us=>match lQ (Builtin.min_ ts ty us.toArray)with
    |none=>none
    |some r=>some (tnt r,[]))else none
 |.call ⟨.builtin .max,⟨xs⟩,ts⟩=>match ma ρ xs with
  |none=>none
  |some vs=>bif vs.any pC then(match nK (vs.map clr)with
   |none=>none
   |some us=>match lQ (Builtin.max_ ts ty us.toArray)with
    |none=>none
    |some r=>some (tnt r,[]))else none
 |_=>none
def rh (ti:Tr TypeInfo)(lz:Nat→Nat→Nat→Nat→Bool)(h:Tr ag)(ρ:Operand→Option AV)(op:Op)(ty:Nat):Option (AV×List Prop):=
 match qQ ti h ρ op ty with
 |some r=>some r
 |none=>match re ti lz h ρ op ty with
  |none=>none
  |some v=>some (v,[])
theorem ap.clr {γ:Gm}{vs:List AV}{Vs:List Value}(h:ap γ vs Vs):ap γ (vs.map clr) Vs:=by
 induction vs generalizing Vs with
 |nil=>cases h;exact .nil
 |cons v vs ih=>cases h with|cons h t=>exact .cons h.clr (ih t)
theorem PN {P:Program}{ti:Tr TypeInfo}(ht:dL P ti){γ:Gm}{h:Tr ag}{nx:Nat}{w:World}(hr:aJ γ h.get nx w){ρ:Operand→Option AV}{R:Operand→Value}(hρ:∀x v,ρ x=some v→aj γ v (R x)){o:Oper}{v:AV}{ms:List Prop}
 (hq:qQ ti h ρ o.op o.type=some (v,ms))(hm:∀p∈ms,p):∃V,(execOp R o).run P w=.ok (.value V) w∧aj γ v V:=by
 obtain⟨dst,op,ty,pos,after,guard⟩:=o
 simp only at hq
 unfold qQ at hq
 split at hq
 ·rename_i t a
  have key:∀x,ρ a=some x→sS ti h t x=some (v,ms)→∃V,(execOp R ⟨dst,.load t a,ty,pos,after,guard⟩).run P w=.ok (.value V) w∧aj γ v V:=by
   intro x hx hs
   obtain⟨V,ad,h1,h2,h3⟩:=Ou ht hr (hρ _ _ hx) hs hm
   exact⟨V,by simp[execOp,Instr.loadAt,h1,Instr.sureAddr,h2],h3⟩
  split at hq
  ·rename_i hx;exact key _ hx hq
  ·rename_i hx;exact key _ hx hq
  ·cases hq
 ·rename_i x
  split at hq
  ·rename_i cs j hx
   cases hq
   have h1:=hρ _ _ hx
   generalize hR:R x=X at h1
   cases h1 with
   |rp h hf=>exact⟨_,by simp[execOp,hR],.rp h hf⟩
  ·rename_i b i z j hx
   cases hq
   have h1:=hρ _ _ hx
   generalize hR:R x=X at h1
   cases h1 with
   |lp _ _ _ hg=>exact⟨_,by simp[execOp,hR],.lp _ _ _ hg⟩
  ·cases hq
 ·rename_i op t x y p
  split at hq
  ·rename_i u v' hx hy
   obtain⟨_,hq⟩:=ay hq
   obtain⟨V,h1,h2⟩:=PL (P:=P) ht (w:=w) (hρ _ _ hx) (hρ _ _ hy) hq hm
   refine⟨V,?_,h2⟩
   show((do let r←(do eqGuard op t x y (R x) (R y);binOp op t (R x) (R y):Sem Value);pure (Next.value r)):Sem Next).run P w=_
   rw[Sem.run_bind,h1]
   rfl
  ·cases hq
 ·rename_i op t x
  split at hq
  ·rename_i u hx
   obtain⟨_,hq⟩:=ay hq
   split at hq
   ·cases hq
   ·rename_i r hr'
    cases hq
    obtain⟨V,h1,h2⟩:=Gq (P:=P) w (hρ _ _ hx).clr hr'
    exact⟨V,by simp[execOp,h1],h2.tnt⟩
  ·cases hq
 ·rename_i s d x
  split at hq
  ·rename_i k0 n hx
   split at hq
   ·rename_i d0 k h1 h2
    cases hq
    have h3:=hρ _ _ hx
    cases hR:R x<;>rw[hR]at h3<;>cases h3
    exact⟨_,by simp[execOp,hR,convert,bF ht h1,bF ht h2,Conv.intToInt],.vint _ _⟩
   ·cases hq
  ·rename_i z hx
   split at hq
   ·rename_i d0 h1 h2
    cases hq
    have h3:=hρ _ _ hx
    cases hR:R x<;>rw[hR]at h3<;>cases h3
    exact⟨_,by simp[execOp,hR,convert,bF ht h1,bF ht h2],.vstr _⟩
   ·cases hq
  ·rename_i b o n c hx
   split at hq
   ·rename_i e h1 h2
    split at hq
    ·rename_i hk8
     split at hq
     ·cases hq
     ·rename_i k hk
      split at hq
      ·cases hq
      ·rename_i l hl
       obtain⟨hb,hq'⟩:=ay hq
       cases hq'
       have hb:=aT hb
       have h3:=hρ _ _ hx
       generalize hRX:R x=X at h3
       cases h3 with
       |slc _ _ _ hg=>
        rename_i B x0
        obtain⟨Vs,p1,p2,p3⟩:=hr.load hk hg o n hb
        have hVs:=uI p1 hl
        have hll:l.length=n:=by rw[←p2,hVs];simp
        have hu8:P.underlying e=some (.int .u8):=by
         unfold qU at hk8
         split at hk8
         ·rename_i q hq8;cases hk8;exact il ht hq8
         ·cases hk8
        have hrun:=run_convert_bytes_arg (P:=P) w s e (il ht h1) hu8 B o n (c+x0) l hll (fun i hi=>by
         have:=p3 i (.int .u8 (l.getD i 0)) (by rw[hVs,mo];simp[List.getD,show i<l.length by omega])
         rwa[dl]at this) d (il ht h2)
        exact⟨_,by simp[execOp,hRX,hrun],.vstr _⟩
    ·cases hq
   ·cases hq
  ·cases hq
 ·rename_i t x lo hi mx
  have key:∀u,ρ x=some u→(match g9 ρ lo,g9 ρ hi,g9 ρ mx with
   |some l,some e,some m=>pb ti t u l e m
   |_,_,_=>none)=some (v,ms)→∃V,(execOp R ⟨dst,.slice t x lo hi mx,ty,pos,after,guard⟩).run P w=.ok (.value V) w∧aj γ v V:=by
   intro u hx hs
   split at hs
   ·rename_i l e m h1 h2 h3
    obtain⟨V,g1,g2⟩:=MQ (P:=P) ht (w:=w) (hρ _ _ hx) (qw hρ h1) (qw hρ h2) (qw hρ h3) hs hm
    refine⟨V,?_,g2⟩
    have hd:∃d,bN ti t=some d∧∀n el,d≠.array n el:=by
     unfold pb at hs
     split at hs
     ·rename_i el hd;exact⟨_,hd,si⟩
     ·rename_i hd;exact⟨_,hd,si⟩
     ·cases hs
    obtain⟨d,hd,hna⟩:=hd
    have g0:(Instr.sliceAt t (R x) (Option.map R lo) (Option.map R hi) (Option.map R mx)).run P w=.ok V w:=by
     unfold Instr.sliceAt
     simp only[Sem.run_bind,bF ht hd,Result.andThen_ok]
     cases d<;>first|exact g1|exact absurd rfl (hna _ _)
    simp[execOp,g0]
   ·cases hs
  split at hq
  ·rename_i hx;exact key _ hx hq
  ·rename_i hx;exact key _ hx hq
  ·rename_i hx;exact key _ hx hq
  ·cases hq
 ·rename_i s x f
  have key:∀u,ρ x=some u→(match rM ti s u f with
   |none=>none
   |some r=>some (r,[]))=some (v,ms)→∃V,(execOp R ⟨dst,.fieldAddr s x f,ty,pos,after,guard⟩).run P w=.ok (.value V) w∧aj γ v V:=by
   intro u hx hs
   split at hs
   ·cases hs
   ·rename_i r hr'
    cases hs
    obtain⟨V,g1,g2⟩:=Lr (P:=P) ht (w:=w) (hρ _ _ hx) hr'
    exact⟨V,by simp[execOp,g1],g2⟩
  split at hq
  ·rename_i hx;exact key _ hx hq
  ·rename_i hx;exact key _ hx hq
  ·cases hq
 ·rename_i t x i
  have key:∀u y,ρ x=some u→ρ i=some y→oQ ti t u y=some (v,ms)→∃V,(execOp R ⟨dst,.indexAddr t x i,ty,pos,after,guard⟩).run P w=.ok (.value V) w∧aj γ v V:=by
   intro u y hx hi hs
   obtain⟨V,g1,g2⟩:=Ln (P:=P) ht w (hρ _ _ hx) (hρ _ _ hi) hs hm
   exact⟨V,by simp[execOp,g1],g2⟩
  split at hq
  ·rename_i hx hi;exact key _ _ hx hi hq
  ·rename_i hx hi;exact key _ _ hx hi hq
  ·rename_i hx hi;exact key _ _ hx hi hq
  ·rename_i hx hi;exact key _ _ aS aS hq
  ·cases hq
 ·rename_i t x i
  split at hq
  ·rename_i u y hx hi
   obtain⟨_,hq⟩:=ay hq
   obtain⟨V,g1,g2⟩:=MR (P:=P) ht (w:=w) (hρ _ _ hx) (hρ _ _ hi) hq hm
   exact⟨V,by simp[execOp,g1],g2⟩
  ·cases hq
 ·rename_i x t ts
  split at hq
  ·cases hq
  ·rename_i u hx
   split at hq
   ·cases hq
   ·rename_i r hr'
    cases hq
    obtain⟨V,g1,g2⟩:=PM (P:=P) ht (w:=w) (ty:=ty) (ts:=⟨t::ts⟩) si (Xs:=#[R x]) si (hρ _ _ hx) hr'
    exact⟨V,by simp[execOp,resolve,invoke,builtin,g1],g2⟩
 ·rename_i x ts
  split at hq
  ·rename_i b n hx
   cases hq
   have hn:0<n:=aA hm
   have h3:=hρ _ _ hx
   generalize hRX:R x=X at h3
   cases h3 with
   |lo _ hg=>
    rename_i B x0
    have hrun:=Lib.run_unsafeSliceData_row (P:=P) w ts ty ⟨B,0,none⟩ n (n+x0) om
    refine⟨.pointer (some ⟨B,0,none⟩),by simp[execOp,resolve,invoke,builtin,hRX,hrun],?_⟩
    have:=aj.lp (γ:=γ) (b:=b) (B:=B) (x:=x0) 0 1 0 hg
    simpa using this
  ·cases hq
 ·rename_i xs ts
  split at hq
  ·cases hq
  ·rename_i vs hvs
   obtain⟨_,hq⟩:=ay hq
   split at hq
   ·cases hq
   ·rename_i us hus
    split at hq
    ·cases hq
    ·rename_i r hr'
     cases hq
     have hV:=uQ (qv hρ hvs).clr hus
     obtain⟨V,h1,h2⟩:=nq γ hr'
     refine⟨V,?_,h2.tnt⟩
     have e2:Array.map R ⟨xs⟩=us.toArray:=by rw[←hV];simp
     simp[execOp,resolve,invoke,builtin,e2,h1]
 ·rename_i xs ts
  split at hq
  ·cases hq
  ·rename_i vs hvs
   obtain⟨_,hq⟩:=ay hq
   split at hq
   ·cases hq
   ·rename_i us hus
    split at hq
    ·cases hq
    ·rename_i r hr'
     cases hq
     have hV:=uQ (qv hρ hvs).clr hus
     obtain⟨V,h1,h2⟩:=nq γ hr'
     refine⟨V,?_,h2.tnt⟩
     have e2:Array.map R ⟨xs⟩=us.toArray:=by rw[←hV];simp
     simp[execOp,resolve,invoke,builtin,e2,h1]
 ·cases hq
theorem Sw {P:Program}{ti:Tr TypeInfo}(ht:dL P ti){lz:Nat→Nat→Nat→Nat→Bool}(hlz:qy P lz){γ:Gm}{h:Tr ag}{nx:Nat}{w:World}(hr:aJ γ h.get nx w){ρ:Operand→Option AV}{R:Operand→Value}(hρ:∀x v,ρ x=some v→aj γ v (R x)){o:Oper}{v:AV}{ms:List Prop}
 (hq:rh ti lz h ρ o.op o.type=some (v,ms))(hm:∀p∈ms,p):∃V,(execOp R o).run P w=.ok (.value V) w∧aj γ v V:=by
 unfold rh at hq
 split at hq
 ·rename_i r hr'
  cases hq
  exact PN ht hr hρ hr' hm
 ·split at hq
  ·cases hq
  ·rename_i u hu
   cases hq
   exact Sk ht hlz hr hρ hu
theorem ap.imp {γ:Gm}:∀{A B:List AV},A.length=B.length→(∀(p:Nat)a b,A[p]? =some a→B[p]? =some b→∀V,aj γ a V→aj γ b V)→∀{cs:List Value},ap γ A cs→ap γ B cs
 |[],[],_,_,cs,h=>h
 |[],_::_,hl,_,_,_=>by simp at hl
 |_::_,[],hl,_,_,_=>by simp at hl
 |a::A,b::B,hl,hp,cs,h=>by
  cases h with
  |cons hv ht=>exact .cons (hp 0 a b rfl rfl _ hv) (ap.imp (by simpa using hl) (fun p x y hx hy=>hp (p+1) x y (by simpa using hx) (by simpa using hy)) ht)
theorem be.view {γ γ':Gm}{f f':Hf}{nx:Nat}{w w':World}{b:Nat}{k k':ag}(h:be γ f w γ' (es f' b (some k)) nx w')(hk:∀cs,ap γ' k.cells cs→ap γ' k'.cells cs)(h1:k'.elem=k.elem)(h2:k'.sz=k.sz)(h3:k'.opn=k.opn)(h4:k.own=true)(h5:k'.own=true):
 be γ f w γ' (es f' b (some k')) nx w':=by
 have hold:∀c kc,es f' b (some k') c=some kc→∃kc',es f' b (some k) c=some kc'∧kc'.own=kc.own:=by
  intro c kc hc
  by_cases e:c=b
  ·subst e;rw[eU]at hc;cases hc;exact⟨k,eU _ _ _,by rw[h4,h5]⟩
  ·rw[dj _ _ e]at hc;exact⟨kc,by rw[dj _ _ e];exact hc,rfl⟩
 refine⟨h.le,⟨?_,?_,h.rel.fresh,h.rel.fzr,?_⟩,h.size,h.os,h.tape,h.output,h.frame,?_,?_,?_,h.fzn,h.drawn⟩
 ·intro c kc hc
  by_cases e:c=b
  ·subst e
   rw[eU]at hc
   cases hc
   obtain⟨B,x,cs,ex,g1,g2,g3,g4,g5⟩:=h.rel.blk c k (eU _ _ _)
   exact⟨B,x,cs,ex,g1,by rw[h1];exact g2,hk _ g3,by rw[h2];exact g4,by rw[h3];exact g5⟩
  ·rw[dj _ _ e]at hc
   exact h.rel.blk c kc (by rw[dj _ _ e];exact hc)
 ·intro c c' kc kc' B x x' q1 q2 q3 q4
  obtain⟨_,r1,_⟩:=hold _ _ q1
  obtain⟨_,r2,_⟩:=hold _ _ q2
  exact h.rel.inj _ _ _ _ _ _ _ r1 r2 q3 q4
 ·intro c kc B x hc ho hg
  obtain⟨kc',r1,r2⟩:=hold _ _ hc
  exact h.rel.fzo c kc' B x r1 (by rw[r2];exact ho) hg
 ·intro i hi ⟨c,kc,y,q1,q2,q3⟩
  obtain⟨kc',r1,r2⟩:=hold _ _ q1
  exact h.own i hi ⟨c,kc',y,r1,by rw[r2];exact q2,q3⟩
 ·intro c kc hc ho
  by_cases e:c=b
  ·subst e;rw[eU]at hc;cases hc;rw[h5]at ho;cases ho
  ·rw[dj _ _ e]at hc
   exact h.ro c kc (by rw[dj _ _ e];exact hc) ho
 ·intro c kc hc
  obtain⟨kc',r1,_⟩:=hold _ _ hc
  exact h.dom c kc' r1
def Con.setf (c:Con)(j:Nat)(v:AV):Option Con:=
 match j,tnt v with
 |0,.vint .i64 n=>some {c with exp:=n}
 |1,.vint .i64 n=>some {c with dim:=n}
 |2,.vint .i64 n=>some {c with sign:=n}
 |3,.vbool b=>some {c with odd:=b}
 |4,.vint .i64 n=>some {c with oddity:=n}
 |_,_=>none
theorem Con.setf_avs {c c':Con}{j:Nat}{v:AV}(h:c.setf j v=some c'):j<5∧c'.avs=c.avs.set j (tnt v):=by
 unfold Con.setf at h
 split at h<;>first|(cases h;done)|skip
 all_goals
  rename_i he
  cases h
  rw[he]
  exact⟨de,rfl⟩
def W8 (L:List Con)(i:Nat)(v:Int):List Con:=L.set i {L.getD i Con.zero with exp:=v}
def W9 (L:List Con)(i:Nat)(v:Int):List Con:=L.set i {L.getD i Con.zero with dim:=v}
def Xa (L:List Con)(i:Nat)(v:Int):List Con:=L.set i {L.getD i Con.zero with sign:=v}
def Xb (L:List Con)(i:Nat)(v:Bool):List Con:=L.set i {L.getD i Con.zero with odd:=v}
def wx (L:List Con)(i:Nat)(v:Int):List Con:=L.set i {L.getD i Con.zero with oddity:=v}
def Con.setL (L:List Con)(i j:Nat)(v:AV):Option (List Con):=
 match j,tnt v with
 |0,.vint .i64 n=>some (W8 L i n)
 |1,.vint .i64 n=>some (W9 L i n)
 |2,.vint .i64 n=>some (Xa L i n)
 |3,.vbool b=>some (Xb L i b)
 |4,.vint .i64 n=>some (wx L i n)
 |_,_=>none
theorem Con.setL_ok {L L':List Con}{i j:Nat}{v:AV}(h:Con.setL L i j v=some L'):∃c,(L.getD i Con.zero).setf j v=some c∧L'=L.set i c:=by
 unfold Con.setL at h
 split at h<;>first|(cases h;done)|skip
 all_goals
  rename_i he
  cases h
  refine⟨_,?_,rfl⟩
  unfold Con.setf
  rw[he]
  rfl
def Con.ofAvs:List AV→Option Con
 |[a,b,c,d,e]=>match tnt a,tnt b,tnt c,tnt d,tnt e with
  |.vint .i64 x,.vint .i64 n,.vint .i64 s,.vbool o,.vint .i64 t=>some ⟨x,n,s,o,t⟩
  |_,_,_,_,_=>none
 |_=>none
theorem Con.ofAvs_ok {l:List AV}{c:Con}(h:Con.ofAvs l=some c):l.map tnt=c.avs:=by
 unfold Con.ofAvs at h
 split at h
 ·split at h
  ·rename_i h1 h2 h3 h4 h5
   cases h
   simp only[jH,List.map_nil,h1,h2,h3,h4,h5]
   rfl
  ·cases h
 ·cases h
theorem DS:∀{L:List Con}{i j:Nat}{c:Con}{u:AV},i<L.length→j<5→c.avs=(L.getD i Con.zero).avs.set j u→(L.set i c).flatMap Con.avs=(L.flatMap Con.avs).set (i*5+j) u
 |[],_,_,_,_,h,_,_=>by simp at h
 |x::L,0,j,c,u,h,hj,hv=>by
  simp only[List.set_cons_zero,gh,kV,gF]
  rw[List.set_append_left _ _ (by simpa [Con.avs]using hj),hv]
  rfl
 |x::L,i+1,j,c,u,h,hj,hv=>by
  simp only[List.set_cons_succ,gh]
  rw[List.set_append_right _ _ (by simp[Con.avs];omega),DS (by simpa using h) hj (by simpa using hv)]
  have e:(i+1)*5+j-x.avs.length=i*5+j:=by simp[Con.avs];omega
  rw[e]
theorem DT:∀{L:List Con}{i:Nat}{c:Con},i<L.length→(L.set i c).flatMap Con.avs=(L.flatMap Con.avs).take (i*5)++c.avs++(L.flatMap Con.avs).drop (i*5+5)
 |[],_,_,h=>by simp at h
 |x::L,0,c,h=>by
  simp only[List.set_cons_zero,gh,kV,gF,List.take_zero,pQ]
  have e:5=x.avs.length:=rfl
  congr 1
 |x::L,i+1,c,h=>by
  simp only[List.set_cons_succ,gh]
  rw[DT (by simpa using h)]
  have e:(i+1)*5=x.avs.length+i*5:=by simp[Con.avs];omega
  rw[e,List.take_length_add_append,show x.avs.length+i*5+5=x.avs.length+(i*5+5) by omega,List.drop_length_add_append]
  simp
def l6:List Bool→Nat→Nat→Bool→List AV
 |[],_,_,_=>[]
 |x::l,q,p,a=>.vbool (bif Nat.beq q p then a else x)::l6 l (q+1) p a
theorem DU:∀{l:List Bool}{q p:Nat}{a:Bool},(l6 l q p a).length=l.length
 |[],_,_,_=>rfl
 |x::l,q,p,a=>by simp only[l6,dg,DU]
theorem DV:∀{l:List Bool}{q p:Nat}{a:Bool}{m:Nat}{u:AV},(l6 l q p a)[m]? =some u→∃x,l[m]? =some x∧u=.vbool (bif Nat.beq (q+m) p then a else x)
 |[],_,_,_,_,_,h=>by simp[l6]at h
 |x::l,q,p,a,0,u,h=>by simp[l6]at h;exact⟨x,si,by rw[←h];rfl⟩
 |x::l,q,p,a,m+1,u,h=>by
  simp only[l6,pM]at h
  obtain⟨y,h1,h2⟩:=DV h
  exact⟨y,by simpa using h1,by rw[h2,show q+1+m=q+(m+1) by omega]⟩
theorem Cm:∀{cs:List AV}{l:List Bool},lc cs=some l→cs.length=l.length
 |[],l,h=>by cases h;rfl
 |v::cs,l,h=>by
  simp only[lc]at h
  split at h
  ·split at h
   ·cases h
   ·rename_i l' hl'
    cases h
    simp[Cm hl']
  ·cases h
theorem Cn:∀{cs:List AV}{l:List Bool}{m:Nat}{u:AV}{x:Bool},lc cs=some l→cs[m]? =some u→l[m]? =some x→clr u=.bool x
 |[],l,m,u,x,h,h1,h2=>by simp at h1
 |v::cs,l,m,u,x,h,h1,h2=>by
  simp only[lc]at h
  split at h
  ·rename_i b hb
   split at h
   ·cases h
   ·rename_i l' hl'
    cases h
    cases m with
    |zero=>simp at h1 h2;subst h1 h2;exact hb
    |succ m=>exact Cn hl' (by simpa using h1) (by simpa using h2)
  ·cases h
def Ik (h:Tr ag)(b:Nat):Bool:=match h.get b with
 |none=>false
 |some _=>true
def zy (ti:Tr TypeInfo)(h:Tr ag)(t:Nat)(x v:AV):Option (Tr ag×List Prop):=
 match x with
 |.lp b i z j=>match h.get b with
  |none=>none
  |some k=>bif k.own then(match cC ti t with
   |none=>none
   |some n=>match k.view with
    |.con L=>bif Nat.beq z 5 then
     (bif Nat.beq n 5&&Nat.beq j 0 then
       (match Con.ofAvs v.cells with
       |none=>none
       |some c=>match h.set b (some {k with view:=.con (L.set i c)})with
        |none=>none
        |some h'=>some (h',[i<L.length]))
     else bif Nat.beq n 1&&v.one then
      (match Con.setL L i j v with
      |none=>none
      |some L'=>match h.set b (some {k with view:=.con L'})with
       |none=>none
       |some h'=>some (h',[i<L.length]))
     else none)
     else none
    |.ints kk L=>bif Nat.beq z 1&&Nat.beq n 1&&Nat.beq j 0 then
     (match clr v with
     |.int k' a=>bif decide (k'=kk)then(match h.set b (some {k with view:=.ints kk (L.set i a)})with
      |none=>none
      |some h'=>some (h',[i<L.length]))else none
     |_=>none)
     else none
    |.rows kk L c q=>bif Nat.beq z 1&&Nat.beq n 1&&Nat.beq j 0 then
     (match v with
     |.lo c' q'=>match h.set b (some {k with view:=.rows kk L c' q'})with
      |none=>none
      |some h'=>some (h',[i=L.length])
     |_=>none)
     else none
    |.vals τ L=>bif Nat.beq z τ.sz&&Nat.beq n v.cells.length then
     (match wN h τ (List.getD (α:=τ.car) L i τ.zero) j v.cells with
     |none=>none
     |some (c,h1,ms)=>bif Ik h1 b then(match h1.set b (some {k with view:=.vals τ (List.set (α:=τ.car) L i c)})with
      |none=>none
      |some h'=>some (h',(i<List.length (α:=τ.car) L)::ms))else none)
     else none
    |.plain cs=>bif Nat.beq z 1&&Nat.beq n 1 then
     (match lc cs with
     |none=>none
     |some l=>match clr v with
      |.bool a=>match h.set b (some {k with view:=.plain (l6 l 0 (i+j) a)})with
       |none=>none
       |some h'=>some (h',[i+j<l.length])
      |_=>none)
     else none)else none
 |_=>none
theorem My {P:Program}{ti:Tr TypeInfo}(ht:dL P ti){γ:Gm}{h h':Tr ag}{nx:Nat}{w:World}(hr:aJ γ h.get nx w){t:Nat}{x v:AV}{ms:List Prop}{X V:Value}(hx:aj γ x X)(hv:aj γ v V)(hq:zy ti h t x v=some (h',ms))(hm:∀p∈ms,p):
 ∃w' γ',(Instr.storeAt t X V).run P w=.ok () w'∧be γ h.get w γ' h'.get nx w'∧γ'.nm=γ.nm:=by
 unfold zy at hq
 split at hq
 ·rename_i b i z j
  cases hx with
  |lp _ _ _ hg=>
   rename_i B x
   split at hq
   ·cases hq
   ·rename_i k hk
    have hown:=(ay hq).1
    replace hq:=(ay hq).2
    split at hq
    ·cases hq
    ·rename_i n hn
     -- what a store into the block gives
     have key:∀(vs:List AV)(Vs:List Value)(k':ag),ap γ vs Vs→vs.all AV.one=true→i*z+j+vs.length≤k.cells.length→V.cells.toList=Vs→V.cells.size=n→(∀cs,ap γ (k.cells.take (i*z+j)++vs++k.cells.drop (i*z+j+vs.length)) cs→ap γ k'.cells cs)→
      k'.elem=k.elem→k'.sz=k.sz→k'.opn=k.opn→k'.own=true→h.set b (some k')=some h'→∃w' γ',(Instr.storeAt t (.pointer (some ⟨B,i*z+j,none⟩)) V).run P w=.ok () w'∧be γ h.get w γ' h'.get nx w'∧γ'.nm=γ.nm:=by
      intro vs Vs k' hvs hone hle hVs hsz himp e1 e2 e3 e4 hset
      obtain⟨w',g1,g2⟩:=hr.store hk hown hg (i*z+j) hvs hone hle P
      refine⟨w',γ,?_,?_,rfl⟩
      ·simp[Instr.storeAt,Instr.sureAddr,storeVar,di ht hn,hsz,hVs,g1]
      ·rw[ej hset]
       exact g2.view himp e1 e2 e3 hown e4
     split at hq
     ·rename_i L hview
      have hcells:k.cells=L.flatMap Con.avs:=by unfold ag.cells;rw[hview];rfl
      have hz:=(ay hq).1
      replace hq:=(ay hq).2
      have hz:=aM hz
      subst hz
      cases hb:(Nat.beq n 5&&Nat.beq j 0)with
      |true=>
       rw[hb]at hq
       simp only[aU]at hq
       obtain⟨hb1,hb2⟩:=bB hb
       have hb1:=aM hb1
       have hb2:=aM hb2
       subst hb1 hb2
       split at hq
       ·cases hq
       ·rename_i c hc
        split at hq
        ·cases hq
        ·rename_i h2 hset
         cases hq
         have hi:=aA hm
         have hco:=Con.ofAvs_ok hc
         have hlen:v.cells.length=5:=by have:=congrArg List.length hco;simpa [Con.avs]using this
         have hvc:=hv.cells
         have hvl:=hvc.length
         refine key v.cells V.cells.toList {k with view:=.con (L.set i c)} hvc ?_ (by rw[hcells,lM,hlen];omega) rfl (by simpa [hlen]using hvl) ?_ rfl rfl rfl hown hset
         ·unfold Con.ofAvs at hc
          split at hc
          ·rename_i a1 a2 a3 a4 a5 hl5
           rw[hl5]
           split at hc
           ·rename_i t1 t2 t3 t4 t5
            have one_of:∀{a u:AV},tnt a=u→u.one=true→a.one=true:=by
             intro a u e1 e2
             cases a<;>first|rfl|(simp only[tnt]at e1;rw[←e1]at e2;exact e2)
            simp only[lI,List.all_nil,Bool.and_true,bj]
            exact⟨one_of t1 rfl,one_of t2 rfl,one_of t3 rfl,one_of t4 rfl,one_of t5 rfl⟩
           ·cases hc
          ·cases hc
         ·intro cs hcs
          show ap γ ((L.set i c).flatMap Con.avs) cs
          rw[DT hi,←hco]
          rw[hcells,hlen]at hcs
          refine ap.imp si (fun p a b ha hb V hV=>?_) hcs
          simp only[fv]at ha
          by_cases hp:p<((L.flatMap Con.avs).take (i*5)++v.cells).length
          ·rw[gg hp]at ha
           rw[gg (by simpa using hp)]at hb
           by_cases hp2:p<((L.flatMap Con.avs).take (i*5)).length
           ·rw[gg hp2]at ha hb
            rw[ha]at hb;cases hb;exact hV
           ·rw[nc om]at ha hb
            rw[mo,ha]at hb
            simp only[kU,bv]at hb
            subst hb
            exact hV.tnt
          ·rw[nc om]at ha
           rw[nc (by simpa using hp)]at hb
           have e:((L.flatMap Con.avs).take (i*5)++List.map tnt v.cells).length=((L.flatMap Con.avs).take (i*5)++v.cells).length:=by simp
           rw[e,ha]at hb
           cases hb;exact hV
      |false=>
       rw[hb]at hq
       simp only[bt]at hq
       cases hb2:(Nat.beq n 1&&v.one)with
       |false=>rw[hb2]at hq;cases hq
       |true=>
        rw[hb2]at hq
        simp only[aU]at hq
        obtain⟨hb3,hb4⟩:=bB hb2
        have hb3:=aM hb3
        subst hb3
        split at hq
        ·cases hq
        ·rename_i L' hL'
         obtain⟨c,hc,hLc⟩:=Con.setL_ok hL'
         subst hLc
         split at hq
         ·cases hq
         ·rename_i h2 hset
          cases hq
          have hi:=aA hm
          obtain⟨hj,hca⟩:=Con.setf_avs hc
          have hvc:v.cells=[v]:=by cases v<;>first|rfl|(simp[AV.one]at hb4)
          have hVc:=hv.cells
          rw[hvc]at hVc
          have hVl:=hVc.length
          refine key [v] V.cells.toList {k with view:=.con (L.set i c)} hVc (by simp[hb4]) (by rw[hcells,lM];simp;omega) rfl (by simpa using hVl) ?_ rfl rfl rfl hown hset
          intro cs hcs
          show ap γ ((L.set i c).flatMap Con.avs) cs
          rw[DS hi hj hca]
          rw[hcells]at hcs
          have e:(L.flatMap Con.avs).take (i*5+j)++[v]++(L.flatMap Con.avs).drop (i*5+j+[v].length)=(L.flatMap Con.avs).set (i*5+j) v:=by
           rw[B9,if_pos (by rw[lM];omega)]
           simp
          rw[e]at hcs
          refine ap.imp si (fun p a b ha hb V hV=>?_) hcs
          rw[List.getElem?_set]at ha hb
          by_cases hp:i*5+j=p
          ·rw[if_pos hp]at ha hb
           split at ha
           ·rw[if_pos aS]at hb
            cases ha;cases hb;exact hV.tnt
           ·cases ha
          ·rw[if_neg hp]at ha hb
           rw[ha]at hb;cases hb;exact hV
     ·rename_i kk L hview
      have hcells:k.cells=L.map (AV.vint kk):=by unfold ag.cells;rw[hview];rfl
      have hb:=(ay hq).1
      replace hq:=(ay hq).2
      obtain⟨hb,hb3⟩:=bB hb
      obtain⟨hb1,hb2⟩:=bB hb
      have hb1:=aM hb1
      have hb2:=aM hb2
      have hb3:=aM hb3
      subst hb1 hb2 hb3
      have hvt:=hv.clr
      split at hq
      ·rename_i k' a hca
       rw[hca]at hvt
       obtain⟨hk',hq⟩:=ay hq
       have hk':=ea hk'
       split at hq
       ·cases hq
       ·rename_i h2 hset
        cases hq
        have hi:=aA hm
        cases hvt
        subst hk'
        refine key [.vint k' a] [.int k' a] {k with view:=.ints k' (L.set i a)} (.cons (.vint _ _) .nil) rfl (by rw[hcells];simp;omega) rfl rfl ?_ rfl rfl rfl hown hset
        intro cs hcs
        show ap γ ((L.set i a).map (AV.vint k')) cs
        rw[hcells]at hcs
        have e:(L.map (AV.vint k')).take (i*1+0)++[.vint k' a]++(L.map (AV.vint k')).drop (i*1+0+[AV.vint k' a].length)=(L.set i a).map (AV.vint k'):=by
         rw[List.map_set,B9,if_pos (by simpa using hi)]
         simp
        rw[e]at hcs
        exact hcs
      ·cases hq
     ·rename_i kk L c q hview
      have hcells:k.cells=L.map (fU kk)++[AV.lo c q]:=by unfold ag.cells;rw[hview];rfl
      have hb:=(ay hq).1
      replace hq:=(ay hq).2
      obtain⟨hb,hb3⟩:=bB hb
      obtain⟨hb1,hb2⟩:=bB hb
      have hb1:=aM hb1
      have hb2:=aM hb2
      have hb3:=aM hb3
      subst hb1 hb2 hb3
      split at hq
      ·rename_i c' q'
       split at hq
       ·cases hq
       ·rename_i h2 hset
        cases hq
        have hi:=aA hm
        have hVc:V.cells.toList=[V]:=by cases hv;rfl
        have hVs:V.cells.size=1:=by cases hv;rfl
        refine key [.lo c' q'] [V] {k with view:=.rows kk L c' q'} (.cons hv .nil) rfl (by rw[hcells];simp;omega) hVc hVs ?_ rfl rfl rfl hown hset
        intro cs hcs
        show ap γ (L.map (fU kk)++[AV.lo c' q']) cs
        rw[hcells]at hcs
        have e:(L.map (fU kk)++[AV.lo c q]).take (i*1+0)++[AV.lo c' q']++(L.map (fU kk)++[AV.lo c q]).drop (i*1+0+[AV.lo c' q'].length)=L.map (fU kk)++[AV.lo c' q']:=by
         subst hi
         simp
        rw[e]at hcs
        exact hcs
      ·cases hq
     ·rename_i τ L hview
      have hcells:k.cells=ce τ L:=by unfold ag.cells;rw[hview];rfl
      obtain⟨hb,hq'⟩:=ay hq
      clear hq
      obtain⟨hb1,hb2⟩:=bB hb
      have hb1:=aM hb1
      have hb2:=aM hb2
      subst hb1
      split at hq'
      ·cases hq'
      ·rename_i c h1 ms1 hset1
       obtain⟨hh,hq⟩:=ay hq'
       clear hq'
       split at hq
       ·cases hq
       ·rename_i h2 hset
        cases hq
        have hi:i<L.length:=hm _ eB
        obtain⟨γ',rs,hF,hS⟩:=FC hr hset1 (fun p hp=>hm p (fk _ hp))
        have hk1:h1.get b=some k:=by
         unfold Ik at hh
         split at hh
         ·cases hh
         ·rename_i k1 hk1
          have:=hF.sub b k1 hk1
          rw[hk]at this
          rw[hk1,this]
        have hg1:γ' b=some (B,x):=by show γ'.nm b=_;rw[hF.nm];exact hg
        have hsz:(i+1)*τ.sz≤L.length*τ.sz:=iT _ hi
        rw[gG]at hsz
        have hfit:=hS.fit
        have hvl:=hS.len
        have hle:i*τ.sz+j+v.cells.length≤k.cells.length:=by rw[hcells,jN];omega
        obtain⟨w',g1,g2⟩:=hF.stp.rel.store hk1 hown hg1 (i*τ.sz+j) (hv.mono hF.stp.le).cells hS.one hle P
        have hVl:V.cells.size=v.cells.length:=by simpa using hv.cells.length
        refine⟨w',γ',?_,?_,hF.nm⟩
        ·have hne:V.cells.size=n:=by omega
         simp[Instr.storeAt,Instr.sureAddr,storeVar,di ht hn,hne,g1]
        ·have hfin:be γ' h1.get w γ' h'.get nx w':=by
          rw[ej hset]
          refine g2.view (fun cs hcs=>?_) rfl rfl rfl hown hown
          show ap γ' (ce τ (L.set i c)) cs
          rw[Ey (j:=j) (rs:=rs) hi om (by rw[hvl];exact hS.eq),hvl]
          have hcs:ap γ' (k.cells.take (i*τ.sz+j)++v.cells++k.cells.drop (i*τ.sz+j+v.cells.length)) cs:=hcs
          rw[hcells]at hcs
          obtain⟨V1,V2,rfl,r1,r2⟩:=ap.parts hcs
          obtain⟨V3,V4,rfl,r3,r4⟩:=ap.parts r1
          exact(r3.append (bY.avl (hS.rel γ' (Gm.le_refl _) _ r4))).append r2
         exact hF.stp.trans hfin
     ·rename_i cs hview
      have hcells:k.cells=cs:=by unfold ag.cells;rw[hview];rfl
      have hb:=(ay hq).1
      replace hq:=(ay hq).2
      obtain⟨hb1,hb2⟩:=bB hb
      have hb1:=aM hb1
      have hb2:=aM hb2
      subst hb1 hb2
      have hvt:=hv.clr
      split at hq
      ·cases hq
      ·rename_i l hl
       split at hq
       ·rename_i a hca
        rw[hca]at hvt
        split at hq
        ·cases hq
        ·rename_i h2 hset
         cases hq
         have hi:=aA hm
         have hlen:=Cm hl
         cases hvt
         refine key [.vbool a] [.bool a] {k with view:=.plain (l6 l 0 (i+j) a)} (.cons (.vbool _) .nil) rfl (by rw[hcells];simp;omega) rfl rfl ?_ rfl rfl rfl hown hset
         intro Cs hCs
         show ap γ (l6 l 0 (i+j) a) Cs
         rw[hcells]at hCs
         have e:cs.take (i*1+j)++[AV.vbool a]++cs.drop (i*1+j+[AV.vbool a].length)=cs.set (i+j) (.vbool a):=by
          rw[B9,if_pos om]
          simp
         rw[e]at hCs
         refine ap.imp (by simp[DU,hlen]) (fun p u u' ha hb V hV=>?_) hCs
         obtain⟨x,hx1,hx2⟩:=DV hb
         rw[List.getElem?_set]at ha
         by_cases hp:i+j=p
         ·rw[if_pos hp]at ha
          split at ha
          ·cases ha
           rw[hx2,show Nat.beq (0+p) (i+j)=true by rw[←hp,gF];exact mu _]
           exact hV
          ·cases ha
         ·rw[if_neg hp]at ha
          have h3:=Cn hl ha hx1
          have h4:=hV.clr
          rw[h3]at h4
          cases h4
          have h5:Nat.beq (0+p) (i+j)=false:=by
           cases h6:Nat.beq (0+p) (i+j)with
           |false=>rfl
           |true=>exact absurd (co h6) om
          rw[hx2,h5]
          exact .vbool _
       ·cases hq
 ·cases hq
def aa (b d:Bool):Prop:=b=d
def Hs.ask (H:Hs)(b:Bool):Bool×Hs:=match H.tp with
 |[]=>(true,{H with ms:=aa b true::H.ms})
 |d::tp=>(d,{H with tp:=tp,ms:=aa b d::H.ms})
def Hs.must (H:Hs)(ms:List Prop):Hs:={H with ms:=ms++H.ms}
theorem vP (H:Hs)(b:Bool):(H.ask b).2.m=H.m:=by unfold Hs.ask;split<;>rfl
theorem sv (H:Hs)(b:Bool):(H.ask b).2.nx=H.nx:=by unfold Hs.ask;split<;>rfl
theorem kq (H:Hs)(b:Bool):(H.ask b).2.ms=aa b (H.ask b).1::H.ms:=by unfold Hs.ask;split<;>rfl
def qp:Nat→List AV→Option (List Con)
 |_,[]=>some []
 |0,_=>none
 |f+1,l=>match Con.ofAvs (l.take 5)with
  |none=>none
  |some c=>match qp f (l.drop 5)with
   |none=>none
   |some L=>some (c::L)
def sw (s:ByteArray):List Int:=s.data.toList.map fun b=>(b.toNat:Int)
theorem L5 (s:ByteArray):(sw s).length=s.size:=by unfold sw;rw[jG,um];rfl
noncomputable def A0 (ti:Tr TypeInfo)(conT:Nat)(h:Tr ag)(e z t:Nat)(x:AV):Option (Nat×b6×List Prop):=
 match x with
 |.ro n sz row=>match bN ti t with
  |some (.slice _)=>bif Nat.beq sz z then
   (bif Nat.beq e conT&&Nat.beq z 5 then some (n,.con (aF n row),[∀i,i<n→row i=(Con.ofR (row i)).rvs])
   else match qU ti e with
    |none=>none
    |some k=>bif Nat.beq z 1 then some (n,.ints k (dQ n row),[∀i,i<n→row i=[.int k (gN (row i))]])else none)
   else none
  |_=>none
 |.vstr s=>match bN ti t with
  |some .string=>bif Nat.beq z 1 then some (s.size,.ints .u8 (sw s),[])else none
  |_=>none
 |.lo b n=>match bN ti t with
  |some (.slice _)=>match h.get b with
   |none=>none
   |some k=>match k.view with
    |.con L=>bif Nat.beq e conT&&Nat.beq z 5 then some (n,.con L,[n=L.length])else none
    |.ints kk L=>bif Nat.beq z 1 then some (n,.ints kk L,[n=L.length])else none
    |_=>none
  |_=>none
 |_=>match nP ti h e z t x with
  |none=>none
  |some (n,vs)=>
   bif Nat.beq e conT&&Nat.beq z 5 then
    (match qp (n+1) vs with
    |none=>none
    |some L=>some (n,.con L,[]))
   else match qU ti e with
    |none=>none
    |some k=>bif Nat.beq z 1 then(match nE k vs with
     |none=>none
     |some L=>some (n,.ints k L,[]))else none
def b6.app:b6→b6→Option b6
 |.con L,.con M=>some (.con (L++M))
 |.ints k L,.ints k' M=>bif decide (k=k')then some (.ints k (L++M))else none
 |_,_=>none
def b6.num:b6→Nat
 |.con L=>L.length
 |.ints _ L=>L.length
 |.rows _ L _ _=>L.length+1
 |.vals _ L=>L.length
 |.plain _=>0
def mR:AV→Bool
 |.ro _ _ _=>true
 |_=>false
noncomputable def tj (ti:Tr TypeInfo)(conT:Nat)(t0 t1:Nat)(s x:AV)(H:Hs):Option (AV×Hs):=
 match bN ti t0 with
 |some (.slice e)=>match cC ti e,lP ti e,jc ti e with
  |some z,some by_,some zs=>bif !(Nat.beq zs.length z&&Nat.ble by_ 1000)then none else
   match A0 ti conT H.m e z t1 x with
   |none=>none
   |some (n,V,ms)=>
    let fresh (H:Hs):Option (AV×Hs):=
     match H.m.set H.nx (some ⟨V,e,z,true,true⟩)with
     |none=>none
     |some m=>some (.lo H.nx n,{H with m:=m,nx:=H.nx+1,ms:=(0<n∧n≤1000000)::(ms++H.ms)})
    match s with
    |.lo b c=>match H.m.get b with
     |none=>none
     |some k=>match k.view.app V with
      |none=>none
      |some V'=>bif k.opn&&k.own&&Nat.beq k.sz z&&Nat.beq k.elem e then
       (match H.m.set b none with
       |none=>none
       |some m1=>match m1.set H.nx (some ⟨V',e,z,true,true⟩)with
        |none=>none
        |some m=>some (.lo H.nx (c+n),{H with m:=m,nx:=H.nx+1,ms:=(k.view.num=c∧c+n≤1000000)::(ms++H.ms)}))else none
    |.nils=>bif mR x then
     (match H.ask (Nat.beq n 0)with
     |(true,H1)=>some (.nils,{H1 with nx:=H1.nx+1,ms:=ms++H1.ms})
     |(false,H1)=>fresh H1)
     else fresh H
    |.z0=>bif mR x then
     (match H.ask (Nat.beq n 0)with
     |(true,H1)=>some (.z0,{H1 with nx:=H1.nx+1,ms:=ms++H1.ms})
     |(false,H1)=>fresh H1)
     else fresh H
    |_=>none
  |_,_,_=>none
 |_=>none
theorem yX {z:Nat}{cs:Nat→List Value}:∀(n:Nat),(∀i,i<n→(cs i).length=z)→∀(p:Nat)(v:Value),((List.range n).flatMap cs)[p]? =some v→∃i j,i<n∧p=i*z+j∧(cs i)[j]? =some v
 |0,_,p,v,h=>by simp at h
 |n+1,hl,p,v,h=>by
  rw[oy,kQ]at h
  have hlen:((List.range n).flatMap cs).length=n*z:=by
   clear h
   have hl':∀i,i<n→(cs i).length=z:=fun i hi=>hl i om
   clear hl
   induction n with
   |zero=>simp
   |succ n ih=>
    rw[oy,kQ,fV,ih (fun i hi=>hl' i om)]
    simp only[gh,List.flatMap_nil,kf]
    rw[hl' n om,gG];omega
  by_cases hp:p<n*z
  ·rw[gg om]at h
   obtain⟨i,j,h1,h2,h3⟩:=yX n (fun i hi=>hl i om) p v h
   exact⟨i,j,om,h2,h3⟩
  ·rw[nc om,hlen]at h
   simp only[gh,List.flatMap_nil,kf]at h
   exact⟨n,p-n*z,om,om,h⟩
theorem uN {z:Nat}{cs:Nat→List Value}(n:Nat)(hl:∀i,i<n→(cs i).length=z):((List.range n).flatMap cs).length=n*z:=by
 induction n with
 |zero=>simp
 |succ n ih=>
  rw[oy,kQ,fV,ih (fun i hi=>hl i om)]
  simp only[gh,List.flatMap_nil,kf]
  rw[hl n om,gG];omega
theorem yz {γ:Gm}{g:Nat→List AV}{cs:Nat→List Value}:∀(n:Nat),(∀i,i<n→ap γ (g i) (cs i))→ap γ ((List.range n).flatMap g) ((List.range n).flatMap cs)
 |0,_=>by simp;exact .nil
 |n+1,h=>by
  rw[oy,kQ,kQ]
  refine ap.append (yz n (fun i hi=>h i om)) ?_
  simpa using h n om
theorem CV:∀{f:Nat}{l:List AV}{L:List Con},qp f l=some L→l.map tnt=L.flatMap Con.avs∧l.length=L.length*5
 |f,[],L,h=>by cases f<;>(simp[qp]at h;subst h;exact⟨rfl,rfl⟩)
 |0,_::_,L,h=>by simp[qp]at h
 |f+1,a::l,L,h=>by
  simp only[qp]at h
  split at h
  ·cases h
  ·rename_i c hc
   split at h
   ·cases h
   ·rename_i L' hL
    cases h
    obtain⟨h1,h2⟩:=CV hL
    have h3:=Con.ofAvs_ok hc
    have h4:(List.take 5 (a::l)).length=5:=by have:=congrArg List.length h3;simpa [Con.avs]using this
    have e:a::l=(a::l).take 5++(a::l).drop 5:=(ou 5 (a::l)).symm
    refine⟨?_,?_⟩
    ·rw[e,List.map_append,h3,h1,gh]
    ·rw[e,fV,h4,h2,dg];omega
theorem ap.tnt {γ:Gm}{vs:List AV}{Vs:List Value}(h:ap γ vs Vs):ap γ (vs.map tnt) Vs:=by
 induction vs generalizing Vs with
 |nil=>cases h;exact .nil
 |cons v vs ih=>cases h with|cons h t=>exact .cons h.tnt (ih t)
theorem DP (τ:ae)(c:τ.car):(RV.avl (τ.rvs c)).all AV.one=true:=by
 cases τ<;>rfl
theorem b6.ones (V:b6)(h:V.num≠0∨∀cs,V≠.plain cs):(∀cs,V≠.plain cs)→V.cells.all AV.one=true:=by
 intro hp
 cases V with
 |plain cs=>exact absurd rfl (hp cs)
 |con L=>
  simp only[b6.cells,List.all_flatMap,cK]
  intro c _
  simp[Con.avs,AV.one]
 |ints k L=>simp[b6.cells,AV.one]
 |rows k L b n=>simp[b6.cells,AV.one,fU]
 |vals τ L=>
  simp only[b6.cells,List.all_flatMap,cK]
  intro c _
  exact cK.1 (DP τ c)
structure pi (P:Program)(γ:Gm)(w:World)(e z:Nat)(ts:Array TypeId)(X:Value)(n:Nat)(vs:List AV):Prop where
 ex:∃zeros news,(fN ts).run P w=.ok zeros w∧(fO e zeros X).run P w=.ok n w∧(∀w',w'.heap=w.heap→(gp z e zeros n X).run P w'=.ok news.toArray w')∧ap γ vs news∧news.length=n*z
theorem Ph (c:Con):RV.avl c.rvs=c.avs:=rfl
section
variable {P:Program}{ti:Tr TypeInfo}(ht:dL P ti){conT:Nat}
include ht in
theorem yY {γ:Gm}{h:Tr ag}{nx:Nat}{w:World}(hr:aJ γ h.get nx w){e z t:Nat}(hz:cC ti e=some z){x:AV}{X:Value}(hx:aj γ x X){n:Nat}{V:b6}{ms:List Prop}(hq:A0 ti conT h e z t x=some (n,V,ms))(hm:∀p∈ms,p)
 {ts:Array TypeId}(ht1:ts[1]? =some t):pi P γ w e z ts X n V.cells∧V.num=n∧((∃L,V=.con L∧z=5)∨(∃k L,V=.ints k L∧z=1)):=by
 unfold A0 at hq
 split at hq
 ·rename_i n0 sz row
  split at hq
  ·rename_i e' hd
   have hsz:=(ay hq).1
   replace hq:=(ay hq).2
   have hsz:=aM hsz
   subst hsz
   have hZ:(fN ts).run P w=.ok false w:=by simp[fN,ht1,bF ht hd]
   have key:∀(g:Nat→List AV),(∀i,i<n0→RV.avl (row i)=g i)→pi P γ w e sz ts X n0 ((List.range n0).flatMap g):=by
    intro g hg
    cases hx with
    |ro hR=>
     cases hR with
     |sl0 _ _ a c hn=>
      subst hn
      refine⟨false,[],hZ,by simp[fO,Builtin.lenOf],fun w' _=>?_,by simp;exact .nil,si⟩
      cases a<;>simp[gp,Builtin.firstCells,loadCells,loadCellsFrom]
     |sl cs hc hl hf hrow=>
      rename_i B o c
      refine⟨false,(List.range n0).flatMap cs,hZ,by simp[fO,Builtin.lenOf],fun w' hw'=>?_,yz n0 (fun i hi=>by rw[←hg i hi];exact bY.avl (hrow i hi)),uN n0 hl⟩
      simp only[gp,lH,fx]
      refine run_firstCells_some (P:=P) w' sz n0 _ _ _ _ (uN n0 hl) (fun j v hv=>?_)
      obtain⟨i,j',h1,h2,h3⟩:=yX n0 hl j v hv
      have:=(hf i j' v h1 h3).cell hr
      rw[dl,h2,←Nat.add_assoc]
      simpa [World.cell?,hw']using this
   cases hb:(Nat.beq e conT&&Nat.beq sz 5)with
   |true=>
    rw[hb]at hq
    simp only[aU,bv,dh]at hq
    obtain⟨rfl,rfl,rfl⟩:=hq
    have hrow:=aA hm
    refine⟨?_,by simp[b6.num,aF],.inl ⟨_,rfl,aM (bB hb).2⟩⟩
    have:=key (fun i=>(Con.ofR (row i)).avs) (fun i hi=>by rw[←Ph,←hrow i hi])
    simpa [b6.cells,aF,List.flatMap_map]using this
   |false=>
    rw[hb]at hq
    simp only[bt]at hq
    split at hq
    ·cases hq
    ·rename_i k hk
     obtain⟨hz1,hq'⟩:=ay hq
     simp only[bv,dh]at hq'
     obtain⟨rfl,rfl,rfl⟩:=hq'
     have hrow:=aA hm
     refine⟨?_,by simp[b6.num,dQ],.inr ⟨_,_,rfl,aM hz1⟩⟩
     have:=key (fun i=>[.vint k (gN (row i))]) (fun i hi=>by rw[hrow i hi];rfl)
     have e2:(List.range n0).flatMap (fun i=>[AV.vint k (gN (row i))])=(b6.ints k (dQ n0 row)).cells:=by
      simp[b6.cells,dQ,List.flatMap_singleton']
      induction List.range n0 with
      |nil=>rfl
      |cons a l ih=>simp[gh,ih]
     rwa[e2]at this
  ·cases hq
 ·rename_i s
  split at hq
  ·rename_i hd
   obtain⟨hz1,hq'⟩:=ay hq
   simp only[bv,dh]at hq'
   obtain⟨rfl,rfl,rfl⟩:=hq'
   have hsv:nP ti h e z t (.str s)=some (s.size,s.data.toList.map fun b=>AV.int .u8 b.toNat):=by unfold nP;rw[hd];simp only;rw[hz1];rfl
   obtain⟨zeros,news,c1,c2,c3,c4,c5⟩:=sd ht hr hz hx.clr hsv ht1
   refine⟨⟨zeros,news,c1,c2,c3,?_,c5⟩,L5 s,.inr ⟨_,_,rfl,aM hz1⟩⟩
   have:=c4.tnt
   show ap γ ((sw s).map (AV.vint .u8)) news
   unfold sw
   rw[List.map_map]at this⊢
   exact this
  ·cases hq
 ·rename_i b n0
  split at hq
  ·rename_i e' hd
   have hZ:(fN ts).run P w=.ok false w:=by simp[fN,ht1,bF ht hd]
   split at hq
   ·cases hq
   ·rename_i k hk
    have key:k.cells.length=n0*z→pi P γ w e z ts X n0 k.cells:=by
     intro hlen
     cases hx with
     |lo _ hg=>
      rename_i B x
      obtain⟨Vs,p1,p2,p3⟩:=hr.load hk hg 0 (n0*z) om
      rw[oB,iS om]at p1
      refine⟨false,Vs,hZ,by simp[fO,Builtin.lenOf],fun w' hw'=>?_,p1,p2⟩
      simp only[gp,lH,fx]
      refine run_firstCells_some (P:=P) w' z n0 _ _ _ _ p2 (fun j v hv=>?_)
      have:=p3 j v hv
      rw[dl]at this⊢
      simpa [World.cell?,hw']using this
    split at hq
    ·rename_i L hL
     obtain⟨hb,hq'⟩:=ay hq
     clear hq
     cases hq'
     have hn:=aA hm
     have hz5:=aM (bB hb).2
     have hc:k.cells=L.flatMap Con.avs:=by unfold ag.cells;rw[hL];rfl
     refine⟨?_,hn.symm,.inl ⟨_,rfl,hz5⟩⟩
     have:=key (by rw[hc,lM,hz5,hn])
     rwa[hc]at this
    ·rename_i kk L hL
     obtain⟨hb,hq'⟩:=ay hq
     clear hq
     cases hq'
     have hn:=aA hm
     have hz1:=aM hb
     have hc:k.cells=L.map (AV.vint kk):=by unfold ag.cells;rw[hL];rfl
     refine⟨?_,hn.symm,.inr ⟨_,_,rfl,hz1⟩⟩
     have:=key (by rw[hc,jG,hz1,hn];omega)
     rwa[hc]at this
    ·cases hq
  ·cases hq
 ·split at hq
  ·cases hq
  ·rename_i n1 vs hsrc
   obtain⟨zeros,news,c1,c2,c3,c4,c5⟩:=sd ht hr hz hx hsrc ht1
   have hvl:=c4.length
   cases hb:(Nat.beq e conT&&Nat.beq z 5)with
   |true=>
    rw[hb]at hq
    simp only[aU]at hq
    obtain⟨hb1,hb2⟩:=bB hb
    have hb2:=aM hb2
    subst hb2
    split at hq
    ·cases hq
    ·rename_i L hL
     simp only[bv,dh]at hq
     obtain⟨rfl,rfl,rfl⟩:=hq
     obtain⟨h1,h2⟩:=CV hL
     refine⟨⟨zeros,news,c1,c2,c3,?_,c5⟩,?_,.inl ⟨_,rfl,rfl⟩⟩
     ·show ap γ (L.flatMap Con.avs) news
      rw[←h1];exact c4.tnt
     ·show L.length=n1
      omega
   |false=>
    rw[hb]at hq
    simp only[bt]at hq
    split at hq
    ·cases hq
    ·rename_i k hk
     obtain⟨hz1,hq'⟩:=ay hq
     clear hq
     have hz1:=aM hz1
     subst hz1
     split at hq'
     ·cases hq'
     ·rename_i L hL
      simp only[bv,dh]at hq'
      obtain⟨rfl,rfl,rfl⟩:=hq'
      have h1:=uI c4 hL
      refine⟨⟨zeros,news,c1,c2,c3,?_,c5⟩,?_,.inr ⟨_,_,rfl,rfl⟩⟩
      ·show ap γ (L.map (AV.vint k)) news
       rw[h1]
       clear hL h1
       induction L with
       |nil=>exact .nil
       |cons a L ih=>exact .cons (.vint _ _) ih
      ·show L.length=n1
       have:news.length=L.length:=by rw[h1];simp
       omega
theorem yA {γ:Gm}{h h1 h':Tr ag}{nx:Nat}{w:World}(hr:aJ γ h.get nx w){i:Nat}(hi:γ i=none){nx':Nat}(hi':i<nx')(hn:nx≤nx'){t0 e z m n b B x:Nat}{inf:TypeInfo}{Z:Value}{k:ag}{vs:List AV}{X:Value}
 {ts:Array TypeId}{args:Array Value}(ht0:ts[0]? =some t0)(ha0:args[0]? =some (.slice (some ⟨B,0,none⟩) m (m+x)))(ha1:args[1]? =some X)(hu:P.underlying t0=some (.slice e))(hinf:P.info? e=some inf)(hsz:inf.size=z)(hz0:inf.zero=some Z)(hZ:Z.cells.size=z)
 (hsrc:pi P γ w e z ts X n vs)(hone:vs.all AV.one=true)(hk:h.get b=some k)(hg:γ b=some (B,x))(hown:k.own=true)(hksz:k.sz=z)(hkel:k.elem=e)(hlen:k.cells.length=m*z)
 (h63:m+n≤1000000000)(hby:(m+n)*inf.bytes≤140737488355328)(hkill:h.set b none=some h1)(hset:h1.set i (some ⟨.plain (k.cells++vs),e,z,true,true⟩)=some h'):
 ∃V γ' w',(jO ts args).run P w=.ok V w'∧be γ h.get w γ' h'.get nx' w'∧aj γ' (.lo i (m+n)) V∧∀j,j≠i→γ' j=γ j:=by
 obtain⟨zeros,news,c1,c2,c3,c4,c5⟩:=hsrc.ex
 have hget1:=ej hkill
 have hsub:∀b' k',h1.get b'=some k'→h.get b'=some k':=by
  intro b' k' hb'
  rw[hget1]at hb'
  by_cases e1:b'=b
  ·subst e1;rw[eU]at hb';cases hb'
  ·rw[dj _ _ e1]at hb';exact hb'
 obtain⟨B',x',cs,ex,p1,p2,p3,p4,p5⟩:=hr.blk b k hk
 rw[hg]at p1
 cases p1
 have hcl:=p3.length
 have c3w:=c3 w rfl
 have c3d:=c3 w.drew rfl
 have tolo:∀{γ':Gm}{V:Value},aj γ' (.slc i 0 (m+n) (m+n)) V→aj γ' (.lo i (m+n)) V:=by
  intro γ' V hV
  cases hV with
  |slc _ _ _ hg'=>exact .lo _ hg'
 by_cases hroom:m+n≤m+x
 ·have hfit:(m+n)*z≤(m+x)*z:=iT _ hroom
  have htot:(cs++ex).length=(m+x)*z:=by rw[fV,hcl,hlen,p4,hksz,gG]
  have hst:=run_storeCells_at P B (m*z) k.elem news 0 (cs++ex).toArray w p2 (by
   simp only[pO]
   rw[htot,c5,fv,←gG];exact hfit) (c4.ones hone)
  have hrun:=pS (P:=P) w ht0 ha0 ha1 hu hinf hsz c1 c2 c3w hroom
  simp only[dl,gF,hst,Result.andThen_ok]at hrun
  have hren:=hr.rename hk hown hg i nx' hi hi' hn (vs:=k.cells++vs) (Vs:=cs++news) (ex:=(cs++ex).drop ((m+n)*z)) (p3.append c4) (m+x-(m+n)) (by
   rw[rF,htot,hksz,←Nat.sub_mul])
  refine⟨_,γ.put i (some (B,m+x-(m+n))),_,hrun,?_,?_,fun j hj=>Gm.put_other _ _ hj⟩
  ·rw[ej hset,hget1]
   rw[hksz,hkel]at hren
   have e3:(cs++ex).take (m*z+0)++news++(cs++ex).drop (m*z+0+news.length)=(cs++news)++(cs++ex).drop ((m+n)*z):=by
    simp only[fv,c5,←gG]
    rw[rA om,iS om]
   rw[e3]
   exact hren
  ·have hv:aj (γ.put i (some (B,m+x-(m+n)))) (.lo i (m+n)) (.slice (some ⟨B,0,none⟩) (m+n) ((m+n)+(m+x-(m+n)))):=.lo (m+n) (Gm.put_same _ _ _)
   rwa[show(m+n)+(m+x-(m+n))=m+x by omega]at hv
 ·obtain⟨Vs,r1,r2,r3⟩:=hr.load hk hg 0 (m*z) om
  rw[oB,iS om]at r1
  have hO:=run_firstCells_some (P:=P) w.drew z m ⟨B,0,none⟩ m (m+x) Vs r2 (fun j u hu=>by simpa using r3 j u hu)
  obtain⟨V,γ',w',g1,g2,g3,g4⟩:=p9 (P:=P) hr hsub hi hi' hn ht0 ha0 ha1 hu hinf hsz hz0 hZ c1 c2 c3d hO om h63 hby r1 c4
  refine⟨V,γ',w',g1,?_,tolo g3,g4⟩
  rw[ej hset]
  exact g2
theorem Mp {V W U:b6}(h:V.app W=some U):U.cells=V.cells++W.cells∧U.num=V.num+W.num:=by
 unfold b6.app at h
 split at h
 ·cases h;exact⟨by simp[b6.cells],by simp[b6.num]⟩
 ·obtain⟨hk,h'⟩:=ay h
  clear h
  have hk:=ea hk
  subst hk
  cases h'
  exact⟨by simp[b6.cells],by simp[b6.num]⟩
 ·cases h
theorem pY {γ γ':Gm}{f:Hf}{h1 h2:Tr ag}{nx:Nat}{w w':World}{i:Nat}{V:b6}{cells:List AV}{e z:Nat}(hs:h1.set i (some ⟨V,e,z,true,true⟩)=some h2)(hc:V.cells=cells)
 (h:be γ f w γ' (es h1.get i (some ⟨.plain cells,e,z,true,true⟩)) nx w'):be γ f w γ' h2.get nx w':=by
 rw[ej hs]
 refine h.view (fun cs hcs=>?_) rfl rfl rfl rfl rfl
 show ap γ' V.cells cs
 rw[hc];exact hcs
include ht in
theorem Pi {γ:Gm}{H H':Hs}{w:World}(hr:aJ γ H.m.get H.nx w){t0 t1:Nat}{s x v:AV}{S X:Value}(hs:aj γ s S)(hx:aj γ x X)
 (hq:tj ti conT t0 t1 s x H=some (v,H'))(hm:∀p∈H'.ms,p){ts:Array TypeId}{args:Array Value}(ty:TypeId)(ht0:ts[0]? =some t0)(ht1:ts[1]? =some t1)(ha0:args[0]? =some S)(ha1:args[1]? =some X):
 ∃V γ' w',(Builtin.append_ ts ty args).run P w=.ok V w'∧be γ H.m.get w γ' H'.m.get H'.nx w'∧aj γ' v V∧(∀j,j≠H.nx→γ' j=γ j)∧H'.nx=H.nx+1:=by
 rw[rL]
 unfold tj at hq
 split at hq
 case h_2=>cases hq
 rename_i e hd
 have hu:P.underlying t0=some (.slice e):=il ht hd
 split at hq
 case h_2=>cases hq
 rename_i z by_ zs hz hby hzs
 obtain⟨inf,Z,g1,g2,g3⟩:=mC (P:=P) (γ:=γ) ht hzs
 obtain⟨inf',q1,q2⟩:=kg ht hz
 rw[g1]at q1
 cases q1
 have hbytes:inf.bytes=by_:=nr ht hby g1
 cases hzl:(!(Nat.beq zs.length z&&Nat.ble by_ 1000))with
 |true=>rw[hzl]at hq;cases hq
 |false=>
  rw[hzl]at hq
  simp only[bt]at hq
  have hzl':(Nat.beq zs.length z&&Nat.ble by_ 1000)=true:=by simpa using hzl
  obtain⟨hz1,hb1⟩:=bB hzl'
  have hz1:=aM hz1
  have hb1:=aT hb1
  have hZ:Z.cells.size=z:=by have:=g3.length;simp at this;omega
  split at hq
  ·cases hq
  rename_i n V ms hsrc
  have bytesOk:∀m,m≤1000000→m*inf.bytes≤140737488355328:=by
   intro m hm'
   rw[hbytes]
   have:m*by_≤1000000*1000:=mr hm' hb1
   omega
  -- a new block
  have fresh:∀(H1:Hs)(base:Option Addr),H1.m=H.m→H1.nx=H.nx→S=.slice base 0 0→
   (match H1.m.set H1.nx (some ⟨V,e,z,true,true⟩)with
     |none=>none
     |some m=>some (AV.lo H1.nx n,({H1 with m:=m,nx:=H1.nx+1,ms:=(0<n∧n≤1000000)::(ms++H1.ms)}:Hs)))=some (v,H')→
   ∃V γ' w',(jO ts args).run P w=.ok V w'∧be γ H.m.get w γ' H'.m.get H'.nx w'∧aj γ' v V∧(∀j,j≠H.nx→γ' j=γ j)∧H'.nx=H.nx+1:=by
   intro H1 base e1 e2 hS hf
   split at hf
   ·cases hf
   ·rename_i m hset
    cases hf
    obtain⟨h0,hle⟩:=hm (0<n∧n≤1000000) si
    obtain⟨so,_,hnp⟩:=yY ht hr hz hx hsrc (fun p hp=>hm p (by simp[hp])) ht1
    obtain⟨zeros,news,c1,c2,c3,c4,c5⟩:=so.ex
    have hO:(Builtin.firstCells z 0 (.slice base 0 0)).run P w.drew=.ok ([]:List Value).toArray w.drew:=by cases base<;>simp[Builtin.firstCells,loadCells,loadCellsFrom]
    obtain⟨W,γ',w',r1,r2,r3,r4⟩:=p9 (P:=P) (olds:=[]) (Olds:=[]) hr (f1:=H.m.get) (fun _ _ h=>h) (i:=H.nx) (nx':=H.nx+1) (hr.fresh _ (bp _)) om om ht0 (by rw[ha0,hS]) ha1 hu g1 q2 g2 hZ c1 c2 (c3 w.drew rfl) hO om om (bytesOk _ om) .nil c4
    rw[e1,e2]at hset
    refine⟨W,γ',w',r1,?_,?_,r4,by rw[e2]⟩
    ·show be γ H.m.get w γ' m.get (H1.nx+1) w'
     rw[e2]
     exact pY hset si r2
    ·rw[e2]
     rw[gF]at r3
     cases r3 with
     |slc _ _ _ hg'=>exact .lo _ hg'
  -- nothing is appended
  have still:∀(H1:Hs)(base:Option Addr),H1.m=H.m→H1.nx=H.nx→S=.slice base 0 0→aj γ v (.slice base 0 0)→(Nat.beq n 0=true)→(∀p∈ms,p)→({H1 with nx:=H1.nx+1,ms:=ms++H1.ms}:Hs)=H'→
   ∃V γ' w',(jO ts args).run P w=.ok V w'∧be γ H.m.get w γ' H'.m.get H'.nx w'∧aj γ' v V∧(∀j,j≠H.nx→γ' j=γ j)∧H'.nx=H.nx+1:=by
   intro H1 base e1 e2 hS hv hn hms hH
   subst hH
   have hn:=aM hn
   subst hn
   obtain⟨so,_,hnp⟩:=yY ht hr hz hx hsrc hms ht1
   obtain⟨zeros,news,c1,c2,c3,c4,c5⟩:=so.ex
   have hnews:news=[]:=kP (by simpa using c5)
   subst hnews
   have hrun:=pS (P:=P) w ht0 (by rw[ha0,hS]) ha1 hu g1 q2 c1 c2 (c3 w rfl) (sLen:=0) (sCap:=0) (base:=base) om
   refine⟨.slice base 0 0,γ,w,?_,?_,hv,fun _ _=>rfl,by rw[e2]⟩
   ·rw[hrun]
    cases base<;>simp[storeCells]
   ·show be γ H.m.get w γ H1.m.get (H1.nx+1) w
    rw[e1,e2]
    exact be.refl (hr.nx_mono om)
  have asked:∀(base:Option Addr)(u:AV),S=.slice base 0 0→aj γ u (.slice base 0 0)→
   (bif mR x then
     (match H.ask (Nat.beq n 0)with
     |(true,H1)=>some (u,({H1 with nx:=H1.nx+1,ms:=ms++H1.ms}:Hs))
     |(false,H1)=>(match H1.m.set H1.nx (some ⟨V,e,z,true,true⟩)with
      |none=>none
      |some m=>some (AV.lo H1.nx n,({H1 with m:=m,nx:=H1.nx+1,ms:=(0<n∧n≤1000000)::(ms++H1.ms)}:Hs))))
     else(match H.m.set H.nx (some ⟨V,e,z,true,true⟩)with
      |none=>none
      |some m=>some (AV.lo H.nx n,({H with m:=m,nx:=H.nx+1,ms:=(0<n∧n≤1000000)::(ms++H.ms)}:Hs))))=some (v,H')→
   ∃V γ' w',(jO ts args).run P w=.ok V w'∧be γ H.m.get w γ' H'.m.get H'.nx w'∧aj γ' v V∧(∀j,j≠H.nx→γ' j=γ j)∧H'.nx=H.nx+1:=by
   intro base u hS hu' hh
   cases hro:mR x with
   |false=>
    rw[hro]at hh
    exact fresh H base rfl rfl hS hh
   |true=>
    rw[hro]at hh
    simp only[aU]at hh
    have am:=vP H (Nat.beq n 0)
    have an:=sv H (Nat.beq n 0)
    have ak:=kq H (Nat.beq n 0)
    generalize hak:H.ask (Nat.beq n 0)=r at hh am an ak
    obtain⟨d,H1⟩:=r
    cases d with
    |true=>
     simp only[bv,dh]at hh
     obtain⟨rfl,hH⟩:=hh
     refine still H1 base am an hS hu' ?_ (fun p hp=>hm p (by rw[←hH];simp[hp])) hH
     exact hm (aa (Nat.beq n 0) true) (by rw[←hH];exact jo _ (by rw[show H1.ms=_ from ak];exact eB))
    |false=>exact fresh H1 base am an hS hh
  split at hq
  ·rename_i b c
   split at hq
   ·cases hq
   ·rename_i k hk
    split at hq
    ·cases hq
    ·rename_i V' happ
     have hb:=(ay hq).1
     replace hq:=(ay hq).2
     simp only[bj]at hb
     obtain⟨⟨⟨d1,d2⟩,d3⟩,d4⟩:=hb
     split at hq
     ·cases hq
     ·rename_i m1 hkill
      split at hq
      ·cases hq
      ·rename_i m hset
       cases hq
       obtain⟨hnum,hle⟩:=hm (k.view.num=c∧c+n≤1000000) si
       obtain⟨so,hVn,hVz⟩:=yY ht hr hz hx hsrc (fun p hp=>hm p (by simp[hp])) ht1
       have hnp:∀cs,V≠.plain cs:=by rcases hVz with⟨L,rfl,_⟩|⟨k,L,rfl,_⟩<;>simp
       obtain⟨ac,an⟩:=Mp happ
       cases hs with
       |lo _ hg=>
        rename_i B xx
        have hkz:=aM d3
        have hke:=aM d4
        have hlen:k.cells.length=c*z:=by
         have hzz:k.view.cells.length=k.view.num*z:=by
          rcases hVz with⟨L,rfl,rfl⟩|⟨k2,L,rfl,rfl⟩
          ·cases hkv:k.view with
           |con M=>exact lM M
           |plain M=>rw[hkv]at happ;cases happ
           |ints k3 M=>rw[hkv]at happ;cases happ
           |rows k3 M b3 n3=>rw[hkv]at happ;cases happ
           |vals τ3 M=>rw[hkv]at happ;cases happ
          ·cases hkv:k.view with
           |con M=>rw[hkv]at happ;cases happ
           |plain M=>rw[hkv]at happ;cases happ
           |ints k3 M=>simp[b6.cells,b6.num]
           |rows k3 M b3 n3=>rw[hkv]at happ;cases happ
           |vals τ3 M=>rw[hkv]at happ;cases happ
         rw[←hnum];exact hzz
        have hone:V.cells.all AV.one=true:=V.ones (.inr hnp) hnp
        have hset':∃m2,m1.set H.nx (some ⟨.plain (k.cells++V.cells),e,z,true,true⟩)=some m2:=by
         unfold Tr.set at hset⊢
         obtain⟨hb2,_⟩:=ay hset
         rw[hb2]
         exact⟨_,rfl⟩
        obtain⟨m2,hset2⟩:=hset'
        obtain⟨W,γ',w',r1,r2,r3,r4⟩:=yA (P:=P) hr (i:=H.nx) (hr.fresh _ (bp _)) (nx':=H.nx+1) om om ht0 ha0 ha1 hu g1 q2 g2 hZ so hone hk hg d2 hkz hke hlen om (bytesOk _ hle) hkill hset2
        refine⟨W,γ',w',r1,?_,r3,r4,rfl⟩
        rw[ej hset2]at r2
        exact pY hset ac r2
  ·cases hs
   exact asked none _ rfl .nils hq
  ·cases hs
   exact asked _ _ rfl (.z0 _) hq
  ·cases hq
end
theorem aJ.reblk {γ:Gm}{f:Hf}{nx:Nat}{w:World}(h:aJ γ f nx w){b:Nat}{k k':ag}(hb:f b=some k)(hc:∀cs,ap γ k.cells cs→ap γ k'.cells cs)(h1:k'.elem=k.elem)(h2:k'.sz=k.sz)(h3:k'.opn=true)(h4:k.own=true)(h5:k'.own=true):
 be γ f w γ (es f b (some k')) nx w:=by
 have hold:∀c kc,es f b (some k') c=some kc→∃kc',f c=some kc'∧kc'.own=kc.own:=by
  intro c kc hc'
  by_cases e:c=b
  ·subst e;rw[eU]at hc';cases hc';exact⟨k,hb,by rw[h4,h5]⟩
  ·rw[dj f _ e]at hc';exact⟨kc,hc',rfl⟩
 refine⟨Gm.le_refl γ,⟨?_,?_,h.fresh,h.fzr,?_⟩,bp _,rfl,rfl,rfl,fun _ _ _=>rfl,?_,?_,?_,fun _ _ h=>.inl h,bp _⟩
 ·intro c kc hc'
  by_cases e:c=b
  ·subst e
   rw[eU]at hc'
   cases hc'
   obtain⟨B,x,cs,ex,g1,g2,g3,g4,g5⟩:=h.blk c k hb
   exact⟨B,x,cs,ex,g1,by rw[h1];exact g2,hc _ g3,by rw[h2];exact g4,fun h=>by rw[h3]at h;cases h⟩
  ·rw[dj f _ e]at hc'
   exact h.blk c kc hc'
 ·intro c c' kc kc' B x x' q1 q2 q3 q4
  obtain⟨_,r1,_⟩:=hold _ _ q1
  obtain⟨_,r2,_⟩:=hold _ _ q2
  exact h.inj _ _ _ _ _ _ _ r1 r2 q3 q4
 ·intro c kc B x hc' ho hg
  obtain⟨kc',r1,r2⟩:=hold _ _ hc'
  exact h.fzo c kc' B x r1 (by rw[r2];exact ho) hg
 ·intro i hi ⟨c,kc,y,q1,q2,q3⟩
  obtain⟨kc',r1,r2⟩:=hold _ _ q1
  exact⟨c,kc',y,r1,by rw[r2];exact q2,q3⟩
 ·intro c kc hc' ho
  by_cases e:c=b
  ·subst e;rw[eU]at hc';cases hc';rw[h5]at ho;cases ho
  ·rw[dj f _ e]at hc';exact hc'
 ·intro c kc hc'
  obtain⟨kc',r1,_⟩:=hold _ _ hc'
  exact .inl ⟨kc',r1⟩
theorem SH {γ:Gm}{b n B x:Nat}{k:IntKind}{l:List Int}{el:Nat}{fr:Nat×Nat}{ex:List Value}(hg:γ b=some (B,x))(hz:γ.fz B=some (.cells (l.map (Value.int k)++ex).toArray el fr))(hn:n=l.length){V:Value}(hV:aj γ (.lo b n) V):aj γ (fU k l) V:=by
 cases hV with
 |lo _ hg'=>
  rw[hg]at hg'
  cases hg'
  subst hn
  unfold fU
  refine .ro (.sl (fun i=>[.int k (l.getD i 0)]) om (fun i hi=>rfl) (fun i j v hi hv=>?_) (fun i hi=>.cons (.int _ _) .nil))
  refine⟨_,_,_,hz,?_⟩
  cases j with
  |zero=>
   simp only[nd,bv]at hv
   subst hv
   rw[ke,gg (by simp;omega)]
   simp[hi]
  |succ j=>simp at hv
def AV.row:AV→Option (Nat×Nat)
 |.slc b o n c=>bif Nat.beq o 0&&Nat.beq n c then some (b,n)else none
 |.lo b n=>some (b,n)
 |_=>none
theorem AV.row_ok {v:AV}{b n:Nat}(h:v.row=some (b,n)){γ:Gm}{V:Value}(hV:aj γ v V):aj γ (.lo b n) V∧v.one=true:=by
 unfold AV.row at h
 split at h
 ·obtain⟨h1,h2⟩:=ay h
  obtain⟨h1,h3⟩:=bB h1
  have h1:=aM h1
  have h3:=aM h3
  subst h1 h3
  cases h2
  cases hV with
  |slc _ _ _ hg=>exact⟨.lo _ hg,rfl⟩
 ·cases h;exact⟨hV,rfl⟩
 ·cases h
def ag.nums (kk:IntKind)(k:ag):Option (List Int):=match k.view with
 |.ints k' l=>bif decide (k'=kk)then some l else none
 |.plain cs=>nE kk cs
 |_=>none
theorem ag.nums_ok {kk:IntKind}{k:ag}{l:List Int}(h:k.nums kk=some l){γ:Gm}{cs:List Value}(hc:ap γ k.cells cs):ap γ (l.map (AV.vint kk)) cs∧cs=l.map (Value.int kk):=by
 have key:∀(l:List Int)(cs:List Value),ap γ (l.map (AV.vint kk)) cs→cs=l.map (Value.int kk):=by
  intro l
  induction l with
  |nil=>intro cs h;cases h;rfl
  |cons a l ih=>intro cs h;cases h with|cons h1 h2=>cases h1;rw[ih _ h2];rfl
 have back:∀(l:List Int),ap γ (l.map (AV.vint kk)) (l.map (Value.int kk)):=by
  intro l
  induction l with
  |nil=>exact .nil
  |cons a l ih=>exact .cons (.vint _ _) ih
 unfold ag.nums at h
 split at h
 ·rename_i k' l' hv
  obtain⟨h1,h2⟩:=ay h
  have h1:=ea h1
  subst h1
  cases h2
  have hc:ap γ k.view.cells cs:=hc
  rw[hv]at hc
  exact⟨hc,key _ _ hc⟩
 ·rename_i cs' hv
  have hc:ap γ k.view.cells cs:=hc
  rw[hv]at hc
  have e:=uI hc h
  subst e
  exact⟨back _,rfl⟩
 ·cases h
def AG (ti:Tr TypeInfo)(kk:IntKind)(h:Tr ag)(e t:Nat)(x:AV):Option (AV×Nat×Nat×Tr ag):=
 match nP ti h e 1 t x with
 |some (1,[v])=>match v.row with
  |none=>none
  |some (b,n)=>match h.get b with
   |none=>none
   |some k=>match k.nums kk with
    |none=>none
    |some l=>bif k.own&&Nat.beq k.sz 1 then(match h.set b (some ⟨.ints kk l,k.elem,1,true,true⟩)with
     |none=>none
     |some h'=>some (v,b,n,h'))else none
 |_=>none
def AH (kk:IntKind)(h:Tr ag)(e bo bi c:Nat):Option (List (List Int)×Tr ag×List Prop):=
 match h.get bo with
 |none=>none
 |some ko=>match ko.view with
  |.rows k' L b n=>match h.get b with
   |none=>none
   |some kb=>match kb.nums kk with
    |none=>none
    |some l=>bif decide (k'=kk)&&kb.own&&ko.own&&Nat.beq ko.sz 1&&Nat.beq ko.elem e&&!Nat.beq b bi&&!Nat.beq bo b&&!Nat.beq bo bi then
     (match h.set b none with
     |none=>none
     |some h1=>match h1.set bo none with
      |none=>none
      |some h2=>some (L++[l],h2,[L.length+1=c∧n=l.length]))
     else none
  |_=>none
def tA (ti:Tr TypeInfo)(t0 t1:Nat)(s x:AV)(H:Hs):Option (AV×Hs):=
 match bN ti t0 with
 |some (.slice e)=>match bN ti e with
  |some (.slice ei)=>match cC ti e,lP ti e,jc ti e,qU ti ei with
   |some z,some by_,some zs,some kk=>bif Nat.beq z 1&&Nat.beq zs.length 1&&Nat.ble by_ 1000 then
    (match AG ti kk H.m e t1 x with
    |none=>none
    |some (_,bi,ni,m1)=>match s with
     |.nils=>(match m1.set H.nx (some ⟨.rows kk [] bi ni,e,1,true,true⟩)with
      |none=>none
      |some m=>some (.lo H.nx 1,{H with m:=m,nx:=H.nx+1}))
     |.lo bo c=>(match AH kk m1 e bo bi c with
      |none=>none
      |some (L,m2,ms)=>match m2.set H.nx (some ⟨.rows kk L bi ni,e,1,true,true⟩)with
       |none=>none
       |some m=>some (.lo H.nx (c+1),{H with m:=m,nx:=H.nx+1,ms:=(c+1≤1000000)::(ms++H.ms)}))
     |_=>none)
    else none
   |_,_,_,_=>none
  |_=>none
 |_=>none
theorem PV {ti:Tr TypeInfo}{t0 t1:Nat}{u y v:AV}{H H':Hs}(hq:tA ti t0 t1 u y H=some (v,H')):∀p∈H.ms,p∈H'.ms:=by
 intro p hp
 unfold tA at hq
 split at hq
 ·split at hq
  ·split at hq
   ·replace hq:=(ay hq).2
    split at hq
    ·cases hq
    ·split at hq
     ·split at hq
      ·cases hq
      ·cases hq;exact hp
     ·split at hq
      ·cases hq
      ·split at hq
       ·cases hq
       ·cases hq;simp[hp]
     ·cases hq
   ·cases hq
  ·cases hq
 ·cases hq
section
variable {P:Program}{ti:Tr TypeInfo}(ht:dL P ti)
include ht in
theorem On {γ:Gm}{h h':Tr ag}{nx:Nat}{w:World}(hr:aJ γ h.get nx w){kk:IntKind}{e t b n:Nat}{x v:AV}{X:Value}(hx:aj γ x X)(hz:cC ti e=some 1)(hq:AG ti kk h e t x=some (v,b,n,h')){ts:Array TypeId}(ht1:ts[1]? =some t):
 be γ h.get w γ h'.get nx w∧pi P γ w e 1 ts X 1 [v]∧v.row=some (b,n):=by
 unfold AG at hq
 split at hq
 ·rename_i v' hsrc
  split at hq
  ·cases hq
  ·rename_i b' n' hrow
   split at hq
   ·cases hq
   ·rename_i k hk
    split at hq
    ·cases hq
    ·rename_i l hl
     obtain⟨hb,hq'⟩:=ay hq
     clear hq
     obtain⟨hb1,hb2⟩:=bB hb
     have hb2:=aM hb2
     split at hq'
     ·cases hq'
     ·rename_i h2 hset
      cases hq'
      refine⟨?_,⟨sd ht hr hz hx hsrc ht1⟩,hrow⟩
      rw[ej hset]
      exact hr.reblk hk (fun cs hcs=>(ag.nums_ok hl hcs).1) rfl hb2.symm rfl hb1 rfl
 ·cases hq
theorem Oo {γ:Gm}{h h':Tr ag}{nx:Nat}{w:World}(hr:aJ γ h.get nx w){kk:IntKind}{e bo bi c:Nat}{L:List (List Int)}{ms:List Prop}(hq:AH kk h e bo bi c=some (L,h',ms))(hm:∀p∈ms,p):
 ∃(γ1:Gm) (ko:ag) (h1:Tr ag),be γ h.get w γ1 h1.get nx w∧γ1.nm=γ.nm∧h1.get bo=some ko∧ko.own=true∧ko.sz=1∧ko.elem=e∧ko.cells.length=c∧h1.set bo none=some h'∧
  (∀γ2:Gm,γ1.le γ2→∀cs,ap γ2 ko.cells cs→ap γ2 (L.map (fU kk)) cs):=by
 unfold AH at hq
 split at hq
 ·cases hq
 ·rename_i ko hko
  split at hq
  ·rename_i k' L0 b n hview
   split at hq
   ·cases hq
   ·rename_i kb hkb
    split at hq
    ·cases hq
    ·rename_i l hl
     obtain⟨hb,hq'⟩:=ay hq
     clear hq
     simp only[bj,mp]at hb
     obtain⟨⟨⟨⟨⟨⟨⟨d1,d2⟩,d3⟩,d4⟩,d5⟩,d6⟩,d7⟩,d8⟩:=hb
     have d1:=ea d1
     subst d1
     have d4:=aM d4
     have d5:=aM d5
     have d6:=mH d6
     have d7:=mH d7
     split at hq'
     ·cases hq'
     ·rename_i h1 hs1
      split at hq'
      ·cases hq'
      ·rename_i h2 hs2
       cases hq'
       obtain⟨hc,hn⟩:=aA hm
       obtain⟨B,x,cs,ex,g1,g2,g3,g4,g5⟩:=hr.blk b kb hkb
       obtain⟨n1,n2⟩:=ag.nums_ok hl g3
       have hfz:=hr.freeze hkb d2 g1 g2
       have hcells:ko.cells=L0.map (fU k')++[AV.lo b n]:=by unfold ag.cells;rw[hview];rfl
       refine⟨⟨γ.nm,fun B'=>if B'=B then some (Obj.cells (cs++ex).toArray kb.elem)else γ.fz B'⟩,ko,h1,by rw[ej hs1];exact hfz,rfl,?_,d3,d4,d5,?_,hs2,?_⟩
       ·rw[ej hs1,dj _ _ d7];exact hko
       ·rw[hcells];simp;omega
       ·intro γ2 hle cs2 hcs2
        rw[hcells]at hcs2
        rw[List.map_append]
        obtain⟨V1,V2,rfl,r1,r2⟩:=ap.parts hcs2
        refine r1.append ?_
        cases r2 with
        |cons r3 r4=>
         cases r4
         refine .cons (SH (x:=x) (B:=B) (el:=kb.elem) (fr:=(0,0)) (ex:=ex) (hle.nm _ _ g1) ?_ hn r3) .nil
         refine hle.fz B _ ?_
         show(if B=B then _ else _)=_
         rw[if_pos rfl,n2]
  ·cases hq
include ht in
theorem PW {γ:Gm}{H H':Hs}{w:World}(hr:aJ γ H.m.get H.nx w){t0 t1:Nat}{s x v:AV}{S X:Value}(hs:aj γ s S)(hx:aj γ x X)
 (hq:tA ti t0 t1 s x H=some (v,H'))(hm:∀p∈H'.ms,p){ts:Array TypeId}{args:Array Value}(ty:TypeId)(ht0:ts[0]? =some t0)(ht1:ts[1]? =some t1)(ha0:args[0]? =some S)(ha1:args[1]? =some X):
 ∃V γ' w',(Builtin.append_ ts ty args).run P w=.ok V w'∧be γ H.m.get w γ' H'.m.get H'.nx w'∧aj γ' v V∧(∀j,j≠H.nx→γ' j=γ j)∧H'.nx=H.nx+1:=by
 rw[rL]
 unfold tA at hq
 split at hq
 case h_2=>cases hq
 rename_i e hd
 have hu:P.underlying t0=some (.slice e):=il ht hd
 split at hq
 case h_2=>cases hq
 rename_i ei hd2
 split at hq
 case h_2=>cases hq
 rename_i z by_ zs kk hz hby hzs hkk
 obtain⟨inf,Z,g1,g2,g3⟩:=mC (P:=P) (γ:=γ) ht hzs
 obtain⟨inf',q1,q2⟩:=kg ht hz
 rw[g1]at q1
 cases q1
 have hbytes:inf.bytes=by_:=nr ht hby g1
 have hb:=(ay hq).1
 replace hq:=(ay hq).2
 obtain⟨hb,hb1⟩:=bB hb
 obtain⟨hz0,hz1⟩:=bB hb
 have hz0:=aM hz0
 have hz1:=aM hz1
 have hb1:=aT hb1
 subst hz0
 have hZ:Z.cells.size=1:=by have:=g3.length;simp at this;omega
 have bytesOk:∀m,m≤1000000→m*inf.bytes≤140737488355328:=by
  intro m hm'
  rw[hbytes]
  have:m*by_≤1000000*1000:=mr hm' hb1
  omega
 split at hq
 ·cases hq
 rename_i vv bi ni m1 hin
 obtain⟨xQ,so,hrow⟩:=On ht hr hx hz hin ht1
 have hr1:=xQ.rel
 have tolast:∀{γ2:Gm}{cs:List Value},ap γ2 [vv] cs→ap γ2 [AV.lo bi ni] cs:=by
  intro γ2 cs hcs
  cases hcs with
  |cons h1 h2=>cases h2;exact .cons (AV.row_ok hrow h1).1 .nil
 split at hq
 ·-- nil
  split at hq
  ·cases hq
  ·rename_i m hset
   cases hq
   cases hs
   obtain⟨zeros,news,c1,c2,c3,c4,c5⟩:=so.ex
   have hO:(Builtin.firstCells 1 0 (.slice none 0 0)).run P w.drew=.ok ([]:List Value).toArray w.drew:=by simp[Builtin.firstCells,loadCells,loadCellsFrom]
   obtain⟨W,γ',w',r1,r2,r3,r4⟩:=p9 (P:=P) (olds:=[]) (Olds:=[]) hr1 (f1:=m1.get) (fun _ _ h=>h) (i:=H.nx) (nx':=H.nx+1) (hr.fresh _ (bp _)) om om ht0 ha0 ha1 hu g1 q2 g2 hZ c1 c2 (c3 w.drew rfl) hO om om (bytesOk _ om) .nil c4
   refine⟨W,γ',w',r1,xQ.trans ?_,?_,r4,rfl⟩
   ·show be γ m1.get w γ' m.get (H.nx+1) w'
    rw[ej hset]
    refine r2.view (fun cs hcs=>?_) rfl rfl rfl rfl rfl
    exact tolast hcs
   ·cases r3 with
    |slc _ _ _ hg'=>exact .lo _ hg'
 ·-- a list
  rename_i bo c
  split at hq
  ·cases hq
  ·rename_i L m2 ms hto
   split at hq
   ·cases hq
   ·rename_i m hset
    cases hq
    have hle:c+1≤1000000:=hm _ eB
    obtain⟨γ1,ko,h1,xR,hnm,k1,k2,k3,k4,k5,k6,k7⟩:=Oo hr1 hto (fun p hp=>hm p (by simp[hp]))
    have hr2:=xR.rel
    cases hs with
    |lo _ hg=>
     rename_i B xx
     have hg1:γ1 bo=some (B,xx):=by show γ1.nm bo=_;rw[hnm];exact hg
     obtain⟨zeros,news,c1,c2,c3,c4,c5⟩:=so.ex
     have so1:pi P γ1 w e 1 ts X 1 [vv]:=⟨zeros,news,c1,c2,c3,c4.mono xR.le,c5⟩
     have hone:([vv]:List AV).all AV.one=true:=by
      cases c4 with
      |cons h1 h2=>simp[(AV.row_ok hrow h1).2]
     have hset':∃m3,m2.set H.nx (some ⟨.plain (ko.cells++[vv]),e,1,true,true⟩)=some m3:=by
      unfold Tr.set at hset⊢
      obtain⟨hb2,_⟩:=ay hset
      rw[hb2]
      exact⟨_,rfl⟩
     obtain⟨m3,hset3⟩:=hset'
     obtain⟨W,γ',w',r1,r2,r3,r4⟩:=yA (P:=P) hr2 (i:=H.nx) (hr2.fresh _ (bp _)) (nx':=H.nx+1) om om ht0 ha0 ha1 hu g1 q2 g2 hZ so1 hone k1 hg1 k2 k3 k4 om om (bytesOk _ hle) k6 hset3
     refine⟨W,γ',w',r1,xQ.trans (xR.trans ?_),r3,fun j hj=>by rw[r4 j hj];show γ1.nm j=_;rw[hnm],rfl⟩
     show be γ1 h1.get w γ' m.get (H.nx+1) w'
     rw[ej hset3]at r2
     rw[ej hset]
     refine r2.view (fun cs hcs=>?_) rfl rfl rfl rfl rfl
     obtain⟨V1,V2,rfl,p1,p2⟩:=ap.parts (us:=ko.cells) (vs:=[vv]) hcs
     exact(k7 γ' r2.le V1 p1).append (tolast p2)
 ·cases hq
end
end Go.QfSy
end
