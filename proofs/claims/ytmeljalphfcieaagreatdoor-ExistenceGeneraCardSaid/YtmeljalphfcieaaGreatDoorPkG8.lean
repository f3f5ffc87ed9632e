/- A part of the proof of ExistenceGenera: ZFC, ZFD, MI, ML, MM, MJ, MK, MN, MO. -/
import Derived.Test.YtmeljalphfcieaaGreatDoorPkG3
import Derived.Test.YtmeljalphfcieaaGreatDoorPkG4
import Derived.Test.YtmeljalphfcieaaGreatDoorPkG7
import Derived.Test.YtmeljalphfcieaaGreatDoorPkG5
set_option linter.unusedSimpArgs false
set_option linter.unusedVariables false
set_option maxRecDepth 100000
open Go.IntKind renaming i64 → w6
open Go.QfSy.Con renaming zero → z0c
noncomputable section
namespace Go.QfSy
open Go.RowKit
def vI:AV→AV→Option (List Prop)
 |.nils,.ro n _ _=>some [n=0]
 |.slc b 0 n c,.lo b' n'=>bif Nat.beq b b'&&Nat.beq n c then some [n=n']else none
 |x,y=>o6 x y
theorem Ez {γ:Gm}{x y:AV}{ms:List Prop}(h:vI x y=some ms)(hm:∀p∈ms,p){V:Value}(hV:ap γ x V):ap γ y V:=by
 unfold vI at h
 split at h
 ·cases h
  cases hV
  exact .ro (.sl0 _ _ _ _ (ay hm))
 ·obtain⟨hc,h⟩:=az h
  cases h
  simp only[aX]at hc
  have e1:=aN hc.1
  have e2:=aN hc.2
  have e3:=ay hm
  subst e1 e2
  rw[←e3]
  cases hV with|slc _ _ _ hg=>exact .lo _ hg
 ·exact rZ h hm γ V hV
def qk:List AV→List AV→Option (List Prop)
 |[],[]=>some []
 |v::vs,u::us=>match vI v u with
  |none=>none
  |some m1=>match qk vs us with
   |none=>none
   |some m2=>some (m1++m2)
 |_,_=>none
theorem DL {γ:Gm}:∀{xs ys:List AV}{ms:List Prop},qk xs ys=some ms→(∀p∈ms,p)→∀{Vs:List Value},au γ xs Vs→au γ ys Vs
 |[],[],ms,h,hm,Vs,hV=>hV
 |[],_::_,ms,h,hm,Vs,hV=>by simp[qk]at h
 |_::_,[],ms,h,hm,Vs,hV=>by simp[qk]at h
 |v::vs,u::us,ms,h,hm,Vs,hV=>by
  simp only[qk]at h
  split at h
  ·cases h
  ·rename_i m1 h1
   split at h
   ·cases h
   ·rename_i m2 h2
    cases h
    cases hV with|cons a b=>
    exact .cons (Ez h1 (fun p hp=>hm p (kv _ hp)) a) (DL h2 (fun p hp=>hm p (ji _ hp)) b)
noncomputable def sR:List (Nat×ai)→Tr ai→Option (Tr ai×List Prop)
 |[],m=>some (m,[])
 |(b,k')::l,m=>match m.get b with
  |none=>none
  |some k=>bif k.own&&k'.own&&(!k.opn||(k'.opn&&Nat.beq k.sz k'.sz))&&Nat.beq k.elem k'.elem then(match qk k.cells k'.cells with
   |none=>none
   |some m1=>match m.set b (some k')with
    |none=>none
    |some m'=>match sR l m' with
     |none=>none
     |some (m2,ms)=>some (m2,m1++ms))else none
theorem yJ {γ:Gm}{nx:Nat}{w:World}:∀{l:List (Nat×ai)}{m m':Tr ai}{ms:List Prop},aQ γ m.get nx w→sR l m=some (m',ms)→(∀p∈ms,p)→bj γ m.get w γ m'.get nx w
 |[],m,m',ms,hr,h,hm=>by cases h;exact bj.refl hr
 |(b,k')::l,m,m',ms,hr,h,hm=>by
  simp only[sR]at h
  split at h
  ·cases h
  ·rename_i k hk
   obtain⟨hc,h⟩:=az h
   simp only[aX,og,n7]at hc
   split at h
   ·cases h
   ·rename_i m1 h1
    split at h
    ·cases h
    ·rename_i m2 h2
     split at h
     ·cases h
     ·rename_i m3 m4 h3
      cases h
      have s1:=aQ.cast hr hk hc.1.1.1 hc.1.1.2 (hc.1.2.imp id fun h=>⟨h.1,aN h.2⟩) (aN hc.2) (fun cs hcs=>DL h1 (fun p hp=>hm p (kv _ hp)) hcs)
      rw[←eo h2]at s1
      exact s1.trans (yJ s1.rel h3 (fun p hp=>hm p (ji _ hp)))
noncomputable def JM (g:Nat)(l:List (Nat×ai))(call:bF):bF:=fun f args H=>bif Nat.beq f g then(match sR l H.m with
 |none=>none
 |some (m',ms)=>call f args ⟨m',H.nx,H.tp,ms++H.ms⟩)else call f args H
theorem zu {P:Program}{ng g:Nat}{l:List (Nat×ai)}{call:bF}(hc:ce P ng call):ce P ng (JM g l call):=by
 intro f args H v H' hq
 unfold JM at hq
 cases hb:Nat.beq f g with
 |false=>rw[hb]at hq;exact hc f args H v H' hq
 |true=>
  rw[hb]at hq
  simp only[aM]at hq
  split at hq
  ·cases hq
  ·rename_i m' ms hf
   obtain⟨h1,h2⟩:=hc f args _ v H' hq
   refine⟨fun p hp=>h1 p (ji _ hp),fun hm γ w Args hr hV hg=>?_⟩
   have a1:=yJ hr hf (fun p hp=>hm p (h1 p (kv _ hp)))
   obtain⟨q1,q2⟩:=h2 hm γ w Args a1.rel hV hg
   refine⟨q1,q2.mono ?_⟩
   rintro e w' ⟨V,γ2,rfl,k1,k2⟩
   exact⟨V,γ2,rfl,k1,⟨a1.trans k2.stp,k2.nx,k2.keep⟩⟩
theorem zj {P:Program}{ng:Nat}{A:cg}(h:aJ P ng A)(post':Bool→AV×List (Nat×ai)×Nat)(hc:∀d,A.TestOk d→∃cl m' m1 m2,sR cl (bc (A.post d).2.1)=some (m',m2)∧ao m2∧vI (A.post d).1 (post' d).1=some m1∧ao m1∧m'=bc (post' d).2.1∧(post' d).2.2=(A.post d).2.2):aJ P ng ⟨A.f,A.args,A.pre,A.nx,A.test,post'⟩:=by
 obtain⟨h1,h2⟩:=h
 refine⟨h1,fun d hd γ w Args hr hV hg=>(h2 d hd γ w Args hr hV hg).mono ?_⟩
 rintro e w' ⟨V,γ',rfl,hv,hs,hk⟩
 obtain⟨cl,m',m1,m2,c1,c2,c3,c4,c5,c6⟩:=hc d hd
 have s:=yJ hs.rel c1 ((jl _).1 c2)
 refine⟨V,γ',rfl,Ez c3 ((jl _).1 c4) hv,?_,hk⟩
 show bj γ (bc A.pre).get w γ' (bc (post' d).2.1).get (post' d).2.2 w'
 rw[←c5,c6]
 exact hs.trans s
theorem yb {P:Program}{ng:Nat}{A:cg}(h:aJ P ng A)(hpre:A.pre=[]){Ar:List RV}(hargs:A.args=RV.avl Ar)(hng:ng≤A.nx){R:RV}{d:Bool}(hd:A.TestOk d){ms:List Prop}(hrd:rd (bc (A.post d).2.1) (A.post d).1 R=some ms)(hm:ao ms):ar P [] A.f Ar R:=by
 obtain⟨h1,h2⟩:=h
 refine⟨h1,fun w F Args hT hF hA=>?_⟩
 have hok:eN (fe [])=true:=rfl
 have hr0:aQ (gT ng F) (bc (fe [])).get A.nx w:=As hT hF hng rfl hok
 have e0:bc A.pre=bc (fe []):=by rw[hpre];rfl
 refine(h2 d hd (gT ng F) w Args (by rw[e0];exact hr0) (by rw[hargs];exact hA.avl) (fun g hg'=>by simp[gT,hg'])).mono ?_
 rintro e w' ⟨V,γ',rfl,hV,hs,hk⟩
 rw[e0]at hs
 have hbel:i7 w.heap.size w w':=⟨⟨hs.os,hs.tape,hs.output,hs.size,fun k hk=>hs.frame k hk (me hok k)⟩,hs.drawn⟩
 let F':Fz:=fun B=>match γ'.fz B with
  |some x=>some x
  |none=>if w.heap.size≤B then w'.heap[B]? else none
 have hle:γ'.fz.le F':=by intro B x hx;simp only[F',hx]
 refine⟨V,F',rfl,fun B x hx=>hle B x (hs.le.fz B x hx),?_,?_,?_,hbel⟩
 ·intro B x hx
  simp only[F']at hx
  split at hx
  ·rename_i y hy;cases hx;exact hs.rel.fzr B x hy
  ·split at hx
   ·exact hx
   ·cases hx
 ·intro B x hx
  simp only[F']at hx
  split at hx
  ·rename_i y hy
   cases hx
   rcases hs.fzn B x hy with h1|h1|h1
   ·exact .inl h1
   ·exact .inr h1
   ·exact(me hok B h1).elim
  ·split at hx
   ·rename_i hB;exact .inr hB
   ·cases hx
 ·refine oV hs.rel hle (fun b k B x y hk hown hgb hy=>?_) hrd ((jl _).1 hm) hV
  have hz:=hs.rel.fzo b k B x hk hown hgb
  simp only[F',hz]
  rw[if_pos,hy]
  rcases bA B w.heap.size with h1|h1
  ·exact(me hok B (hs.own B h1 ⟨b,k,x,hk,hown,hgb⟩)).elim
  ·exact h1
end Go.QfSy
namespace Go.Proofs.YtmeljalphfcieaaGreatDoor.S
open Go.QfSy Go.RowKit
def mJ (X:List LC):ai:=⟨.vals (.list .con) X,43,1,true,true⟩
def BM (L:LC):ai:=⟨.plain [(aD L).av],43,1,false,true⟩
def dp:Nat→LC→Nat→List LC
 |0,L,_=>[L]
 |m+1,L,k=>dp m L (k+1)++dp m (o9 L k (-1)) (k+1)
theorem sv:∀(m:Nat)(L:LC)(k:Nat),(dp m L k).length=2^m
 |0,L,k=>rfl
 |m+1,L,k=>by rw[dp,bU,sv m,sv m,iU];omega
def tK (m:Nat)(L:LC)(k:Nat):cg:=⟨54,[(aD L).av,vi k],[],1000,none,fun _=>(.lo 1000 (dp m L k).length,[(1000,mJ (dp m L k))],1200)⟩
def abn (L:LC)(k:Nat):cg:=⟨54,[(aD L).av,vi k],[],1000,none,fun _=>(.slc 1000 0 1 1,[(1000,BM L)],1200)⟩
theorem iF (L:LC):ag L.length (fun i=>aa.con.rvs (L.getD i aa.con.zero))=L:=bn L
theorem Rb (L:LC)(k:Nat)(v:Int):(o9 L k v).length=L.length:=by simp[o9]
theorem Rc (L:LC)(k:Nat)(v:Bool):(ka L k v).length=L.length:=by simp[ka]
theorem BN {a b:Nat}(h:a≠b):((a:Int)==(b:Int))=false:=by
 cases h1:((a:Int)==(b:Int))with
 |false=>rfl
 |true=>have:=eq_of_beq h1;omega
theorem xd {n:Nat}(h:0<n):Nat.beq n 0=false:=by
 cases h1:Nat.beq n 0 with
 |false=>rfl
 |true=>have:=co h1;omega
theorem J3 {m:Nat}(h:m≤16):2^m≤65536:=rB om h
theorem Tx (L:LC)(k:Nat)(hk:L.length=k):aJ Tryz.prog EV.ng (abn L k):=by
 have z1:((k:Int)==((L.length:Nat):Int))=true:=by rw[hk];exact e9 _
 refine cQ c0 Tryz.func54 aC ?_
 intro d hd
 cases d
 ·exact Bool.noConfusion (show false=true from hd)
 ·refine lr [true] [lq L,aj ((↑k:Int)==↑L.length) true] ⟨?_,z1⟩
  all_goals first|exact cT|(first|exact tz)
def J4 (m k n:Nat):Nat→List AV→Hs→Option (cg×List Prop):=fun f args H=>
 bif Nat.beq f 54 then(match args with
  |[.ro c _ row,_]=>some (tK m (ag c row) k,[c=n])
  |_=>none)else none
theorem Ty {m k n:Nat}(ih:∀L:LC,L.length=n→aJ Tryz.prog EV.ng (tK m L k)):∀f args H A ms,J4 m k n f args H=some (A,ms)→(∀q∈ms,q)→aJ Tryz.prog EV.ng A:=by
 intro f args H A ms hq hm
 unfold J4 at hq
 replace hq:=(az hq).2
 split at hq
 ·cases hq
  exact ih _ Ni
 ·cases hq
theorem PE (L:LC)(k m:Nat)(hk:L.length=k+(m+1))(hn:L.length≤16)(ih:∀X:LC,X.length=L.length→aJ Tryz.prog EV.ng (tK m X (k+1))):aJ Tryz.prog EV.ng (tK (m+1) L k):=by
 have z1:=BN (a:=k) (b:=L.length) om
 have z2:=xd (n:=L.length) om
 refine cQ (cF (sA (g:=54) (cV (Ty ih) (dL _ _)))) Tryz.func54 aC ?_
 intro d hd
 cases d
 ·exact Bool.noConfusion (show false=true from hd)
 ·refine oe (L.length.beq (0:Nat)) (fun d1=>absurd d1 (by simp_all))
   (fun d1=>lr [false,false] (let v1:=ag L.length fun i=>(L.getD i Con.zero).rvs;let v4:=o9 v1 k (-1:Int);let v2:=ag v4.length fun i=>aa.con.rvs (v4.getD i aa.con.zero);let v3:=k+1;let v5:=dp m v1 v3;[v5.length+(dp m v2 v3).length=(dp (m+1) L k).length,dp m v1 v3++dp m v2 v3=dp (m+1) L k,v5.length=v5.length∧v5.length+(dp m v2 v3).length≤1000000,rq ((dp m v2 v3).length),v4.length=L.length,v4.length=v2.length∧(fun i=>aa.con.rvs (v4.getD i aa.con.zero))=fun i=>(v2.getD i Con.zero).rvs,IntKind.i64.wrap ((↑k:Int)+1)=↑v3,L.length=v4.length,rq L.length,L.length=v1.length∧(fun i=>(L.getD i Con.zero).rvs)=fun i=>(v1.getD i Con.zero).rvs,IntKind.i64.wrap ((↑k:Int)+1)=↑v3,k<v1.length,(0:Int)≤↑k∧(↑k:Int)<↑L.length,(0:Nat)<L.length∧L.length≤1000000,lz L,ty d1,aj ((↑k:Int)==↑L.length) false]) ⟨?_,?_,?_,?_,?_,?_,?_,?_,?_,?_,?_,?_,?_,?_,?_,d1,z1⟩)
  all_goals first|exact cT|(first|exact tz|exact⟨om,om⟩|exact jV|exact fk|((try simp only[bn,iF]);(try simp only[Rb,true_and,and_true]);first|done|omega|exact⟨rfl,rfl⟩|rfl|(rw[dp,bU])|(have p1:=sv m L (k+1);have p2:=sv m (o9 L k (-1)) (k+1);have p3:=J3 (m:=m) om;omega)|omega))
theorem IT:∀(m:Nat)(L:LC)(k:Nat),L.length=k+m→L.length≤16→aJ Tryz.prog EV.ng (tK m L k)
 |0,L,k,hk,hn=>by
  refine zj (Tx L k hk) (fun _=>(.lo 1000 1,[(1000,mJ [L])],1200)) fun d _=>⟨[(1000,mJ [L])],_,_,_,rfl,?_,rfl,?_,rfl,rfl⟩
  ·exact⟨rfl,rfl⟩
  ·exact rfl
 |m+1,L,k,hk,hn=>PE L k m hk hn fun X hX=>IT m X (k+1) om om
theorem Rd (L:LC)(hn:L.length≤16):ar Tryz.prog [] 54 [aD L,.int .i64 0] (aI (.list .con) (dp L.length L 0)):=by
 refine yb (IT L.length L 0 om hn) rfl rfl (aU lJ) (d:=true) rfl rfl ?_
 exact⟨rfl,rfl,fun _ _=>rfl⟩
def shC (e d:Nat):Con:=⟨(e:Int),(d:Int),1,false,0⟩
def K8 (R:Nat→Nat→Nat→List (List Con))(n v e:Nat):Nat→List (List Con)
 |0=>[]
 |j+1=>K8 R n v e j++(R (n-(j+1)) (v-(j+1)*e) (e+1)).map (shC e (j+1)::·)
def shN (n v e:Nat):Nat:=bif Nat.beq e 0 then n else Nat.min n (v/e)
def JH (R:Nat→Nat→Nat→List (List Con))(n v fr:Nat):Nat→List (List Con)
 |0=>[]
 |i+1=>JH R n v fr i++K8 R n v (fr+i) (shN n v (fr+i))
def ix:Nat→Nat→Nat→Nat→List (List Con)
 |0,_,_,_=>[]
 |f+1,n,v,fr=>bif Nat.beq n 0 then(bif Nat.beq v 0 then [[]]else [])else JH (ix f) n v fr (v+1-fr)
def JI (n v:Nat):Bool:=Nat.ble (ix 9 n v 0).length 400000&&(ix 9 n v 0).all fun L=>Nat.ble 1 L.length&&Nat.ble L.length 4&&L.all fun c=>decide (0≤c.exp)&&decide (c.exp≤1000)&&decide (0≤c.dim)&&decide (c.dim≤1000)
theorem QE:((List.range 4).all fun a=>(List.range 6).all fun v=>JI (a+1) v)=true:=by kernel_rfl
theorem Ft {n v:Nat}(h0:0<n)(hn:n≤4)(hv:v≤5):JI n v=true:=by
 have h:=bX.1 (bX.1 QE (n-1) (jj.2 om)) v (jj.2 om)
 rwa[show n-1+1=n by omega]at h
theorem Qv:((List.range 5).all fun a=>(List.range 6).all fun v=>mg 52 [] [ii a,ii v,ii 0] (aI (.list .con) (ix 9 a v 0)))=true:=by kernel_rfl
theorem Qw (n v:Nat)(hn:n≤4)(hv:v≤5):ar Tryz.prog [] 52 [.int .i64 (n:Int),.int .i64 (v:Int),.int .i64 0] (aI (.list .con) (ix 9 n v 0)):=
 pM (bX.1 (bX.1 Qv n (jj.2 om)) v (jj.2 om))
def cD:Nat→LC→Nat→List LC
 |0,L,_=>[L]
 |m+1,L,k=>cD m (ka L k true) (k+1)++bif((at_ L k).dim.tmod 2==0)then cD m L (k+1)else []
theorem sk:∀(m:Nat)(L:LC)(k:Nat),0<(cD m L k).length∧(cD m L k).length≤2^m
 |0,L,k=>⟨Nat.succ_pos _,aZ _⟩
 |m+1,L,k=>by
  have h1:=sk m (ka L k true) (k+1)
  have h2:=sk m L (k+1)
  rw[cD,bU,iU]
  cases ((at_ L k).dim.tmod 2==0)
  ·exact⟨by simp;omega,by simp;omega⟩
  ·exact⟨by simp only[aM];omega,by simp only[aM];omega⟩
def tI (m:Nat)(L:LC)(k:Nat):cg:=⟨55,[(aD L).av,vi k],[],1000,none,fun _=>(.lo 1000 (cD m L k).length,[(1000,mJ (cD m L k))],1200)⟩
def aa9 (L:LC)(k:Nat):cg:=⟨55,[(aD L).av,vi k],[],1000,none,fun _=>(.slc 1000 0 1 1,[(1000,BM L)],1200)⟩
theorem S9 (L:LC)(k:Nat)(hk:L.length=k):aJ Tryz.prog EV.ng (aa9 L k):=by
 have z1:((k:Int)==((L.length:Nat):Int))=true:=by rw[hk];exact e9 _
 refine cQ c0 Tryz.func55 aC ?_
 intro d hd
 cases d
 ·exact Bool.noConfusion (show false=true from hd)
 ·refine lr [true] [lq L,aj ((↑k:Int)==↑L.length) true] ⟨?_,z1⟩
  all_goals first|exact cT|(first|exact tz)
def JV (m k n:Nat):Nat→List AV→Hs→Option (cg×List Prop):=fun f args H=>
 bif Nat.beq f 55 then(match args with
  |[.ro c _ row,_]=>some (tI m (ag c row) k,[c=n])
  |_=>none)else none
theorem Ta {m k n:Nat}(ih:∀L:LC,L.length=n→aJ Tryz.prog EV.ng (tI m L k)):∀f args H A ms,JV m k n f args H=some (A,ms)→(∀q∈ms,q)→aJ Tryz.prog EV.ng A:=by
 intro f args H A ms hq hm
 unfold JV at hq
 replace hq:=(az hq).2
 split at hq
 ·cases hq
  exact ih _ Ni
 ·cases hq
theorem Tc (L:LC)(k m:Nat)(hk:L.length=k+(m+1))(hn:L.length≤16)(ih:∀X:LC,X.length=L.length→aJ Tryz.prog EV.ng (tI m X (k+1))):aJ Tryz.prog EV.ng (tI (m+1) L k):=by
 have z1:=BN (a:=k) (b:=L.length) om
 have z2:=xd (n:=L.length) om
 refine cQ (cF (sA (g:=55) (cV (Ta ih) (dL _ _)))) Tryz.func55 aC ?_
 intro d hd
 cases d
 ·exact Bool.noConfusion (show false=true from hd)
 ·refine oe (L.length.beq (0:Nat)) (fun d1=>absurd d1 (by simp_all))
   (fun d1=>let y1:List Prop:=(let v1:=ag L.length fun i=>(L.getD i Con.zero).rvs;let v2:=ka v1 k true;let v3:=ag v2.length fun i=>aa.con.rvs (v2.getD i aa.con.zero);let v4:=(↑L.length:Int);[(2:Int)≠(0:Int),(0:Int)≤↑k∧(↑k:Int)<v4,v2.length=L.length,v2.length=v3.length∧(fun i=>aa.con.rvs (v2.getD i aa.con.zero))=fun i=>(v3.getD i Con.zero).rvs,IntKind.i64.wrap ((↑k:Int)+1)=↑(k+1),L.length=v2.length,k<v1.length,(0:Int)≤↑k∧(↑k:Int)<v4,(0:Nat)<L.length∧L.length≤1000000,lz L,ty d1,aj ((↑k:Int)==v4) false]);have u1:ao y1:=⟨?_,?_,?_,?_,?_,?_,?_,?_,?_,?_,d1,z1⟩;oe ((L.getD k Con.zero).dim.tmod (2:Int)==0) (fun d2=>lr (tp 221) (let v1:=ag L.length fun i=>(L.getD i Con.zero).rvs;let v2:=ag (ka v1 k true).length fun i=>aa.con.rvs ((ka v1 k true).getD i aa.con.zero);let v3:=k+1;let v4:=cD m v2 v3;(v4.length+(cD m v1 v3).length=(cD (m+1) L k).length)::(cD m v2 v3++cD m v1 v3=cD (m+1) L k)::(v4.length=v4.length∧v4.length+(cD m v1 v3).length≤1000000)::rq ((cD m v1 v3).length)::rq L.length::(L.length=v1.length∧(fun i=>(L.getD i Con.zero).rvs)=fun i=>(v1.getD i Con.zero).rvs)::(IntKind.i64.wrap ((↑k:Int)+1)=↑v3)::ty d2::y1) ⟨?_,?_,?_,?_,?_,?_,?_,d2,u1⟩)
   (fun d2=>lr (tp 222) (let v1:=ag L.length fun i=>(L.getD i Con.zero).rvs;let v2:=ag (ka v1 k true).length fun i=>aa.con.rvs ((ka v1 k true).getD i aa.con.zero);((cD m v2 (k+1)).length=(cD (m+1) L k).length)::(cD m v2 (k+1)=cD (m+1) L k)::ty d2::y1) ⟨?_,?_,d2,u1⟩))
  all_goals((try clear u1);(try clear y1))
  all_goals first|exact cT|(first|exact tz|decide|exact⟨om,om⟩|exact jV|exact fk|((try simp only[bn,iF]);(try simp only[Rc,true_and,and_true]);first|done|omega|exact⟨rfl,rfl⟩|rfl|(have hd:((at_ L k).dim.tmod 2==0)=_:=d2;rw[cD,hd];first|rfl|(rw[aM,bU])|(rw[bg,gi]))|(have p1:=sk m L (k+1);have p2:=sk m (ka L k true) (k+1);have p3:=J3 (m:=m) om;omega)))
theorem IE:∀(m:Nat)(L:LC)(k:Nat),L.length=k+m→L.length≤16→aJ Tryz.prog EV.ng (tI m L k)
 |0,L,k,hk,hn=>by
  refine zj (S9 L k hk) (fun _=>(.lo 1000 1,[(1000,mJ [L])],1200)) fun d _=>⟨[(1000,mJ [L])],_,_,_,rfl,?_,rfl,?_,rfl,rfl⟩
  ·exact⟨rfl,rfl⟩
  ·exact rfl
 |m+1,L,k,hk,hn=>Tc L k m hk hn fun X hX=>IE m X (k+1) om om
theorem Q4 (L:LC)(hn:L.length≤16):ar Tryz.prog [] 55 [aD L,.int .i64 0] (aI (.list .con) (cD L.length L 0)):=by
 refine yb (IE L.length L 0 om hn) rfl rfl (aU lJ) (d:=true) rfl rfl ?_
 exact⟨rfl,rfl,fun _ _=>rfl⟩
def fE (L:LC)(l:List Int):Nat→Int
 |0=>0
 |k+1=>fE L l k+(at_ L (l.getD k 0).toNat).dim
def ib (L:LC):Prop:=∀c∈L,0≤c.dim∧c.dim≤1000
theorem ib.at {L:LC}(h:ib L)(k:Nat):0≤(at_ L k).dim∧(at_ L k).dim≤1000:=by
 rcases bA k L.length with h1|h1
 ·have:at_ L k=L[k]:=by simp[at_,h1]
  rw[this];exact h _ (fp h1)
 ·have e:at_ L k=z0c:=by simp[at_,cj,gL h1]
  rw[e];decide
theorem AO {L:LC}(h:ib L)(l:List Int):∀k,0≤fE L l k∧fE L l k≤1000*k
 |0=>by simp[fE]
 |k+1=>by
  have h1:=AO h l k
  have h2:=h.at (l.getD k 0).toNat
  simp only[fE]
  omega
def qq (n:Nat)(P:List (List Int)):Prop:=P.length≤16∧∀l∈P,0<l.length∧l.length≤1000∧∀i∈l,0≤i∧i<(n:Int)
theorem qq.at {n:Nat}{P:List (List Int)}(h:qq n P){k:Nat}(hk:k<P.length):0<(ab P k).length∧(ab P k).length≤1000∧∀j,j<(ab P k).length→0≤(ab P k).getD j 0∧(ab P k).getD j 0<(n:Int):=by
 have e:ab P k=P[k]:=by simp[ab,hk]
 rw[e]
 obtain⟨h1,h2,h3⟩:=h.2 _ (fp hk)
 refine⟨h1,h2,fun j hj=>?_⟩
 rw[cj,eb hj]
 exact h3 _ (fp hj)
def Lx (L:LC)(P:List (List Int))(k:Nat)(l:List Int)(n i:AV):List (Nat×AV):=[(0,(aD L).av),(1,(cS .i64 P).av),(2,vi k),(7,n),(22,(rI .i64 l).av),(23,vi l.length),(24,i)]
def tsA (L:LC)(P:List (List Int))(k:Nat)(l:List Int):aA:=⟨⟨Lx L P k l (.int .i64 0) (.int .i64 0),[],1000⟩,none,fun _=>(.exit 0,⟨[(0,(aD L).av),(1,(cS .i64 P).av),(2,vi k),(7,vi (fE L l l.length))],[],1000⟩)⟩
theorem TX (L:LC)(P:List (List Int))(k:Nat)(l:List Int)(hD:ib L)(hl:l.length≤1000)(hi:∀j,j<l.length→0≤l.getD j 0∧l.getD j 0<(L.length:Int)):An 3 Tryz.f56 [0,1,0,1,1,1] (tsA L P k l):=by
 refine cN c0 aC (fun(j:Nat)=>(⟨Lx L P k l (vi (fE L l j)) (vi j),[],1000⟩:St)) (fun(j:Nat)=>(l.length-j:Nat)) (fun(j:Nat)=>(j≤l.length:Prop)) ?_ ?_
 ·exact st (0) [lq L,sr P fun i=>[rI IntKind.i64 (P.getD i [])],rq (↑k:Int),(0:Int)=fE L l (0:Nat),sr l fun j=>[RV.int IntKind.i64 (l.getD j (0:Int))],rq (↑l.length:Int),(0:Int)=↑(0:Nat)] Md (by exact aY _)
 ·intro j hI
  have hj:j≤l.length:=hI
  have hb:=AO hD l j
  refine(let q1:List Prop→List Prop:=fun l0=>(lq L)::(sr P fun i=>[rI IntKind.i64 (P.getD i [])])::rq (↑k:Int)::l0;oe (decide ((↑j:Int)<↑l.length)) (fun d1=>aq [true] (j+1) (q1 [w6.wrap (fE L l j+(L.getD (l.getD j (0:Int)).toNat z0c).dim)=fE L l (j+1),sr l fun j=>[RV.int IntKind.i64 (l.getD j (0:Int))],rq (↑l.length:Int),w6.wrap ((↑j:Int)+1)=↑(j+1),(0:Int)≤l.getD j (0:Int)∧l.getD j (0:Int)<↑L.length,(0:Int)≤↑j∧(↑j:Int)<↑l.length,ty d1]) ⟨?_,?_,?_,?_,?_,?_,?_,?_,?_,d1⟩ ?_ ?_)
   (fun d1=>br [false] (q1 [fE L l j=fE L l l.length,ty d1]) ⟨?_,?_,?_,?_,d1⟩))
  all_goals first|(refine cy.mk ?_;(have dd:=oT d1;show l.length-(j+1)<l.length-j;omega))|(refine bD.mk ?_;(have dd:=oT d1;show j+1≤l.length;omega))|exact cT|(first|exact tz|(have dd:=oT d1;have h2:=hi j om;have h3:0≤(L.getD (l.getD j 0).toNat z0c).dim∧(L.getD (l.getD j 0).toNat z0c).dim≤1000:=hD.at (l.getD j 0).toNat;first|exact⟨om,om⟩|exact h2|exact fk|exact wo)|(have dd:=oF d1;rw[show j=l.length by omega]))
def po (L:LC)(P:List (List Int))(k:Nat):Int:=(fE L (ab P k) (ab P k).length).tmod 2
def ez:Nat→LC→List (List Int)→Nat→List LC
 |0,L,_,_=>[L]
 |m+1,L,P,k=>((ez m (fx L ((ab P k).getD 0 0).toNat (po L P k)) P (k+1)++ez m (fx L ((ab P k).getD 0 0).toNat (po L P k+2)) P (k+1))++ez m (fx L ((ab P k).getD 0 0).toNat (po L P k+2+2)) P (k+1))++ez m (fx L ((ab P k).getD 0 0).toNat (po L P k+2+2+2)) P (k+1)
theorem oP:∀(m:Nat)(L:LC)(P:List (List Int))(k:Nat),(ez m L P k).length=4^m
 |0,L,P,k=>rfl
 |m+1,L,P,k=>by
  rw[ez,bU,bU,bU,oP m,oP m,oP m,oP m,iU];omega
theorem YH {L:LC}(h:ib L)(P:List (List Int))(k:Nat):0≤po L P k∧po L P k≤1:=by
 have hb:=(AO h (ab P k) (ab P k).length).1
 unfold po
 rw[gh hb]
 omega
theorem yV (L:LC)(k:Nat)(v:Int):(fx L k v).length=L.length:=by simp[fx]
theorem Rm {L:LC}(h:ib L)(k:Nat)(v:Int):ib (fx L k v):=by
 intro c hc
 unfold fx at hc
 rcases List.mem_or_eq_of_mem_set hc with h1|h1
 ·exact h c h1
 ·rw[h1];exact h.at k
def tM (m:Nat)(L:LC)(P:List (List Int))(k:Nat):cg:=⟨56,[(aD L).av,(cS .i64 P).av,vi k],[],1000,none,fun _=>(.lo 1000 (ez m L P k).length,[(1000,mJ (ez m L P k))],1200)⟩
def abt (L:LC)(P:List (List Int))(k:Nat):cg:=⟨56,[(aD L).av,(cS .i64 P).av,vi k],[],1000,none,fun _=>(.slc 1000 0 1 1,[(1000,BM L)],1200)⟩
theorem TY (L:LC)(P:List (List Int))(k:Nat)(hk:P.length=k):aJ Tryz.prog EV.ng (abt L P k):=by
 have z1:((k:Int)==((P.length:Nat):Int))=true:=by rw[hk];exact e9 _
 refine cQ c0 Tryz.func56 aC ?_
 intro d hd
 cases d
 ·exact Bool.noConfusion (show false=true from hd)
 ·refine lr [true] [lq L,aj ((↑k:Int)==↑P.length) true] ⟨?_,z1⟩
  all_goals first|exact cT|(first|exact tz)
def J7 (m k n:Nat)(P:List (List Int)):Nat→List AV→Hs→Option (cg×List Prop):=fun f args H=>
 bif Nat.beq f 56 then(match args with
  |[.ro c _ row,_,_]=>some (tM m (ag c row) P k,[c=n∧ib (ag c row)])
  |_=>none)else none
theorem TZ {m k n:Nat}{P:List (List Int)}(ih:∀L:LC,L.length=n→ib L→aJ Tryz.prog EV.ng (tM m L P k)):∀f args H A ms,J7 m k n P f args H=some (A,ms)→(∀q∈ms,q)→aJ Tryz.prog EV.ng A:=by
 intro f args H A ms hq hm
 unfold J7 at hq
 replace hq:=(az hq).2
 split at hq
 ·cases hq
  obtain⟨h1,h2⟩:=ay hm
  exact ih _ (by rw[jB];exact h1) h2
 ·cases hq
theorem t8 {t:Int}(h:0≤t∧t≤1):decide (t<8)=true∧decide (w6.wrap (t+2)<8)=true∧decide (w6.wrap (w6.wrap (t+2)+2)<8)=true∧decide (w6.wrap (w6.wrap (w6.wrap (t+2)+2)+2)<8)=true∧decide (w6.wrap (w6.wrap (w6.wrap (w6.wrap (t+2)+2)+2)+2)<8)=false:=by
 have e1:w6.wrap (t+2)=t+2:=wo
 have e2:w6.wrap (t+2+2)=t+2+2:=wo
 have e3:w6.wrap (t+2+2+2)=t+2+2+2:=wo
 have e4:w6.wrap (t+2+2+2+2)=t+2+2+2+2:=wo
 rw[e1,e2,e3,e4]
 exact⟨bZ om,bZ om,bZ om,bZ om,bu om⟩
theorem T0 (L:LC)(P:List (List Int))(k m:Nat)(hk:P.length=k+(m+1))(hm:m≤8)(hn:0<L.length)(hn2:L.length≤16)(hD:ib L)(hP:qq L.length P)(ih:∀X:LC,X.length=L.length→ib X→aJ Tryz.prog EV.ng (tM m X P (k+1))):aJ Tryz.prog EV.ng (tM (m+1) L P k):=by
 have hr:=hP.at (k:=k) om
 have z1:=BN (a:=k) (b:=P.length) om
 have z2:=xd (n:=L.length) hn
 have tb:=YH hD P k
 obtain⟨c0,c1,c2,c3,c4⟩:=t8 (t:=(fE L (ab P k) (ab P k).length).tmod 2) tb
 have tb2:0≤(fE L (ab P k) (ab P k).length).tmod 2∧(fE L (ab P k) (ab P k).length).tmod 2≤1:=tb
 have e1:w6.wrap ((fE L (ab P k) (ab P k).length).tmod 2+2)=(fE L (ab P k) (ab P k).length).tmod 2+2:=wo
 have e2:w6.wrap ((fE L (ab P k) (ab P k).length).tmod 2+2+2)=(fE L (ab P k) (ab P k).length).tmod 2+2+2:=wo
 have e3:w6.wrap ((fE L (ab P k) (ab P k).length).tmod 2+2+2+2)=(fE L (ab P k) (ab P k).length).tmod 2+2+2+2:=wo
 have hp1:=hP.1
 have h5:0≤(P.getD k []).getD (Int.toNat 0) 0∧(P.getD k []).getD (Int.toNat 0) 0<(L.length:Int):=hr.2.2 0 hr.1
 have h6:0<4^m:=Nat.pow_pos om
 have h4:4^m≤4^8:=rB om hm
 have c5:∀X,Nat.beq (ez m X P (k+1)).length 0=false:=fun X=>xd (by rw[oP];exact Nat.pow_pos om)
 refine cQ (cF (sA (g:=56) (cV (TZ ih) (dL _ _)))) Tryz.func56 (aW (TX L P k (ab P k) hD hr.2.1 hr.2.2)) ?_
 intro d hd
 cases d
 ·exact Bool.noConfusion (show false=true from hd)
 ·refine lr (tp 21221212122) (let v14:=Int.toNat (0:Int);let v12:=P.getD k [];let v1:=v12.getD v14 (0:Int);let v2:=ag L.length fun i=>(L.getD i z0c).rvs;let v3:=(fE L (ab P k) (ab P k).length).tmod (2:Int)+2;let v10:=fx v2 v1.toNat ((fE L (ab P k) (ab P k).length).tmod (2:Int));let v4:=ag v10.length fun i=>aa.con.rvs (v10.getD i aa.con.zero);let v11:=fx v2 v1.toNat (w6.wrap (w6.wrap v3+2));let v5:=ag v11.length fun i=>aa.con.rvs (v11.getD i aa.con.zero);let v22:=w6.wrap (w6.wrap v3+2)+2;let v6:=fx v2 v1.toNat (w6.wrap v22);let v15:=fx v2 v1.toNat (w6.wrap v3);let v7:=ag v15.length fun i=>aa.con.rvs (v15.getD i aa.con.zero);let v8:=k+1;let v9:=ag v6.length fun i=>aa.con.rvs (v6.getD i aa.con.zero);let v13:=ez m v4 P v8;let v16:=(1000000:Nat);let v17:=(↑P.length:Int);let v18:=ez m v7 P v8;let v19:=(↑v12.length:Int);let v20:=(↑k:Int)+1;let v21:=L.length.beq (0:Nat);let v23:=ez m v5 P v8;let v24:=(↑L.length:Int);[v13.length+v18.length+v23.length+(ez m v9 P v8).length=(ez (m+1) L P k).length,ez m v4 P v8++ez m v7 P v8++ez m v5 P v8++ez m v9 P v8=ez (m+1) L P k,aj (decide (w6.wrap (w6.wrap v22+2)<8)) false,(ez m v4 P v8++ez m v7 P v8++ez m v5 P v8).length=v13.length+v18.length+v23.length∧v13.length+v18.length+v23.length+(ez m v9 P v8).length≤v16,rq ((ez m v9 P v8).length),v6.length=L.length∧ib v9,v6.length=v9.length∧(fun i=>aa.con.rvs (v6.getD i aa.con.zero))=fun i=>(v9.getD i z0c).rvs,sr P fun i=>[rI IntKind.i64 (P.getD i [])],w6.wrap v20=↑v8,L.length=v6.length,v1.toNat<v2.length,(0:Int)≤v12.getD v14 (0:Int)∧v12.getD v14 (0:Int)<v24,(0:Int)≤0∧(0:Int)<v19,(0:Int)≤↑k∧(↑k:Int)<v17,(0:Nat)<L.length∧L.length≤v16,lz L,aj v21 false,aj (decide (w6.wrap v22<8)) true,(ez m v4 P v8++ez m v7 P v8).length=v13.length+v18.length∧v13.length+v18.length+v23.length≤v16,rq (v23.length),v11.length=L.length∧ib v5,v11.length=v5.length∧(fun i=>aa.con.rvs (v11.getD i aa.con.zero))=fun i=>(v5.getD i z0c).rvs,sr P fun i=>[rI IntKind.i64 (P.getD i [])],w6.wrap v20=↑v8,L.length=v11.length,v1.toNat<v2.length,(0:Int)≤v12.getD v14 (0:Int)∧v12.getD v14 (0:Int)<v24,(0:Int)≤0∧(0:Int)<v19,(0:Int)≤↑k∧(↑k:Int)<v17,(0:Nat)<L.length∧L.length≤v16,lz L,aj v21 false,aj (decide (w6.wrap (w6.wrap v3+2)<8)) true,v13.length=v13.length∧v13.length+v18.length≤v16,rq (v18.length),v15.length=L.length∧ib v7,v15.length=v7.length∧(fun i=>aa.con.rvs (v15.getD i aa.con.zero))=fun i=>(v7.getD i z0c).rvs,sr P fun i=>[rI IntKind.i64 (P.getD i [])],w6.wrap v20=↑v8,L.length=v15.length,v1.toNat<v2.length,(0:Int)≤v12.getD v14 (0:Int)∧v12.getD v14 (0:Int)<v24,(0:Int)≤0∧(0:Int)<v19,(0:Int)≤↑k∧(↑k:Int)<v17,(0:Nat)<L.length∧L.length≤v16,lz L,aj v21 false,aj (decide (w6.wrap v3<8)) true,(0:Nat)<v13.length∧v13.length≤v16,rq (v13.length),aj (v13.length.beq (0:Nat)) false,v10.length=L.length∧ib v4,v10.length=v4.length∧(fun i=>aa.con.rvs (v10.getD i aa.con.zero))=fun i=>(v4.getD i z0c).rvs,sr P fun i=>[rI IntKind.i64 (P.getD i [])],w6.wrap v20=↑v8,L.length=v10.length,v1.toNat<v2.length,(0:Int)≤v12.getD v14 (0:Int)∧v12.getD v14 (0:Int)<v24,(0:Int)≤0∧(0:Int)<v19,(0:Int)≤↑k∧(↑k:Int)<v17,(0:Nat)<L.length∧L.length≤v16,lz L,aj v21 false,aj (decide ((fE L (ab P k) (ab P k).length).tmod (2:Int)<8)) true,(2:Int)≠(0:Int),lq L,sr P fun i=>[rI IntKind.i64 (P.getD i [])],rq (↑k:Int),v12.length=(ab P k).length∧(fun j=>[RV.int IntKind.i64 (v12.getD j (0:Int))])=fun j=>[RV.int IntKind.i64 ((ab P k).getD j (0:Int))],v19=(↑(ab P k).length:Int),(0:Int)≤↑k∧(↑k:Int)<v17,aj ((↑k:Int)==v17) false]) ⟨?_,?_,c4,?_,?_,?_,?_,?_,?_,?_,?_,?_,?_,?_,?_,?_,z2,c3,?_,?_,?_,?_,?_,?_,?_,?_,?_,?_,?_,?_,?_,z2,c2,?_,?_,?_,?_,?_,?_,?_,?_,?_,?_,?_,?_,?_,z2,c1,?_,?_,(c5 _),?_,?_,?_,?_,?_,?_,?_,?_,?_,?_,?_,z2,c0,?_,?_,?_,?_,?_,?_,?_,z1⟩
  all_goals first|exact cT|(first|exact tz|decide|exact⟨om,om⟩|exact jV|exact fk|((try simp only[bn,iF,e1,e2,e3,and_self]);first|done|trivial|omega|rfl|exact⟨rfl,rfl⟩|(simp only[bU,oP,iU,true_and];omega)|exact⟨yV _ _ _,Rm hD _ _⟩|(simp only[yV,true_and,and_true];first|done|omega)|exact(hr.2.2 0 hr.1)|exact⟨om,by have:=hr.1;show(0:Int)<(((ab P k).length:Nat):Int);omega⟩|exact(hr.2.2 0 hr.1).1|exact(hr.2.2 0 hr.1).2)|exact(5:Nat))
theorem IX:∀(m:Nat)(L:LC)(P:List (List Int))(k:Nat),P.length=k+m→m≤9→0<L.length→L.length≤16→ib L→qq L.length P→aJ Tryz.prog EV.ng (tM m L P k)
 |0,L,P,k,hk,hm,h0,hn,hD,hP=>by
  refine zj (TY L P k hk) (fun _=>(.lo 1000 1,[(1000,mJ [L])],1200)) fun d _=>⟨[(1000,mJ [L])],_,_,_,rfl,?_,rfl,?_,rfl,rfl⟩
  ·exact⟨rfl,rfl⟩
  ·exact rfl
 |m+1,L,P,k,hk,hm,h0,hn,hD,hP=>T0 L P k m hk om h0 hn hD hP fun X hX hDX=>IX m X P (k+1) om om om om hDX (by rw[hX];exact hP)
theorem Rn (L:LC)(P:List (List Int))(h0:0<L.length)(hn:L.length≤16)(hD:ib L)(hP:qq L.length P)(hl:P.length≤9):ar Tryz.prog [] 56 [aD L,cS .i64 P,.int .i64 0] (aI (.list .con) (ez P.length L P 0)):=by
 refine yb (IX P.length L P 0 om hl h0 hn hD hP) rfl rfl (aU lJ) (d:=true) rfl rfl ?_
 exact⟨rfl,rfl,fun _ _=>rfl⟩
def pf (f:LC→LL)(R:List LC)(k:Nat):LL:=(R.take k).flatMap f
theorem qh {f:LC→LL}{R:List LC}{k:Nat}(h:k<R.length):pf f R (k+1)=pf f R k++f (R.getD k []):=by
 unfold pf
 rw[tL R [] h,iS];simp
theorem HM (f:LC→LL)(R:List LC):pf f R R.length=R.flatMap f:=by unfold pf;rw[pG]
theorem qF (f:LC→LL)(R:List LC)(k:Nat):(pf f R k).length≤(R.flatMap f).length:=by
 have:R.flatMap f=(R.take k).flatMap f++(R.drop k).flatMap f:=by rw[←iS,kV]
 unfold pf
 rw[this,bU];omega
structure jX (f:LC→LL)(R:List LC)(i:Nat×Option LL):Prop where
 k:i.1≤R.length
 eq:i.2.getD []=pf f R i.1
 ne:∀X,i.2=some X→0<X.length
theorem vX {f:LC→LL}{R:List LC}:jX f R (0,none):=⟨aY _,rfl,fun X h=>by cases h⟩
theorem vY {f:LC→LL}{R:List LC}{k:Nat}(h:jX f R (k,none))(hk:k<R.length)(he:(f (R.getD k [])).isEmpty=true):jX f R (k+1,none):=by
 have h2:[]=pf f R k:=h.eq
 refine⟨hk,?_,fun X h=>by cases h⟩
 show []=pf f R (k+1)
 rw[qh hk,←h2,qp he];rfl
theorem vZ {f:LC→LL}{R:List LC}{k:Nat}(h:jX f R (k,none))(hk:k<R.length)(he:(f (R.getD k [])).isEmpty=false):jX f R (k+1,some (f (R.getD k []))):=by
 have h2:[]=pf f R k:=h.eq
 refine⟨hk,?_,fun X h=>by cases h;exact Wp he⟩
 show f (R.getD k [])=pf f R (k+1)
 rw[qh hk,←h2];rfl
theorem tf {f:LC→LL}{R:List LC}{k:Nat}{X:LL}(h:jX f R (k,some X))(hk:k<R.length):jX f R (k+1,some (X++f (R.getD k []))):=by
 have h2:X=pf f R k:=h.eq
 have h3:=h.ne X rfl
 refine⟨hk,?_,fun Y h=>by cases h;rw[bU];omega⟩
 show X++f (R.getD k [])=pf f R (k+1)
 rw[qh hk,h2]
theorem uZ {f:LC→LL}{R:List LC}{k:Nat}{X:LL}(h:jX f R (k,some X)):X.length≤(R.flatMap f).length:=by
 have h2:X=pf f R k:=h.eq
 rw[h2];exact qF f R k
theorem tg {f:LC→LL}{R:List LC}{k:Nat}{o:Option LL}(h:jX f R (k,o))(hd:¬k<R.length):o.getD []=R.flatMap f:=by
 have h1:k≤R.length:=h.k
 have h2:o.getD []=pf f R k:=h.eq
 rw[h2,show k=R.length by omega,HM]
structure dK (L:LC):Prop where
 l0:0<L.length
 l1:L.length≤4
 el:∀c∈L,(0≤c.exp∧c.exp≤1000)∧(0≤c.dim∧c.dim≤1000)
theorem Gc {L:LC}(h:dK L)(k:Nat){c:Con}(hc:(0≤c.exp∧c.exp≤1000)∧(0≤c.dim∧c.dim≤1000)):dK (L.set k c):=by
 refine⟨by rw[fm];exact h.l0,by rw[fm];exact h.l1,fun x hx=>?_⟩
 rcases List.mem_or_eq_of_mem_set hx with h1|h1
 ·exact h.el x h1
 ·rw[h1];exact hc
theorem HN {L:LC}(h:dK L)(k:Nat):(0≤(at_ L k).exp∧(at_ L k).exp≤1000)∧(0≤(at_ L k).dim∧(at_ L k).dim≤1000):=by
 rcases bA k L.length with h1|h1
 ·have:at_ L k=L[k]:=by simp[at_,h1]
  rw[this];exact h.el _ (fp h1)
 ·have e:at_ L k=Con.zero:=by simp[at_,cj,gL h1]
  rw[e];decide
theorem oK:∀(m:Nat)(L:LC)(k:Nat),dK L→∀X∈dp m L k,dK X
 |0,L,k,h,X,hX=>by rw[dU.1 hX];exact h
 |m+1,L,k,h,X,hX=>by
  rw[dp]at hX
  rcases dV.1 hX with hX|hX
  ·exact oK m L (k+1) h X hX
  ·exact oK m _ (k+1) (show dK (o9 L k (-1))from Gc h k (HN h k)) X hX
theorem oL:∀(m:Nat)(L:LC)(k:Nat),dK L→∀X∈cD m L k,dK X
 |0,L,k,h,X,hX=>by rw[dU.1 hX];exact h
 |m+1,L,k,h,X,hX=>by
  rw[cD]at hX
  rcases dV.1 hX with hX|hX
  ·exact oL m _ (k+1) (show dK (ka L k true)from Gc h k (HN h k)) X hX
  ·cases hb:((at_ L k).dim.tmod 2==0)with
   |true=>rw[hb]at hX;exact oL m L (k+1) h X hX
   |false=>rw[hb]at hX;simp at hX
theorem qs:∀(m:Nat)(L:LC)(P:List (List Int))(k:Nat),∀X∈ez m L P k,X.length=L.length
 |0,L,P,k,X,hX=>by rw[dU.1 hX]
 |m+1,L,P,k,X,hX=>by
  rw[ez]at hX
  have hs:∀v,(fx L ((ab P k).getD 0 0).toNat v).length=L.length:=fun v=>yV _ _ _
  rcases dV.1 hX with hX|hX
  ·rcases dV.1 hX with hX|hX
   ·rcases dV.1 hX with hX|hX
    ·rw[qs m _ _ _ X hX,hs]
    ·rw[qs m _ _ _ X hX,hs]
   ·rw[qs m _ _ _ X hX,hs]
  ·rw[qs m _ _ _ X hX,hs]
def mu (R:List LC):Prop:=∀L∈R,dK L
theorem mu.at {R:List LC}(h:mu R){k:Nat}(hk:k<R.length):dK (R.getD k []):=by
 rw[cj,eb hk];exact h _ (fp hk)
theorem dK.dm {L:LC}(h:dK L):ib L:=fun c hc=>(h.el c hc).2
theorem dK.e {L:LC}(h:dK L):dv L:=⟨by have:=h.l1;omega,fun c hc=>(h.el c hc).1⟩
theorem dK.rows {L:LC}(h:dK L):qq L.length (aF L):=by
 have h1:=h.l1
 refine⟨by have:=kB (L:=L);omega,fun l hl=>?_⟩
 obtain⟨r1,r2,r3⟩:=jA l hl
 exact⟨lV.2 r1,om,r2⟩
def f4 (y:LC):LL:=bif dt 2 y then [⟨2,y⟩]else []
def dw (x:LC):List LC:=ez (aF x).length x (aF x) 0
def f3 (x:LC):LL:=(dw x).flatMap f4
def f2 (l:LC):LL:=(cD l.length l 0).flatMap f3
def f1 (s:LC):LL:=(dp s.length s 0).flatMap f2
def o2 (p:Int)(l:LC):LL:=[⟨p,l⟩]
def o1 (p:Int)(s:LC):LL:=(dp s.length s 0).flatMap (o2 p)
def dC (n d:Nat)(p:Int):LL:=(ix 9 n (vv p.toNat d).1 0).flatMap (bif decide (p=2)then f1 else o1 p)
def dz:LC:=[⟨0,1,1,false,0⟩]
theorem Zv:dK dz:=⟨de,de,fun c hc=>by rw[dU.1 hc];decide⟩
def el (R:List LC)(k:Nat):LC:=R.getD k dz
theorem kI {R:List LC}{k:Nat}(hk:k<R.length):R.getD k []=el R k:=by
 unfold el
 rw[cj,cj,eb hk];rfl
theorem th {R:List LC}(h:mu R)(k:Nat):dK (el R k):=by
 unfold el
 rw[cj]
 rcases bA k R.length with hk|hk
 ·rw[eb hk];exact h _ (fp hk)
 ·rw[gL hk];exact Zv
theorem vx {f:LC→LL}{B:Nat}:∀{R:List LC},(∀L∈R,(f L).length≤B)→(R.flatMap f).length≤R.length*B
 |[],h=>by simp
 |L::R,h=>by
  have h1:=h L cZ
  have h2:=vx (R:=R) fun x hx=>h x (fT _ hx)
  rw[fo,bU,cR,gk,Nat.one_mul];omega
theorem abI (y:LC):(f4 y).length≤1:=by
 unfold f4
 cases dt 2 y<;>simp
theorem I9 {x:LC}(h:dK x):(dw x).length≤256:=by
 unfold dw
 rw[oP]
 have h1:=h.l1
 have h2:=kB (L:=x)
 have:4^(aF x).length≤4^4:=rB om om
 omega
theorem Ko {x:LC}(h:dK x):(f3 x).length≤256:=by
 have h1:=vx (f:=f4) (B:=1) (R:=dw x) fun L _=>abI L
 have h2:=I9 h
 unfold f3;omega
theorem Ja {l:LC}(h:dK l):(cD l.length l 0).length≤16:=by
 have h1:=(sk l.length l 0).2
 have h2:=h.l1
 have:2^l.length≤2^4:=rB om om
 omega
theorem Kp {l:LC}(h:dK l):(f2 l).length≤4096:=by
 have h1:=vx (f:=f3) (B:=256) (R:=cD l.length l 0) fun L hL=>Ko (oL _ _ _ h L hL)
 have h2:=Ja h
 have h3:(cD l.length l 0).length*256≤16*256:=il _ h2
 unfold f2;omega
theorem AZ {l:LC}(h:dK l):(dp l.length l 0).length≤16:=by
 rw[sv]
 have h2:=h.l1
 have:2^l.length≤2^4:=rB om om
 omega
theorem Kq {l:LC}(h:dK l):(f1 l).length≤65536:=by
 have h1:=vx (f:=f2) (B:=4096) (R:=dp l.length l 0) fun L hL=>Kp (oK _ _ _ h L hL)
 have h2:=AZ h
 have h3:(dp l.length l 0).length*4096≤16*4096:=il _ h2
 unfold f1;omega
theorem Aj {x:LC}(h:dK x)(k:Nat):((dw x).getD k []).length≤1000:=by
 rw[cj]
 rcases bA k (dw x).length with hk|hk
 ·rw[eb hk]
  have h1:=qs _ _ _ _ _ (fp hk)
  have h2:=h.l1
  show(dw x)[k].length≤1000
  unfold dw at h1⊢
  omega
 ·rw[gL hk];exact aY _
def Gd:List bV:=[
 ⟨53,[],fun A=>match A with
  |[.int .i64 a,.int .i64 p]=>some (.int .i64 ((vv p.toNat a.toNat).1:Int),[0<a∧a≤2147483647∧2≤p])
  |_=>none⟩,
 ⟨52,[],fun A=>match A with
  |[.int .i64 a,.int .i64 b,.int .i64 c]=>some (aI (.list .con) (ix 9 a.toNat b.toNat c.toNat),[(0≤a∧a≤4)∧(0≤b∧b≤5)∧(0≤c∧c≤0)])
  |_=>none⟩,
 ⟨54,[],fun A=>match A with
  |[.sl n 5 row,.int .i64 k]=>some (aI (.list .con) (dp (ag n row).length (ag n row) 0),[(∀i,i<n→row i=(Con.ofR (row i)).rvs)∧n≤16∧k=0])
  |_=>none⟩,
 ⟨55,[],fun A=>match A with
  |[.sl n 5 row,.int .i64 k]=>some (aI (.list .con) (cD (ag n row).length (ag n row) 0),[(∀i,i<n→row i=(Con.ofR (row i)).rvs)∧n≤16∧k=0])
  |_=>none⟩,
 ⟨57,[],fun A=>match A with
  |[.sl n 5 row]=>some (cS .i64 (aF (ag n row)),[(∀i,i<n→row i=(Con.ofR (row i)).rvs)∧dv (ag n row)])
  |_=>none⟩,
 ⟨56,[],fun A=>match A with
  |[.sl n 5 row,_,.int .i64 k]=>some (aI (.list .con) (dw (ag n row)),[(∀i,i<n→row i=(Con.ofR (row i)).rvs)∧dK (ag n row)∧A=[.sl n 5 row,cS .i64 (aF (ag n row)),.int .i64 k]∧k=0])
  |_=>none⟩,
 ⟨58,[],fun A=>match A with
  |[.agg [.int .i64 p,.sl n 5 row]]=>some (.bool (dt p (ag n row)),[(∀i,i<n→row i=(Con.ofR (row i)).rvs)∧n≤1000])
  |_=>none⟩]
theorem m5:∀e∈Gd,ch Tryz.prog e:=by
 intro e he
 simp only[Gd,bx,cC,cH]at he
 rcases he with rfl|rfl|rfl|rfl|rfl|rfl|rfl
 all_goals
  intro A R ms h hm
  simp only at h
  split at h
  all_goals first|exact fF|cases h
 ·rename_i a p
  obtain⟨h1,h2,h3⟩:=ay hm
  have:=DH a.toNat p.toNat om om om
  rw[show((a.toNat:Nat):Int)=a by omega,show((p.toNat:Nat):Int)=p by omega]at this
  exact this
 ·rename_i a b c
  obtain⟨h1,h2,h3⟩:=ay hm
  have:=Qw a.toNat b.toNat om om
  rw[show((a.toNat:Nat):Int)=a by omega,show((b.toNat:Nat):Int)=b by omega]at this
  rw[show c=0 by omega]
  exact this
 ·obtain⟨h1,h2,rfl⟩:=ay hm
  exact ar.imp (Rd _ fR) (.cons (.con h1) (.cons .same .nil))
 ·obtain⟨h1,h2,rfl⟩:=ay hm
  exact ar.imp (Q4 _ fR) (.cons (.con h1) (.cons .same .nil))
 ·obtain⟨h1,h2⟩:=ay hm
  exact ar.imp (Dc _ h2) (.cons (.con h1) .nil)
 ·rename_i n row _ _
  obtain⟨h1,h2,h3,rfl⟩:=ay hm
  rw[h3]
  have h4:=h2.l1
  have h5:=h2.l0
  exact ar.imp (Rn _ _ h5 om h2.dm h2.rows (by have:=kB (L:=ag n row);omega)) (.cons (.con h1) (.cons .same (.cons .same .nil)))
 ·obtain⟨h1,h2⟩:=ay hm
  exact ar.imp (Qt _ _ fR) (.cons (.agg (.cons .same (.cons (.con h1) .nil))) .nil)
def Zw (p:Int)(A1:List LC)(i1:Nat)(A2:List LC)(i2:Nat)(A3:List LC)(i3:Nat)(R:List LC):Nat×Option LL→St
 |(k,none)=>⟨[(2,vi p),(21,(aI (.list .con) A1).av),(22,vi A1.length),(23,vi i1),(28,(aI (.list .con) A2).av),(29,vi A2.length),(30,vi i2),(43,(aI (.list .con) A3).av),(44,vi A3.length),(45,vi i3),(52,(aI (.list .con) R).av),(53,vi R.length),(54,vi k),(7,.nils)],[],1041⟩
 |(k,some X)=>⟨[(2,vi p),(21,(aI (.list .con) A1).av),(22,vi A1.length),(23,vi i1),(28,(aI (.list .con) A2).av),(29,vi A2.length),(30,vi i2),(43,(aI (.list .con) A3).av),(44,vi A3.length),(45,vi i3),(52,(aI (.list .con) R).av),(53,vi R.length),(54,vi k),(7,.lo 1040 X.length)],[(1040,fw X)],1041⟩
def Jc (p:Int)(A1:List LC)(i1:Nat)(A2:List LC)(i2:Nat)(A3:List LC)(i3:Nat)(R:List LC):aA:=⟨⟨[(2,vi p),(21,(aI (.list .con) A1).av),(22,vi A1.length),(23,vi i1),(28,(aI (.list .con) A2).av),(29,vi A2.length),(30,vi i2),(43,(aI (.list .con) A3).av),(44,vi A3.length),(45,vi i3),(52,(aI (.list .con) R).av),(53,vi R.length),(54,.int .i64 0),(7,.nils)],[],1040⟩,some (R.flatMap f4).isEmpty,fun d=>match d with
 |true=>(.exit 6,⟨[(2,vi p),(21,(aI (.list .con) A1).av),(22,vi A1.length),(23,vi i1),(28,(aI (.list .con) A2).av),(29,vi A2.length),(30,vi i2),(43,(aI (.list .con) A3).av),(44,vi A3.length),(45,vi i3),(7,.nils)],[],1100⟩)
 |false=>(.exit 6,⟨[(2,vi p),(21,(aI (.list .con) A1).av),(22,vi A1.length),(23,vi i1),(28,(aI (.list .con) A2).av),(29,vi A2.length),(30,vi i2),(43,(aI (.list .con) A3).av),(44,vi A3.length),(45,vi i3),(7,.lo 1040 (R.flatMap f4).length)],[(1040,fw (R.flatMap f4))],1100⟩)⟩
def A0 (p:Int)(A1:List LC)(i1:Nat)(A2:List LC)(i2:Nat)(A3:List LC)(i3:Nat)(R:List LC)(X0:LL):aA:=⟨⟨[(2,vi p),(21,(aI (.list .con) A1).av),(22,vi A1.length),(23,vi i1),(28,(aI (.list .con) A2).av),(29,vi A2.length),(30,vi i2),(43,(aI (.list .con) A3).av),(44,vi A3.length),(45,vi i3),(52,(aI (.list .con) R).av),(53,vi R.length),(54,.int .i64 0),(7,.lo 1030 X0.length)],[(1030,fw X0)],1040⟩,none,fun _=>(.exit 6,⟨[(2,vi p),(21,(aI (.list .con) A1).av),(22,vi A1.length),(23,vi i1),(28,(aI (.list .con) A2).av),(29,vi A2.length),(30,vi i2),(43,(aI (.list .con) A3).av),(44,vi A3.length),(45,vi i3),(7,.lo 1040 (X0++R.flatMap f4).length)],[(1040,fw (X0++R.flatMap f4))],1100⟩)⟩
abbrev mQ (R:List LC)(k:Nat)(i:Nat):=List.getD (R.getD k aa.con.list.zero) i aa.con.zero
abbrev mR (R:List LC)(k:Nat):=List.length (R.getD k aa.con.list.zero)
theorem OY (p:Int)(A1:List LC)(i1:Nat)(A2:List LC)(i2:Nat)(A3:List LC)(i3:Nat)(R:List LC)(hR:R.length≤400000)(hE:∀k,(R.getD k []).length≤1000)(hB:(R.flatMap f4).length≤256):An 3 Tryz.f17 [0,1,1,0,0,1,1,0,0,1,1,1,0,0,1,1,0,0,1,1,0,0,1,1,0,0,1,0,1,1] (Jc p A1 i1 A2 i2 A3 i3 R):=by
 refine ea (cE m5) aC (Zw p A1 i1 A2 i2 A3 i3 R) (fun i=>R.length-i.1) (fun _ i=>jX f4 R i) ?_ ?_
 ·intro d hd
  exact st (0,none) [p=p,sq aa.con.list A1,rq (↑A1.length:Int),rq (↑i1:Int),sq aa.con.list A2,rq (↑A2.length:Int),rq (↑i2:Int),sq aa.con.list A3,rq (↑A3.length:Int),rq (↑i3:Int),sq aa.con.list R,rq (↑R.length:Int),(0:Int)=↑(0:Nat)] (by refine⟨?_,?_,?_,?_,?_,?_,?_,?_,?_,?_,?_,?_,(?_:(0:Int)=↑(0:Nat))⟩<;>(first|exact tr|rfl|omega|exact⟨rfl,rfl⟩)) (by exact vX)
 ·rintro d hd ⟨k,o⟩ hI
  have hk:k≤R.length:=hI.k
  rcases o with _|X
  rotate_right
  refine(let q1:List Prop→List Prop:=fun l0=>(p=p)::(sq aa.con.list A1)::rq (↑A1.length:Int)::rq (↑i1:Int)::(sq aa.con.list A2)::rq (↑A2.length:Int)::rq (↑i2:Int)::(sq aa.con.list A3)::rq (↑A3.length:Int)::rq (↑i3:Int)::l0;oe (decide ((↑k:Int)<↑R.length)) (fun d1=>let y1:List Prop:=(let v1:=R.getD k aa.con.list.zero;[(∀(i:Nat),i<List.length v1→(fun i=>aa.rvs aa.con (List.getD v1 i aa.con.zero)) i=(Con.ofR ((fun i=>aa.rvs aa.con (List.getD v1 i aa.con.zero)) i)).rvs)∧List.length v1≤1000,(0:Int)≤↑k∧(↑k:Int)<↑R.length,ty d1]);have u1:ao y1:=⟨?_,?_,d1⟩;oe (dt (2:Int) (ag (mR R k) fun i=>aa.rvs aa.con (mQ R k i))) (fun d2=>aq [true,true] (k+1,some (bif dt 2 (el R k)then X++[⟨2,el R k⟩]else X)) (q1 (let v1:=R.getD k aa.con.list.zero;let v2:=cm aa.con (List.length v1) fun i=>aa.rvs aa.con (List.getD v1 i aa.con.zero);(sq aa.con.list R)::rq (↑R.length:Int)::(w6.wrap ((↑k:Int)+1)=↑(k+1))::(X.length+1=(bif dt (2:Int) (el R k)then X++[Loc.mk (2:Int) (el R k)]else X).length)::(X++[Loc.mk (2:Int) v2]=bif dt (2:Int) (el R k)then X++[Loc.mk (2:Int) (el R k)]else X)::(X.length=X.length∧X.length+1≤1000000)::((1:Nat)=[Loc.mk (2:Int) v2].length)::(∀(i:Nat),i<List.length v1→(fun i=>aa.rvs aa.con (List.getD v1 i aa.con.zero)) i=aa.con.rvs (aa.con.of ((fun i=>aa.rvs aa.con (List.getD v1 i aa.con.zero)) i)))::ty d2::y1)) ?_ ?_ ?_)
   (fun d2=>aq [true,false] (k+1,some (bif dt 2 (el R k)then X++[⟨2,el R k⟩]else X)) (q1 ((sq aa.con.list R)::rq (↑R.length:Int)::(w6.wrap ((↑k:Int)+1)=↑(k+1))::(X.length=(bif dt (2:Int) (el R k)then X++[Loc.mk (2:Int) (el R k)]else X).length)::(X=bif dt (2:Int) (el R k)then X++[Loc.mk (2:Int) (el R k)]else X)::ty d2::y1)) ?_ ?_ ?_))
   (fun d1=>aG d false [false] (q1 [X.length=(List.flatMap f4 R).length,X=List.flatMap f4 R,ty d1]) ⟨?_,?_,?_,?_,?_,?_,?_,?_,?_,?_,?_,?_,d1⟩ ?_))
  all_goals with_reducible repeat' first|exact dA|refine bk ?_ ?_|refine bm ?_
  rotate_right
  refine(let q1:List Prop→List Prop:=fun l0=>(p=p)::(sq aa.con.list A1)::rq (↑A1.length:Int)::rq (↑i1:Int)::(sq aa.con.list A2)::rq (↑A2.length:Int)::rq (↑i2:Int)::(sq aa.con.list A3)::rq (↑A3.length:Int)::rq (↑i3:Int)::l0;oe (decide ((↑k:Int)<↑R.length)) (fun d1=>let y1:List Prop:=(let v1:=R.getD k aa.con.list.zero;[(∀(i:Nat),i<List.length v1→(fun i=>aa.rvs aa.con (List.getD v1 i aa.con.zero)) i=(Con.ofR ((fun i=>aa.rvs aa.con (List.getD v1 i aa.con.zero)) i)).rvs)∧List.length v1≤1000,(0:Int)≤↑k∧(↑k:Int)<↑R.length,ty d1]);have u1:ao y1:=⟨?_,?_,d1⟩;oe (dt (2:Int) (ag (mR R k) fun i=>aa.rvs aa.con (mQ R k i))) (fun d2=>aq [true,true] (k+1,some [⟨2,el R k⟩]) (q1 (let v1:=R.getD k aa.con.list.zero;let v2:=cm aa.con (List.length v1) fun i=>aa.rvs aa.con (List.getD v1 i aa.con.zero);(sq aa.con.list R)::rq (↑R.length:Int)::(w6.wrap ((↑k:Int)+1)=↑(k+1))::((1:Nat)=[Loc.mk (2:Int) (el R k)].length)::([Loc.mk (2:Int) v2]=[Loc.mk (2:Int) (el R k)])::((0:Nat)<1∧(1:Nat)≤1000000)::((1:Nat)=[Loc.mk (2:Int) v2].length)::(∀(i:Nat),i<List.length v1→(fun i=>aa.rvs aa.con (List.getD v1 i aa.con.zero)) i=aa.con.rvs (aa.con.of ((fun i=>aa.rvs aa.con (List.getD v1 i aa.con.zero)) i)))::ty d2::y1)) ?_ ?_ ?_)
   (fun d2=>aq [true,false] (k+1,none) (q1 ((sq aa.con.list R)::rq (↑R.length:Int)::(w6.wrap ((↑k:Int)+1)=↑(k+1))::ty d2::y1)) ?_ ?_ ?_))
   (fun d1=>aG d true [false] (q1 [ty d1]) ⟨?_,?_,?_,?_,?_,?_,?_,?_,?_,?_,d1⟩ ?_))
  all_goals with_reducible repeat' first|exact dA|refine bk ?_ ?_|refine bm ?_
  all_goals first|exact pw|(refine bD.mk ?_;(have dd:k<R.length:=bY;have he:=kI (R:=R) (k:=k) dd;have hc:=(iF (R.getD k [])).trans he;have hi:=(congrArg (dt 2) hc).symm.trans d2;first|(have hf:f4 (el R k)=[⟨2,el R k⟩]:=(by unfold f4;rw[hi];rfl);first|(have h:=vZ hI dd (by rw[he,hf];rfl);rw[he,hf]at h;exact h)|(have h:=tf hI dd;rw[he,hf]at h;rw[hi];exact h))|(have hf:f4 (el R k)=[]:=(by unfold f4;rw[hi];rfl);first|exact vY hI dd (by rw[he,hf];rfl)|(have h:=tf hI dd;rw[he,hf,gi]at h;rw[hi];exact h))))|(refine dq.mk ?_;cases d<;>first|rfl|(exfalso;(have dd:¬k<R.length:=eZ;have hd:(R.flatMap f4).isEmpty=_:=hd;have h9:=tg hI dd;first|(rw[←h9]at hd;cases hd;done)|(have h8:=hI.ne X rfl;rw[←h9]at hd;have h7:X=[]:=qp hd;rw[h7]at h8;exact absurd h8 (mX 0)))))|(first|exact tz|omega|decide|exact jV|(have dd:k<R.length:=bY;have he:=kI (R:=R) (k:=k) dd;have hc:=(iF (R.getD k [])).trans he;first|exact⟨om,om⟩|exact fk|exact⟨fun _ _=>rfl,hE k⟩|exact congrArg (fun z=>[(⟨2,z⟩:QfSy.Loc)]) hc|(have hi:=(congrArg (dt 2) hc).symm.trans d2;rw[hi];first|exact congrArg (fun z=>X++[(⟨2,z⟩:QfSy.Loc)]) hc|(rw[aM,bU];rfl)|rfl)|exact xC|exact rfl|(rw[bU];done))|exact xF)
theorem Dq (p:Int)(A1:List LC)(i1:Nat)(A2:List LC)(i2:Nat)(A3:List LC)(i3:Nat)(R:List LC)(X0:LL)(hR:R.length≤400000)(hE:∀k,(R.getD k []).length≤1000)(hB:(R.flatMap f4).length≤256)(hX0:X0.length≤121000):An 3 Tryz.f17 [0,1,1,0,0,1,1,0,0,1,1,1,0,0,1,1,0,0,1,1,0,0,1,1,0,0,1,0,1,1] (A0 p A1 i1 A2 i2 A3 i3 R X0):=by
 refine cN (cE m5) aC (fun(k:Nat)=>(⟨[(2,vi p),(21,(aI (.list .con) A1).av),(22,vi A1.length),(23,vi i1),(28,(aI (.list .con) A2).av),(29,vi A2.length),(30,vi i2),(43,(aI (.list .con) A3).av),(44,vi A3.length),(45,vi i3),(52,(aI (.list .con) R).av),(53,vi R.length),(54,vi k),(7,.lo 1040 (X0++pf f4 R k).length)],[(1040,fw (X0++pf f4 R k))],1041⟩:St)) (fun(k:Nat)=>(R.length-k:Nat)) (fun(k:Nat)=>(k≤R.length:Prop)) ?_ ?_
 ·exact st (0) [p=p,sq aa.con.list A1,rq (↑A1.length:Int),rq (↑i1:Int),sq aa.con.list A2,rq (↑A2.length:Int),rq (↑i2:Int),sq aa.con.list A3,rq (↑A3.length:Int),rq (↑i3:Int),sq aa.con.list R,rq (↑R.length:Int),(0:Int)=↑(0:Nat),X0.length=(X0++pf f4 R (0:Nat)).length,X0=X0++pf f4 R (0:Nat)] (by refine⟨?_,?_,?_,?_,?_,?_,?_,?_,?_,?_,?_,?_,?_,?_,(?_:X0=X0++pf f4 R (0:Nat))⟩<;>(first|exact tr|rfl|omega|exact⟨rfl,rfl⟩|exact(gi X0).symm|exact congrArg List.length (gi X0).symm)) (by exact aY _)
 ·intro k hI
  have hk:k≤R.length:=hI
  have hX:=qF f4 R k
  refine(let q1:List Prop→List Prop:=fun l0=>(p=p)::(sq aa.con.list A1)::rq (↑A1.length:Int)::rq (↑i1:Int)::(sq aa.con.list A2)::rq (↑A2.length:Int)::rq (↑i2:Int)::(sq aa.con.list A3)::rq (↑A3.length:Int)::rq (↑i3:Int)::l0;oe (decide ((↑k:Int)<↑R.length)) (fun d1=>let y1:List Prop:=(let v1:=R.getD k aa.con.list.zero;[(∀(i:Nat),i<List.length v1→(fun i=>aa.rvs aa.con (List.getD v1 i aa.con.zero)) i=(Con.ofR ((fun i=>aa.rvs aa.con (List.getD v1 i aa.con.zero)) i)).rvs)∧List.length v1≤1000,(0:Int)≤↑k∧(↑k:Int)<↑R.length,ty d1]);have u1:ao y1:=⟨?_,?_,d1⟩;oe (dt (2:Int) (ag (mR R k) fun i=>aa.rvs aa.con (mQ R k i))) (fun d2=>aq [true,true] (k+1) (q1 (let v1:=R.getD k aa.con.list.zero;let v2:=cm aa.con (List.length v1) fun i=>aa.rvs aa.con (List.getD v1 i aa.con.zero);let v3:=X0++pf f4 R k;(sq aa.con.list R)::rq (↑R.length:Int)::(w6.wrap ((↑k:Int)+1)=↑(k+1))::(v3.length+1=(X0++pf f4 R (k+1)).length)::(X0++pf f4 R k++[Loc.mk (2:Int) v2]=X0++pf f4 R (k+1))::(v3.length=v3.length∧v3.length+1≤1000000)::((1:Nat)=[Loc.mk (2:Int) v2].length)::(∀(i:Nat),i<List.length v1→(fun i=>aa.rvs aa.con (List.getD v1 i aa.con.zero)) i=aa.con.rvs (aa.con.of ((fun i=>aa.rvs aa.con (List.getD v1 i aa.con.zero)) i)))::ty d2::y1)) ?_ ?_ ?_)
   (fun d2=>aq [true,false] (k+1) (q1 ((sq aa.con.list R)::rq (↑R.length:Int)::(w6.wrap ((↑k:Int)+1)=↑(k+1))::((X0++pf f4 R k).length=(X0++pf f4 R (k+1)).length)::(X0++pf f4 R k=X0++pf f4 R (k+1))::ty d2::y1)) ?_ ?_ ?_))
   (fun d1=>br [false] (q1 [(X0++pf f4 R k).length=(X0++List.flatMap f4 R).length,X0++pf f4 R k=X0++List.flatMap f4 R,ty d1]) ?_))
  all_goals with_reducible repeat' first|exact dA|refine bk ?_ ?_|refine bm ?_
  all_goals((try clear u1);(try clear y1))
  all_goals first|exact pw|exact CI|exact cT|(first|exact tz|omega|decide|exact jV|(have dd:k<R.length:=bY;have he:=kI (R:=R) (k:=k) dd;have hc:=(iF (R.getD k [])).trans he;have hn:=qh (f:=f4) dd;first|exact⟨om,om⟩|exact fk|exact⟨fun _ _=>rfl,hE k⟩|(have hi:=(congrArg (dt 2) hc).symm.trans d2;have hf:f4 (R.getD k [])=bif dt 2 (el R k)then [⟨2,el R k⟩]else []:=(by rw[he];rfl);rw[hi]at hf;first|(rw[hn,hf];exact(mV _ _ _).symm.trans (congrArg (fun z=>X0++pf f4 R k++[(⟨2,z⟩:QfSy.Loc)]) hc).symm |>.symm)|(rw[hn,hf,bg,gi];done)|(have h6:=congrArg List.length hn;have h5:=congrArg List.length hf;rw[bU]at h6;rw[bU,bU];simp only[aM,cR,iD]at h5;omega)|(rw[hn,hf,←mV];exact congrArg (fun z=>X0++pf f4 R k++[(⟨2,z⟩:QfSy.Loc)]) hc))|exact⟨rfl,by rw[bU];omega⟩|exact rfl)|exact CH)
def Zx (p:Int)(A1:List LC)(i1:Nat)(A2:List LC)(i2:Nat)(R:List LC):Nat×Option LL→St
 |(k,none)=>⟨[(2,vi p),(21,(aI (.list .con) A1).av),(22,vi A1.length),(23,vi i1),(28,(aI (.list .con) A2).av),(29,vi A2.length),(30,vi i2),(43,(aI (.list .con) R).av),(44,vi R.length),(45,vi k),(7,.nils)],[],1031⟩
 |(k,some X)=>⟨[(2,vi p),(21,(aI (.list .con) A1).av),(22,vi A1.length),(23,vi i1),(28,(aI (.list .con) A2).av),(29,vi A2.length),(30,vi i2),(43,(aI (.list .con) R).av),(44,vi R.length),(45,vi k),(7,.lo 1030 X.length)],[(1030,fw X)],1031⟩
def Jd (p:Int)(A1:List LC)(i1:Nat)(A2:List LC)(i2:Nat)(R:List LC):aA:=⟨⟨[(2,vi p),(21,(aI (.list .con) A1).av),(22,vi A1.length),(23,vi i1),(28,(aI (.list .con) A2).av),(29,vi A2.length),(30,vi i2),(43,(aI (.list .con) R).av),(44,vi R.length),(45,.int .i64 0),(7,.nils)],[],1030⟩,some (R.flatMap f3).isEmpty,fun d=>match d with
 |true=>(.exit 4,⟨[(2,vi p),(21,(aI (.list .con) A1).av),(22,vi A1.length),(23,vi i1),(28,(aI (.list .con) A2).av),(29,vi A2.length),(30,vi i2),(7,.nils)],[],1100⟩)
 |false=>(.exit 4,⟨[(2,vi p),(21,(aI (.list .con) A1).av),(22,vi A1.length),(23,vi i1),(28,(aI (.list .con) A2).av),(29,vi A2.length),(30,vi i2),(7,.lo 1030 (R.flatMap f3).length)],[(1030,fw (R.flatMap f3))],1100⟩)⟩
def A4 (p:Int)(A1:List LC)(i1:Nat)(A2:List LC)(i2:Nat)(R:List LC)(X0:LL):aA:=⟨⟨[(2,vi p),(21,(aI (.list .con) A1).av),(22,vi A1.length),(23,vi i1),(28,(aI (.list .con) A2).av),(29,vi A2.length),(30,vi i2),(43,(aI (.list .con) R).av),(44,vi R.length),(45,.int .i64 0),(7,.lo 1020 X0.length)],[(1020,fw X0)],1030⟩,none,fun _=>(.exit 4,⟨[(2,vi p),(21,(aI (.list .con) A1).av),(22,vi A1.length),(23,vi i1),(28,(aI (.list .con) A2).av),(29,vi A2.length),(30,vi i2),(7,.lo 1030 (X0++R.flatMap f3).length)],[(1030,fw (X0++R.flatMap f3))],1100⟩)⟩
theorem OZ (p:Int)(A1:List LC)(i1:Nat)(A2:List LC)(i2:Nat)(R:List LC)(hR:R.length≤400000)(hE:mu R)(hB:(R.flatMap f3).length≤4096):An 3 Tryz.f17 [0,1,1,1,0,0,1,1,0,0,1,1,0,0,1,1,0,0,1,0,1,1] (Jd p A1 i1 A2 i2 R):=by
 refine jU (cE m5) (Zx p A1 i1 A2 i2 R) (fun i=>R.length-i.1) (fun _ i=>jX f3 R i) (fun i:Nat×Option LL=>match i with|(k,none)=>[([0,1,1,0,0,1,1,0,0,1,1,1,0,0,1,1,0,0,1,1,0,0,1,1,0,0,1,0,1,1],Jc p A1 i1 A2 i2 R k (dw (el R k)))]|(k,some X)=>[([0,1,1,0,0,1,1,0,0,1,1,1,0,0,1,1,0,0,1,1,0,0,1,1,0,0,1,0,1,1],A0 p A1 i1 A2 i2 R k (dw (el R k)) X)]) ?_ ?_ ?_
 ·rintro d hd ⟨k,o⟩ hI
  have he:=th hE k
  rcases o with _|X
  ·exact aW (OY p A1 i1 A2 i2 R k (dw (el R k)) CA (Aj he) Cu)
  ·have hX:=uZ hI
   exact aW (Dq p A1 i1 A2 i2 R k (dw (el R k)) X CA (Aj he) Cu om)
 ·intro d hd
  exact st (0,none) [p=p,sq aa.con.list A1,rq (↑A1.length:Int),rq (↑i1:Int),sq aa.con.list A2,rq (↑A2.length:Int),rq (↑i2:Int),sq aa.con.list R,rq (↑R.length:Int),(0:Int)=↑(0:Nat)] (by refine⟨?_,?_,?_,?_,?_,?_,?_,?_,?_,(?_:(0:Int)=↑(0:Nat))⟩<;>(first|exact tr|rfl|omega|exact⟨rfl,rfl⟩)) (by exact vX)
 ·rintro d hd ⟨k,o⟩ hI
  have hk:k≤R.length:=hI.k
  rcases o with _|X
  rotate_right
  refine(let q1:List Prop→List Prop:=fun l0=>(p=p)::(sq aa.con.list A1)::rq (↑A1.length:Int)::rq (↑i1:Int)::(sq aa.con.list A2)::rq (↑A2.length:Int)::rq (↑i2:Int)::l0;oe (decide ((↑k:Int)<↑R.length)) (fun d1=>aq [true] (k+1,some (X++f3 (el R k))) (q1 (let v2:=R.getD k aa.con.list.zero;let v1:=ag (List.length v2) fun i=>aa.rvs aa.con (List.getD v2 i aa.con.zero);let v3:=dw (el R k);let v4:=(↑R.length:Int);[sq aa.con.list R,rq v4,w6.wrap ((↑k:Int)+1)=↑(k+1),(X++List.flatMap f4 v3).length=(X++f3 (el R k)).length,X++List.flatMap f4 v3=X++f3 (el R k),p=p,sq aa.con.list A1,rq (↑A1.length:Int),rq (↑i1:Int),sq aa.con.list A2,rq (↑A2.length:Int),rq (↑i2:Int),sq aa.con.list R,rq v4,rq (↑k:Int),(dw v1).length=v3.length∧(fun i=>aa.con.list.rvs ((dw v1).getD i aa.con.list.zero))=fun i=>aa.con.list.rvs (v3.getD i aa.con.list.zero),(↑(dw v1).length:Int)=↑v3.length,rq X.length,X=X,(∀(i:Nat),i<List.length v2→(fun i=>aa.rvs aa.con (List.getD v2 i aa.con.zero)) i=(Con.ofR ((fun i=>aa.rvs aa.con (List.getD v2 i aa.con.zero)) i)).rvs)∧dK v1∧[RV.sl (List.length v2) aa.con.sz fun i=>aa.rvs aa.con (List.getD v2 i aa.con.zero),RV.sl (aF v1).length (1:Nat) fun i=>[rI IntKind.i64 ((aF v1).getD i [])],RV.int IntKind.i64 (0:Int)]=[RV.sl (List.length v2) (5:Nat) fun i=>aa.rvs aa.con (List.getD v2 i aa.con.zero),cS IntKind.i64 (aF v1),RV.int IntKind.i64 (0:Int)]∧(0:Int)=0,(∀(i:Nat),i<List.length v2→(fun i=>aa.rvs aa.con (List.getD v2 i aa.con.zero)) i=(Con.ofR ((fun i=>aa.rvs aa.con (List.getD v2 i aa.con.zero)) i)).rvs)∧dv v1,(0:Int)≤↑k∧(↑k:Int)<v4,ty d1])) ?_ ?_ ?_)
   (fun d1=>aG d false [false] (q1 [X.length=(List.flatMap f3 R).length,X=List.flatMap f3 R,ty d1]) ⟨?_,?_,?_,?_,?_,?_,?_,?_,?_,d1⟩ ?_))
  all_goals with_reducible repeat' first|exact dA|refine bk ?_ ?_|refine bm ?_
  rotate_right
  refine(let q1:List Prop→List Prop:=fun l0=>(p=p)::(sq aa.con.list A1)::rq (↑A1.length:Int)::rq (↑i1:Int)::(sq aa.con.list A2)::rq (↑A2.length:Int)::rq (↑i2:Int)::l0;oe (decide ((↑k:Int)<↑R.length)) (fun d1=>let y1:List Prop:=(let v2:=R.getD k aa.con.list.zero;let v1:=ag (List.length v2) fun i=>aa.rvs aa.con (List.getD v2 i aa.con.zero);[(∀(i:Nat),i<List.length v2→(fun i=>aa.rvs aa.con (List.getD v2 i aa.con.zero)) i=(Con.ofR ((fun i=>aa.rvs aa.con (List.getD v2 i aa.con.zero)) i)).rvs)∧dK v1∧[RV.sl (List.length v2) aa.con.sz fun i=>aa.rvs aa.con (List.getD v2 i aa.con.zero),RV.sl (aF v1).length (1:Nat) fun i=>[rI IntKind.i64 ((aF v1).getD i [])],RV.int IntKind.i64 (0:Int)]=[RV.sl (List.length v2) (5:Nat) fun i=>aa.rvs aa.con (List.getD v2 i aa.con.zero),cS IntKind.i64 (aF v1),RV.int IntKind.i64 (0:Int)]∧(0:Int)=0,(∀(i:Nat),i<List.length v2→(fun i=>aa.rvs aa.con (List.getD v2 i aa.con.zero)) i=(Con.ofR ((fun i=>aa.rvs aa.con (List.getD v2 i aa.con.zero)) i)).rvs)∧dv v1,(0:Int)≤↑k∧(↑k:Int)<↑R.length,ty d1]);have u1:ao y1:=⟨?_,?_,?_,d1⟩;oe ((List.flatMap f4 (dw (el R k))).isEmpty) (fun d2=>aq [true,true] (k+1,none) (q1 (let v1:=ag (mR R k) fun i=>aa.rvs aa.con (mQ R k i);(sq aa.con.list R)::rq (↑R.length:Int)::(w6.wrap ((↑k:Int)+1)=↑(k+1))::(p=p)::(sq aa.con.list A1)::rq (↑A1.length:Int)::rq (↑i1:Int)::(sq aa.con.list A2)::rq (↑A2.length:Int)::rq (↑i2:Int)::(sq aa.con.list R)::rq (↑R.length:Int)::rq (↑k:Int)::((dw v1).length=(dw (el R k)).length∧(fun i=>aa.con.list.rvs ((dw v1).getD i aa.con.list.zero))=fun i=>aa.con.list.rvs ((dw (el R k)).getD i aa.con.list.zero))::((↑(dw v1).length:Int)=(↑(dw (el R k)).length:Int))::ty d2::y1)) ?_ ?_ ?_)
   (fun d2=>aq [true,false] (k+1,some (f3 (el R k))) (q1 (let v1:=ag (mR R k) fun i=>aa.rvs aa.con (mQ R k i);let v2:=dw (el R k);(sq aa.con.list R)::rq (↑R.length:Int)::(w6.wrap ((↑k:Int)+1)=↑(k+1))::((List.flatMap f4 v2).length=(f3 (el R k)).length)::(List.flatMap f4 v2=f3 (el R k))::(p=p)::(sq aa.con.list A1)::rq (↑A1.length:Int)::rq (↑i1:Int)::(sq aa.con.list A2)::rq (↑A2.length:Int)::rq (↑i2:Int)::(sq aa.con.list R)::rq (↑R.length:Int)::rq (↑k:Int)::((dw v1).length=v2.length∧(fun i=>aa.con.list.rvs ((dw v1).getD i aa.con.list.zero))=fun i=>aa.con.list.rvs (v2.getD i aa.con.list.zero))::((↑(dw v1).length:Int)=↑v2.length)::ty d2::y1)) ?_ ?_ ?_))
   (fun d1=>aG d true [false] (q1 [ty d1]) ⟨?_,?_,?_,?_,?_,?_,?_,d1⟩ ?_))
  all_goals with_reducible repeat' first|exact dA|refine bk ?_ ?_|refine bm ?_
  all_goals first|exact pw|(refine bD.mk ?_;(have dd:k<R.length:=bY;have he:=kI (R:=R) (k:=k) dd;have hc:=(iF (R.getD k [])).trans he;first|exact vY hI dd rk|(have h:=vZ (f:=f3) hI dd rk;rw[he]at h;exact h)|(have h:=tf (f:=f3) hI dd;rw[he]at h;exact h)))|(refine dq.mk ?_;cases d<;>first|rfl|(exfalso;(have dd:¬k<R.length:=eZ;have hd:(R.flatMap f3).isEmpty=_:=hd;have h9:=tg hI dd;first|(rw[←h9]at hd;cases hd;done)|(have h8:=hI.ne X rfl;rw[←h9]at hd;have h7:X=[]:=qp hd;rw[h7]at h8;exact absurd h8 (mX 0)))))|(first|exact tz|omega|decide|exact jV|(have dd:k<R.length:=bY;have he:=kI (R:=R) (k:=k) dd;have hc:=(iF (R.getD k [])).trans he;first|exact⟨om,om⟩|exact fk|exact Mz|exact Mq|exact Ma|exact Nh|exact xC|exact rfl|(rw[bU];done))|exact xF)
theorem Dr (p:Int)(A1:List LC)(i1:Nat)(A2:List LC)(i2:Nat)(R:List LC)(X0:LL)(hR:R.length≤400000)(hE:mu R)(hB:(R.flatMap f3).length≤4096)(hX0:X0.length≤116000):An 3 Tryz.f17 [0,1,1,1,0,0,1,1,0,0,1,1,0,0,1,1,0,0,1,0,1,1] (A4 p A1 i1 A2 i2 R X0):=by
 refine mL (cE m5) (fun(k:Nat)=>(⟨[(2,vi p),(21,(aI (.list .con) A1).av),(22,vi A1.length),(23,vi i1),(28,(aI (.list .con) A2).av),(29,vi A2.length),(30,vi i2),(43,(aI (.list .con) R).av),(44,vi R.length),(45,vi k),(7,.lo 1030 (X0++pf f3 R k).length)],[(1030,fw (X0++pf f3 R k))],1031⟩:St)) (fun(k:Nat)=>(R.length-k:Nat)) (fun(k:Nat)=>(k≤R.length:Prop)) (fun(k:Nat)=>([([0,1,1,0,0,1,1,0,0,1,1,1,0,0,1,1,0,0,1,1,0,0,1,1,0,0,1,0,1,1],A0 p A1 i1 A2 i2 R k (dw (el R k)) (X0++pf f3 R k))]:List (List Nat×aA))) ?_ ?_ ?_
 ·intro k hI
  have he:=th hE k
  have hX:=qF f3 R k
  exact aW (Dq p A1 i1 A2 i2 R k (dw (el R k)) (X0++pf f3 R k) CA (Aj he) Cu (by rw[bU];omega))
 ·exact st (0) [p=p,sq aa.con.list A1,rq (↑A1.length:Int),rq (↑i1:Int),sq aa.con.list A2,rq (↑A2.length:Int),rq (↑i2:Int),sq aa.con.list R,rq (↑R.length:Int),(0:Int)=↑(0:Nat),X0.length=(X0++pf f3 R (0:Nat)).length,X0=X0++pf f3 R (0:Nat)] (by refine⟨?_,?_,?_,?_,?_,?_,?_,?_,?_,?_,?_,(?_:X0=X0++pf f3 R (0:Nat))⟩<;>(first|exact tr|rfl|omega|exact⟨rfl,rfl⟩|exact(gi X0).symm|exact congrArg List.length (gi X0).symm)) (by exact aY _)
 ·intro k hI
  have hk:k≤R.length:=hI
  have hX:=qF f3 R k
  refine(let q1:List Prop→List Prop:=fun l0=>(p=p)::(sq aa.con.list A1)::rq (↑A1.length:Int)::rq (↑i1:Int)::(sq aa.con.list A2)::rq (↑A2.length:Int)::rq (↑i2:Int)::l0;oe (decide ((↑k:Int)<↑R.length)) (fun d1=>aq [true] (k+1) (q1 (let v2:=R.getD k aa.con.list.zero;let v1:=ag (List.length v2) fun i=>aa.rvs aa.con (List.getD v2 i aa.con.zero);let v3:=dw (el R k);let v4:=(↑R.length:Int);[sq aa.con.list R,rq v4,w6.wrap ((↑k:Int)+1)=↑(k+1),(X0++pf f3 R k++List.flatMap f4 v3).length=(X0++pf f3 R (k+1)).length,X0++pf f3 R k++List.flatMap f4 v3=X0++pf f3 R (k+1),p=p,sq aa.con.list A1,rq (↑A1.length:Int),rq (↑i1:Int),sq aa.con.list A2,rq (↑A2.length:Int),rq (↑i2:Int),sq aa.con.list R,rq v4,rq (↑k:Int),(dw v1).length=v3.length∧(fun i=>aa.con.list.rvs ((dw v1).getD i aa.con.list.zero))=fun i=>aa.con.list.rvs (v3.getD i aa.con.list.zero),(↑(dw v1).length:Int)=↑v3.length,rq ((X0++pf f3 R k).length),rq (X0++pf f3 R k),(∀(i:Nat),i<List.length v2→(fun i=>aa.rvs aa.con (List.getD v2 i aa.con.zero)) i=(Con.ofR ((fun i=>aa.rvs aa.con (List.getD v2 i aa.con.zero)) i)).rvs)∧dK v1∧[RV.sl (List.length v2) aa.con.sz fun i=>aa.rvs aa.con (List.getD v2 i aa.con.zero),RV.sl (aF v1).length (1:Nat) fun i=>[rI IntKind.i64 ((aF v1).getD i [])],RV.int IntKind.i64 (0:Int)]=[RV.sl (List.length v2) (5:Nat) fun i=>aa.rvs aa.con (List.getD v2 i aa.con.zero),cS IntKind.i64 (aF v1),RV.int IntKind.i64 (0:Int)]∧(0:Int)=0,(∀(i:Nat),i<List.length v2→(fun i=>aa.rvs aa.con (List.getD v2 i aa.con.zero)) i=(Con.ofR ((fun i=>aa.rvs aa.con (List.getD v2 i aa.con.zero)) i)).rvs)∧dv v1,(0:Int)≤↑k∧(↑k:Int)<v4,ty d1])) ?_ ?_ ?_)
   (fun d1=>br [false] (q1 [(X0++pf f3 R k).length=(X0++List.flatMap f3 R).length,X0++pf f3 R k=X0++List.flatMap f3 R,ty d1]) ?_))
  all_goals with_reducible repeat' first|exact dA|refine bk ?_ ?_|refine bm ?_
  all_goals first|exact pw|exact CI|exact cT|(first|exact tz|omega|decide|exact jV|(have dd:k<R.length:=bY;have he:=kI (R:=R) (k:=k) dd;have hc:=(iF (R.getD k [])).trans he;have hn:=qh (f:=f3) dd;first|exact⟨om,om⟩|exact fk|exact Mz|exact Mq|exact Ma|exact Nh|(rw[hn,he,←mV];rfl)|exact⟨rfl,by rw[bU];omega⟩|exact rfl)|exact CH)
def Zy (p:Int)(A1:List LC)(i1:Nat)(R:List LC):Nat×Option LL→St
 |(k,none)=>⟨[(2,vi p),(21,(aI (.list .con) A1).av),(22,vi A1.length),(23,vi i1),(28,(aI (.list .con) R).av),(29,vi R.length),(30,vi k),(7,.nils)],[],1021⟩
 |(k,some X)=>⟨[(2,vi p),(21,(aI (.list .con) A1).av),(22,vi A1.length),(23,vi i1),(28,(aI (.list .con) R).av),(29,vi R.length),(30,vi k),(7,.lo 1020 X.length)],[(1020,fw X)],1021⟩
def Je (p:Int)(A1:List LC)(i1:Nat)(R:List LC):aA:=⟨⟨[(2,vi p),(21,(aI (.list .con) A1).av),(22,vi A1.length),(23,vi i1),(28,(aI (.list .con) R).av),(29,vi R.length),(30,.int .i64 0),(7,.nils)],[],1020⟩,some (R.flatMap f2).isEmpty,fun d=>match d with
 |true=>(.exit 2,⟨[(2,vi p),(21,(aI (.list .con) A1).av),(22,vi A1.length),(23,vi i1),(7,.nils)],[],1100⟩)
 |false=>(.exit 2,⟨[(2,vi p),(21,(aI (.list .con) A1).av),(22,vi A1.length),(23,vi i1),(7,.lo 1020 (R.flatMap f2).length)],[(1020,fw (R.flatMap f2))],1100⟩)⟩
def Jf (p:Int)(A1:List LC)(i1:Nat)(R:List LC)(X0:LL):aA:=⟨⟨[(2,vi p),(21,(aI (.list .con) A1).av),(22,vi A1.length),(23,vi i1),(28,(aI (.list .con) R).av),(29,vi R.length),(30,.int .i64 0),(7,.lo 1010 X0.length)],[(1010,fw X0)],1020⟩,none,fun _=>(.exit 2,⟨[(2,vi p),(21,(aI (.list .con) A1).av),(22,vi A1.length),(23,vi i1),(7,.lo 1020 (X0++R.flatMap f2).length)],[(1020,fw (X0++R.flatMap f2))],1100⟩)⟩
theorem O0 (p:Int)(A1:List LC)(i1:Nat)(R:List LC)(hR:R.length≤400000)(hE:mu R)(hB:(R.flatMap f2).length≤65536)(z1:(p==2)=true):An 3 Tryz.f17 [0,1,1,0,0,1,1,0,0,1,0,1,1] (Je p A1 i1 R):=by
 refine jU (cE m5) (Zy p A1 i1 R) (fun i=>R.length-i.1) (fun _ i=>jX f2 R i) (fun i:Nat×Option LL=>match i with|(k,none)=>[([0,1,1,1,0,0,1,1,0,0,1,1,0,0,1,1,0,0,1,0,1,1],Jd p A1 i1 R k (cD (el R k).length (el R k) 0))]|(k,some X)=>[([0,1,1,1,0,0,1,1,0,0,1,1,0,0,1,1,0,0,1,0,1,1],A4 p A1 i1 R k (cD (el R k).length (el R k) 0) X)]) ?_ ?_ ?_
 ·rintro d hd ⟨k,o⟩ hI
  have he:=th hE k
  rcases o with _|X
  ·exact aW (OZ p A1 i1 R k (cD (el R k).length (el R k) 0) Cz (oL _ _ _ he) Cv)
  ·have hX:=uZ hI
   exact aW (Dr p A1 i1 R k (cD (el R k).length (el R k) 0) X Cz (oL _ _ _ he) Cv om)
 ·intro d hd
  exact st (0,none) [p=p,sq aa.con.list A1,rq (↑A1.length:Int),rq (↑i1:Int),sq aa.con.list R,rq (↑R.length:Int),(0:Int)=↑(0:Nat)] Md (by exact vX)
 ·rintro d hd ⟨k,o⟩ hI
  have hk:k≤R.length:=hI.k
  rcases o with _|X
  rotate_right
  refine(let q1:List Prop→List Prop:=fun l0=>(p=p)::(sq aa.con.list A1)::rq (↑A1.length:Int)::rq (↑i1:Int)::l0;oe (decide ((↑k:Int)<↑R.length)) (fun d1=>aq [true,false] (k+1,some (X++f2 (el R k))) (q1 (let v3:=R.getD k aa.con.list.zero;let v1:=ag (List.length v3) fun i=>aa.rvs aa.con (List.getD v3 i aa.con.zero);let v2:=cD (el R k).length (el R k) (0:Nat);let v4:=cD v1.length v1 (0:Nat);let v5:=(↑R.length:Int);[sq aa.con.list R,rq v5,w6.wrap ((↑k:Int)+1)=↑(k+1),(X++List.flatMap f3 v2).length=(X++f2 (el R k)).length,X++List.flatMap f3 v2=X++f2 (el R k),p=p,sq aa.con.list A1,rq (↑A1.length:Int),rq (↑i1:Int),sq aa.con.list R,rq v5,rq (↑k:Int),v4.length=v2.length∧(fun i=>aa.con.list.rvs (v4.getD i aa.con.list.zero))=fun i=>aa.con.list.rvs (v2.getD i aa.con.list.zero),(↑v4.length:Int)=↑v2.length,rq X.length,X=X,(∀(i:Nat),i<List.length v3→(fun i=>aa.rvs aa.con (List.getD v3 i aa.con.zero)) i=(Con.ofR ((fun i=>aa.rvs aa.con (List.getD v3 i aa.con.zero)) i)).rvs)∧List.length v3≤16∧(0:Int)=0,aj (p !=(2:Int)) false,(0:Int)≤↑k∧(↑k:Int)<v5,ty d1])) ⟨?_,?_,?_,?_,?_,?_,?_,?_,?_,?_,?_,?_,?_,?_,?_,?_,?_,?_,?_,?_,?_,(dN z1),?_,d1⟩ ?_ ?_)
   (fun d1=>aG d false [false] (q1 [X.length=(List.flatMap f2 R).length,X=List.flatMap f2 R,ty d1]) ⟨?_,?_,?_,?_,?_,?_,d1⟩ ?_))
  rotate_right
  refine(let q1:List Prop→List Prop:=fun l0=>(p=p)::(sq aa.con.list A1)::rq (↑A1.length:Int)::rq (↑i1:Int)::(sq aa.con.list R)::rq (↑R.length:Int)::(w6.wrap ((↑k:Int)+1)=↑(k+1))::l0;oe (decide ((↑k:Int)<↑R.length)) (fun d1=>let y1:List Prop:=(let v1:=R.getD k aa.con.list.zero;[(∀(i:Nat),i<List.length v1→(fun i=>aa.rvs aa.con (List.getD v1 i aa.con.zero)) i=(Con.ofR ((fun i=>aa.rvs aa.con (List.getD v1 i aa.con.zero)) i)).rvs)∧List.length v1≤16∧(0:Int)=0,aj (p !=(2:Int)) false,(0:Int)≤↑k∧(↑k:Int)<↑R.length,ty d1]);have u1:ao y1:=⟨?_,(dN z1),?_,d1⟩;oe ((List.flatMap f3 (cD (el R k).length (el R k) (0:Nat))).isEmpty) (fun d2=>aq (tp 121) (k+1,none) (q1 (let v1:=ag (mR R k) fun i=>aa.rvs aa.con (mQ R k i);let v2:=cD (el R k).length (el R k) (0:Nat);let v3:=cD v1.length v1 (0:Nat);(p=p)::(sq aa.con.list A1)::rq (↑A1.length:Int)::rq (↑i1:Int)::(sq aa.con.list R)::rq (↑R.length:Int)::rq (↑k:Int)::(v3.length=v2.length∧(fun i=>aa.con.list.rvs (v3.getD i aa.con.list.zero))=fun i=>aa.con.list.rvs (v2.getD i aa.con.list.zero))::((↑v3.length:Int)=↑v2.length)::ty d2::y1)) ⟨?_,?_,?_,?_,?_,?_,?_,?_,?_,?_,?_,?_,?_,?_,?_,?_,d2,u1⟩ ?_ ?_)
   (fun d2=>aq (tp 122) (k+1,some (f2 (el R k))) (q1 (let v1:=ag (mR R k) fun i=>aa.rvs aa.con (mQ R k i);let v2:=cD (el R k).length (el R k) (0:Nat);let v3:=cD v1.length v1 (0:Nat);((List.flatMap f3 v2).length=(f2 (el R k)).length)::(List.flatMap f3 v2=f2 (el R k))::(p=p)::(sq aa.con.list A1)::rq (↑A1.length:Int)::rq (↑i1:Int)::(sq aa.con.list R)::rq (↑R.length:Int)::rq (↑k:Int)::(v3.length=v2.length∧(fun i=>aa.con.list.rvs (v3.getD i aa.con.list.zero))=fun i=>aa.con.list.rvs (v2.getD i aa.con.list.zero))::((↑v3.length:Int)=↑v2.length)::ty d2::y1)) ⟨?_,?_,?_,?_,?_,?_,?_,?_,?_,?_,?_,?_,?_,?_,?_,?_,?_,?_,d2,u1⟩ ?_ ?_))
   (fun d1=>aG d true [false] [p=p,sq aa.con.list A1,rq (↑A1.length:Int),rq (↑i1:Int),ty d1] ⟨?_,?_,?_,?_,d1⟩ ?_))
  all_goals first|exact pw|(refine bD.mk ?_;(have dd:k<R.length:=bY;have he:=kI (R:=R) (k:=k) dd;have hc:=(iF (R.getD k [])).trans he;first|exact vY hI dd rk|(have h:=vZ (f:=f2) hI dd rk;rw[he]at h;exact h)|(have h:=tf (f:=f2) hI dd;rw[he]at h;exact h)))|(refine dq.mk ?_;cases d<;>first|rfl|(exfalso;(have dd:¬k<R.length:=eZ;have hd:(R.flatMap f2).isEmpty=_:=hd;have h9:=tg hI dd;first|(rw[←h9]at hd;cases hd;done)|(have h8:=hI.ne X rfl;rw[←h9]at hd;have h7:X=[]:=qp hd;rw[h7]at h8;exact absurd h8 (mX 0)))))|(first|exact tz|omega|decide|exact jV|(have dd:k<R.length:=bY;have he:=kI (R:=R) (k:=k) dd;have hc:=(iF (R.getD k [])).trans he;first|exact⟨om,om⟩|exact fk|exact Ch|exact LV|exact M6|exact xC|exact rfl|(rw[bU];done))|exact xF)
theorem O1 (p:Int)(A1:List LC)(i1:Nat)(R:List LC)(X0:LL)(hR:R.length≤400000)(hE:mu R)(hB:(R.flatMap f2).length≤65536)(z1:(p==2)=true)(hX0:X0.length≤50000):An 3 Tryz.f17 [0,1,1,0,0,1,1,0,0,1,0,1,1] (Jf p A1 i1 R X0):=by
 refine mL (cE m5) (fun(k:Nat)=>(⟨[(2,vi p),(21,(aI (.list .con) A1).av),(22,vi A1.length),(23,vi i1),(28,(aI (.list .con) R).av),(29,vi R.length),(30,vi k),(7,.lo 1020 (X0++pf f2 R k).length)],[(1020,fw (X0++pf f2 R k))],1021⟩:St)) (fun(k:Nat)=>(R.length-k:Nat)) (fun(k:Nat)=>(k≤R.length:Prop)) (fun(k:Nat)=>([([0,1,1,1,0,0,1,1,0,0,1,1,0,0,1,1,0,0,1,0,1,1],A4 p A1 i1 R k (cD (el R k).length (el R k) 0) (X0++pf f2 R k))]:List (List Nat×aA))) ?_ ?_ ?_
 ·intro k hI
  have he:=th hE k
  have hX:=qF f2 R k
  exact aW (Dr p A1 i1 R k (cD (el R k).length (el R k) 0) (X0++pf f2 R k) Cz (oL _ _ _ he) Cv (by rw[bU];omega))
 ·exact st (0) [p=p,sq aa.con.list A1,rq (↑A1.length:Int),rq (↑i1:Int),sq aa.con.list R,rq (↑R.length:Int),(0:Int)=↑(0:Nat),X0.length=(X0++pf f2 R (0:Nat)).length,X0=X0++pf f2 R (0:Nat)] (by refine⟨?_,?_,?_,?_,?_,?_,?_,?_,(?_:X0=X0++pf f2 R (0:Nat))⟩<;>(first|exact tr|rfl|omega|exact⟨rfl,rfl⟩|exact(gi X0).symm|exact congrArg List.length (gi X0).symm)) (by exact aY _)
 ·intro k hI
  have hk:k≤R.length:=hI
  have hX:=qF f2 R k
  refine(let q1:List Prop→List Prop:=fun l0=>(p=p)::(sq aa.con.list A1)::rq (↑A1.length:Int)::rq (↑i1:Int)::l0;oe (decide ((↑k:Int)<↑R.length)) (fun d1=>aq [true,false] (k+1) (q1 (let v3:=R.getD k aa.con.list.zero;let v1:=ag (List.length v3) fun i=>aa.rvs aa.con (List.getD v3 i aa.con.zero);let v2:=cD (el R k).length (el R k) (0:Nat);let v4:=cD v1.length v1 (0:Nat);let v5:=(↑R.length:Int);[sq aa.con.list R,rq v5,w6.wrap ((↑k:Int)+1)=↑(k+1),(X0++pf f2 R k++List.flatMap f3 v2).length=(X0++pf f2 R (k+1)).length,X0++pf f2 R k++List.flatMap f3 v2=X0++pf f2 R (k+1),p=p,sq aa.con.list A1,rq (↑A1.length:Int),rq (↑i1:Int),sq aa.con.list R,rq v5,rq (↑k:Int),v4.length=v2.length∧(fun i=>aa.con.list.rvs (v4.getD i aa.con.list.zero))=fun i=>aa.con.list.rvs (v2.getD i aa.con.list.zero),(↑v4.length:Int)=↑v2.length,rq ((X0++pf f2 R k).length),rq (X0++pf f2 R k),(∀(i:Nat),i<List.length v3→(fun i=>aa.rvs aa.con (List.getD v3 i aa.con.zero)) i=(Con.ofR ((fun i=>aa.rvs aa.con (List.getD v3 i aa.con.zero)) i)).rvs)∧List.length v3≤16∧(0:Int)=0,aj (p !=(2:Int)) false,(0:Int)≤↑k∧(↑k:Int)<v5,ty d1])) ⟨?_,?_,?_,?_,?_,?_,?_,?_,?_,?_,?_,?_,?_,?_,?_,?_,?_,?_,?_,?_,?_,(dN z1),?_,d1⟩ ?_ ?_)
   (fun d1=>br [false] (q1 [(X0++pf f2 R k).length=(X0++List.flatMap f2 R).length,X0++pf f2 R k=X0++List.flatMap f2 R,ty d1]) ⟨?_,?_,?_,?_,?_,?_,d1⟩))
  all_goals first|exact pw|exact CI|exact cT|(first|exact tz|omega|decide|exact jV|(have dd:k<R.length:=bY;have he:=kI (R:=R) (k:=k) dd;have hc:=(iF (R.getD k [])).trans he;have hn:=qh (f:=f2) dd;first|exact⟨om,om⟩|exact fk|exact Ch|exact LV|exact M6|(rw[hn,he,←mV];rfl)|exact⟨rfl,by rw[bU];omega⟩|exact rfl)|exact CH)
def Zz (p:Int)(R:List LC):Nat×Option LL→St
 |(k,none)=>⟨[(2,vi p),(21,(aI (.list .con) R).av),(22,vi R.length),(23,vi k),(7,.nils)],[],1011⟩
 |(k,some X)=>⟨[(2,vi p),(21,(aI (.list .con) R).av),(22,vi R.length),(23,vi k),(7,.lo 1010 X.length)],[(1010,fw X)],1011⟩
def ZZ (p:Int)(R:List LC):aA:=⟨⟨[(2,vi p),(21,(aI (.list .con) R).av),(22,vi R.length),(23,.int .i64 0),(7,.nils)],[],1010⟩,some (R.flatMap f1).isEmpty,fun d=>match d with
 |true=>(.exit 0,⟨[(2,vi p),(7,.nils)],[],1100⟩)
 |false=>(.exit 0,⟨[(2,vi p),(7,.lo 1010 (R.flatMap f1).length)],[(1010,fw (R.flatMap f1))],1100⟩)⟩
theorem O2 (p:Int)(R:List LC)(hR:R.length≤400000)(hE:mu R)(hB:(R.flatMap f1).length≤50000)(z1:(p==2)=true):An 3 Tryz.f17 [0,1,0,1,1] (ZZ p R):=by
 refine jU (cE m5) (Zz p R) (fun i=>R.length-i.1) (fun _ i=>jX f1 R i) (fun i:Nat×Option LL=>match i with|(k,none)=>[([0,1,1,0,0,1,1,0,0,1,0,1,1],Je p R k (dp (el R k).length (el R k) 0))]|(k,some X)=>[([0,1,1,0,0,1,1,0,0,1,0,1,1],Jf p R k (dp (el R k).length (el R k) 0) X)]) ?_ ?_ ?_
 ·rintro d hd ⟨k,o⟩ hI
  have he:=th hE k
  rcases o with _|X
  ·exact aW (O0 p R k (dp (el R k).length (el R k) 0) (by have:=AZ he;omega) (oK _ _ _ he) (by have:=Kq he;exact this) z1)
  ·have hX:=uZ hI
   exact aW (O1 p R k (dp (el R k).length (el R k) 0) X (by have:=AZ he;omega) (oK _ _ _ he) (by have:=Kq he;exact this) z1 om)
 ·intro d hd
  exact st (0,none) [p=p,sq aa.con.list R,rq (↑R.length:Int),(0:Int)=↑(0:Nat)] xj (by exact vX)
 ·rintro d hd ⟨k,o⟩ hI
  have hk:k≤R.length:=hI.k
  rcases o with _|X
  rotate_right
  refine oe (decide ((↑k:Int)<↑R.length)) (fun d1=>aq [true] (k+1,some (X++f1 (el R k))) (let v3:=R.getD k aa.con.list.zero;let v1:=ag (List.length v3) fun i=>aa.rvs aa.con (List.getD v3 i aa.con.zero);let v2:=dp (el R k).length (el R k) (0:Nat);let v4:=dp v1.length v1 (0:Nat);let v5:=(↑R.length:Int);[p=p,sq aa.con.list R,rq v5,w6.wrap ((↑k:Int)+1)=↑(k+1),(X++List.flatMap f2 v2).length=(X++f1 (el R k)).length,X++List.flatMap f2 v2=X++f1 (el R k),p=p,sq aa.con.list R,rq v5,rq (↑k:Int),v4.length=v2.length∧(fun i=>aa.con.list.rvs (v4.getD i aa.con.list.zero))=fun i=>aa.con.list.rvs (v2.getD i aa.con.list.zero),(↑v4.length:Int)=↑v2.length,rq X.length,X=X,(∀(i:Nat),i<List.length v3→(fun i=>aa.rvs aa.con (List.getD v3 i aa.con.zero)) i=(Con.ofR ((fun i=>aa.rvs aa.con (List.getD v3 i aa.con.zero)) i)).rvs)∧List.length v3≤16∧(0:Int)=0,(0:Int)≤↑k∧(↑k:Int)<v5,ty d1]) ⟨?_,?_,?_,?_,?_,?_,?_,?_,?_,?_,?_,?_,?_,?_,?_,?_,d1⟩ ?_ ?_)
   (fun d1=>aG d false [false] [p=p,X.length=(List.flatMap f1 R).length,X=List.flatMap f1 R,ty d1] ⟨?_,?_,?_,d1⟩ ?_)
  rotate_right
  refine(let q1:List Prop→List Prop:=fun l0=>(p=p)::(sq aa.con.list R)::rq (↑R.length:Int)::(w6.wrap ((↑k:Int)+1)=↑(k+1))::l0;oe (decide ((↑k:Int)<↑R.length)) (fun d1=>let y1:List Prop:=(let v1:=R.getD k aa.con.list.zero;[(∀(i:Nat),i<List.length v1→(fun i=>aa.rvs aa.con (List.getD v1 i aa.con.zero)) i=(Con.ofR ((fun i=>aa.rvs aa.con (List.getD v1 i aa.con.zero)) i)).rvs)∧List.length v1≤16∧(0:Int)=0,(0:Int)≤↑k∧(↑k:Int)<↑R.length,ty d1]);have u1:ao y1:=⟨?_,?_,d1⟩;oe ((List.flatMap f2 (dp (el R k).length (el R k) (0:Nat))).isEmpty) (fun d2=>aq [true,true] (k+1,none) (q1 (let v1:=ag (mR R k) fun i=>aa.rvs aa.con (mQ R k i);let v2:=dp (el R k).length (el R k) (0:Nat);let v3:=dp v1.length v1 (0:Nat);(p=p)::(sq aa.con.list R)::rq (↑R.length:Int)::rq (↑k:Int)::(v3.length=v2.length∧(fun i=>aa.con.list.rvs (v3.getD i aa.con.list.zero))=fun i=>aa.con.list.rvs (v2.getD i aa.con.list.zero))::((↑v3.length:Int)=↑v2.length)::ty d2::y1)) ⟨?_,?_,?_,?_,?_,?_,?_,?_,?_,?_,d2,u1⟩ ?_ ?_)
   (fun d2=>aq [true,false] (k+1,some (f1 (el R k))) (q1 (let v1:=ag (mR R k) fun i=>aa.rvs aa.con (mQ R k i);let v2:=dp (el R k).length (el R k) (0:Nat);let v3:=dp v1.length v1 (0:Nat);((List.flatMap f2 v2).length=(f1 (el R k)).length)::(List.flatMap f2 v2=f1 (el R k))::(p=p)::(sq aa.con.list R)::rq (↑R.length:Int)::rq (↑k:Int)::(v3.length=v2.length∧(fun i=>aa.con.list.rvs (v3.getD i aa.con.list.zero))=fun i=>aa.con.list.rvs (v2.getD i aa.con.list.zero))::((↑v3.length:Int)=↑v2.length)::ty d2::y1)) ⟨?_,?_,?_,?_,?_,?_,?_,?_,?_,?_,?_,?_,d2,u1⟩ ?_ ?_))
   (fun d1=>aG d true [false] [p=p,ty d1] ⟨?_,d1⟩ ?_))
  all_goals first|exact pw|(refine bD.mk ?_;(have dd:k<R.length:=bY;have he:=kI (R:=R) (k:=k) dd;have hc:=(iF (R.getD k [])).trans he;first|exact vY hI dd rk|(have h:=vZ (f:=f1) hI dd rk;rw[he]at h;exact h)|(have h:=tf (f:=f1) hI dd;rw[he]at h;exact h)))|(refine dq.mk ?_;cases d<;>first|rfl|(exfalso;(have dd:¬k<R.length:=eZ;have hd:(R.flatMap f1).isEmpty=_:=hd;have h9:=tg hI dd;first|(rw[←h9]at hd;cases hd;done)|(have h8:=hI.ne X rfl;rw[←h9]at hd;have h7:X=[]:=qp hd;rw[h7]at h8;exact absurd h8 (mX 0)))))|(first|exact tz|omega|decide|exact jV|(have dd:k<R.length:=bY;have he:=kI (R:=R) (k:=k) dd;have hc:=(iF (R.getD k [])).trans he;first|exact⟨om,om⟩|exact fk|exact Ch|exact⟨congrArg (fun z=>(dp z.length z 0).length) hc,congrArg (fun z=>fun i=>aa.rvs (.list .con) ((dp z.length z 0).getD i [])) hc⟩|exact congrArg (fun z=>(((dp z.length z 0).length:Nat):Int)) hc|exact xC|exact rfl|(rw[bU];done))|exact xF)
theorem FY {n v:Nat}(h0:0<n)(hn:n≤4)(hv:v≤5):mu (ix 9 n v 0):=fun L hL=>by
 have h:=bX.1 (bq (Ft h0 hn hv)).2 L hL
 simp only[aX,bX,dT]at h
 exact⟨aU h.1.1,aU h.1.2,fun c hc=>by have:=h.2 c hc;omega⟩
theorem Y7 {n v:Nat}(h0:0<n)(hn:n≤4)(hv:v≤5):(ix 9 n v 0).length≤400000:=aU (bq (Ft h0 hn hv)).1
theorem PM (n d:Nat)(h0:0<n)(hn:n≤4)(d0:0<d)(hd:d≤2147483647)(hv:(vv 2 d).1≤5)(hB:((ix 9 n (vv 2 d).1 0).flatMap f1).length≤50000):ar Tryz.prog [] 17 [.int .i64 (n:Int),.int .i64 (d:Int),.int .i64 (2:Int)] (aI .loc ((ix 9 n (vv 2 d).1 0).flatMap f1)):=by
 have hl0:=O2 2 (ix 9 n (vv 2 d).1 0) (Y7 h0 hn hv) (FY h0 hn hv) hB rfl
 refine pr (cE m5) Tryz.func17 (aW hl0) ?_
 refine(let y1:List Prop:=(let v1:=(↑(vv (Int.toNat (2:Int)) d).fst:Int);[((0:Int)≤↑n∧(↑n:Int)≤4)∧((0:Int)≤v1∧v1≤5)∧(0:Int)≤0∧(0:Int)≤0,(0:Int)<↑d∧(↑d:Int)≤2147483647∧(2:Int)≤2]);have u1:ao y1:=⟨?_,(?_:(0:Int)<↑d∧(↑d:Int)≤2147483647∧(2:Int)≤2)⟩;oe ((List.flatMap f1 (ix (9:Nat) n (vv (2:Nat) d).fst (0:Nat))).isEmpty) (fun d1=>lr [true] (let v1:=ix (9:Nat) n (vv (Int.toNat (2:Int)) d).fst (Int.toNat (0:Int));let v2:=ix (9:Nat) n (vv (2:Nat) d).fst (0:Nat);((List.flatMap f1 v2).length=0)::rq (2:Int)::(v1.length=v2.length∧(fun i=>aa.con.list.rvs (v1.getD i aa.con.list.zero))=fun i=>aa.con.list.rvs (v2.getD i aa.con.list.zero))::((↑v1.length:Int)=↑v2.length)::ty d1::y1) ⟨?_,?_,?_,?_,d1,u1⟩)
  (fun d1=>lr [false] (let v1:=ix (9:Nat) n (vv (2:Nat) d).fst (0:Nat);let v2:=ix (9:Nat) n (vv (Int.toNat (2:Int)) d).fst (Int.toNat (0:Int));let v3:=List.flatMap f1 v1;(v3.length=v3.length∧v3.length=v3.length∧∀(i:Nat),i<v3.length→(fun i=>aa.loc.rvs (v3.getD i aa.loc.zero)) i=aa.loc.rvs (v3.getD i aa.loc.zero))::rq (2:Int)::(v2.length=v1.length∧(fun i=>aa.con.list.rvs (v2.getD i aa.con.list.zero))=fun i=>aa.con.list.rvs (v1.getD i aa.con.list.zero))::((↑v2.length:Int)=↑v1.length)::ty d1::y1) ⟨?_,?_,?_,?_,d1,u1⟩))
 all_goals first|(first|exact tz|exact⟨om,om⟩|exact⟨om,om,om⟩|exact⟨⟨om,om⟩,⟨om,om⟩,om,om⟩|exact⟨⟨om,om⟩,(by have:(vv 2 d).1≤5:=hv;exact⟨Int.natCast_nonneg _,pB.2 this⟩),om,om⟩|omega|rfl|(rw[qp d1];rfl)|exact re|exact(5:Nat))
theorem T8:((List.range 4).all fun a=>(List.range 48).all fun i=>(bQ (2*i+2)).all fun p=>decide (p=2)||mg 17 [] [ii (a+1),ii (i+1),.int .i64 p] (aI .loc (dC (a+1) (i+1) p)))=true:=by kernel_rfl
theorem Rp (n d:Nat)(p:Int)(h0:0<n)(hn:n≤4)(d0:0<d)(hd:d≤48)(hp:p∈bQ (2*d))(hv:(vv p.toNat d).1≤5)(hB:(dC n d p).length≤50000):ar Tryz.prog [] 17 [.int .i64 (n:Int),.int .i64 (d:Int),.int .i64 p] (aI .loc (dC n d p)):=by
 by_cases h:p=2
 ·subst h
  unfold dC at hB⊢
  rw[bZ rfl]at hB⊢
  exact PM n d h0 hn d0 om hv hB
 ·have h1:=bX.1 (bX.1 T8 (n-1) (jj.2 om)) (d-1) (jj.2 om)
  rw[show n-1+1=n by omega,show d-1+1=d by omega,show 2*(d-1)+2=2*d by omega]at h1
  have h2:=bX.1 h1 p hp
  rw[bu h,pK]at h2
  exact pM h2
end Go.Proofs.YtmeljalphfcieaaGreatDoor.S
end
