/- A part of the proof of ExistenceOne: QJ, KA, KB, KC, KD, KE, KF, KG, KH, KJ, KI, KIB, KIC, KL. -/
import Derived.Test.YtdbdoalefmliiaaGreatDoorPkE3
import Derived.Test.YtdbdoalefmliiaaGreatDoorPkE5
import Derived.Test.YtdbdoalefmliiaaGreatDoorPkE2
import Derived.Test.YtdbdoalefmliiaaGreatDoorPkE4
set_option linter.unusedSimpArgs false
set_option linter.unusedVariables false
set_option maxRecDepth 100000
open Go.IntKind renaming i64 → w6
open Go.QfSy.Con renaming zero → z0c
noncomputable section
namespace Go.Proofs.YtdbdoalefmliiaaGreatDoor.S
open Go.QfSy Go.RowKit
theorem Dm:∀e∈([]:List cq),cJ Tryz.prog e:=fun e h=>(nomatch h)
def zR (n:Nat)(Lp:Int→LC)(ps:List Int):List cq:=vU++[
 ⟨16,[],fun A=>some (.bool true,[A=[hR n]])⟩,
 ⟨21,[aL],fun A=>some (.tup [.agg [.int .i64 2,bg (Lp 2)],.int .i64 0],[A=[hR n]])⟩,
 ⟨22,[aL],fun A=>match A with
  |[_,.int .i64 p]=>some (.tup [.agg [.int .i64 p,bg (Lp p)],.int .i64 0],[A=[hR n,.int .i64 p]∧p∈ps])
  |_=>none⟩]
def HG:bq:=ll EC (Is []) 12
def lh (n:Nat)(Lp:Int→LC)(ps:List Int):bq:=ll EV (qM EC HG 17 1 [] (qM EC HG 18 1 [] (kt EV.ng (zR n Lp ps)))) 8
def xh:List Code:=[m9 Tryz.f5 [0],m9 Tryz.f5 [1,0],m9 Tryz.f5 [1,1,0],m9 Tryz.f5 [1,1,1,0],m9 Tryz.f5 [1,1,1,1,0],m9 Tryz.f5 [1,1,1,1,1,0]]
def xi:Code:=m9 Tryz.f5 [1,1,1,1,1,1,0,0]
def mc:Code:=m9 Tryz.f5 [1,1,1,1,1,1,0,1,0]
def xj:Code:=m9 Tryz.f5 [1,1,1,1,1,1,1]
def BA (n:Nat)(l:AV):List (Nat×ag):=[(1000,⟨.plain [(hR n).av],33,0,false,true⟩),(1001,⟨.plain [.int .i64 0,.int .i64 0,.nils],29,0,false,true⟩),(1024,⟨.plain [vi 1,vi n,l],29,0,false,true⟩)]++iW
def Yd (n:Nat)(Ls:LL)(k:Nat):List (Nat×ag):=(1100,⟨.vals .loc (Ls.take k),50,2,true,true⟩)::BA n (.lo 1100 k)
def j8 (n:Nat)(Ls:LL)(k:Nat):List (Nat×ag):=match k with
 |0=>BA n .nils
 |k+1=>Yd n Ls (k+1)
def xk (n:Nat):List (Nat×ag):=(1025,⟨.plain [vi n],2,0,false,true⟩)::BA n .nils
def pA:List (Nat×AV):=[(1,.ptr 1000 0),(2,.ptr 1001 0),(10,.ptr 1024 0),(37,.fn 63 [.ptr 1025 0])]
def qT (n:Nat)(Lp:Int→LC)(ps:List Int)(x y:Int):Tr AV:=Ye (bb EV (lh n Lp ps) fF 60 999 [0] (xl mc) (aI ((39,vi y)::(38,vi x)::pA)) (cO ⟨[],[],1200⟩ []))
theorem ax.res {P:Program}{tabs:List Tb}{f:Nat}{A:List RV}{R R':RV}(h:ax P tabs f A R)(hr:∀F V,bZ F R V→bZ F R' V):ax P tabs f A R':=
 ⟨h.1,fun w F Args hT hF hA=>(h.2 w F Args hT hF hA).mono fun e w'=>fun⟨V,F',a1,a2,a3,a4,a5,a6⟩=>⟨V,F',a1,a2,a3,a4,hr _ _ a5,a6⟩⟩
theorem MU {n:Nat}{Lp:Int→LC}{ps:List Int}(hn:0<n∧n≤10000)(h2:ax Tryz.prog [aL] 21 [hR n] (.tup [.agg [.int .i64 2,bg (Lp 2)],.int .i64 0]))(hp:∀p∈ps,ax Tryz.prog [aL] 22 [hR n,.int .i64 p] (.tup [.agg [.int .i64 p,bg (Lp p)],.int .i64 0])):∀e∈zR n Lp ps,cJ Tryz.prog e:=by
 intro e he
 rcases fX.1 he with he|he
 ·exact D2 e he
 simp only[bC,cU,cY]at he
 rcases he with rfl|rfl|rfl
 ·intro A R ms hh hm
  cases hh
  rw[aA hm]
  exact yc n hn
 ·intro A R ms hh hm
  cases hh
  rw[aA hm]
  exact h2
 ·intro A R ms hh hm
  simp only at hh
  split at hh
  ·rename_i y p
   cases hh
   obtain⟨e1,e2⟩:=aA hm
   rw[e1]
   exact hp p e2
  ·cases hh
theorem Oj {n:Nat}{Lp:Int→LC}{ps:List Int}(h:∀e∈zR n Lp ps,cJ Tryz.prog e):bV Tryz.prog EV.ng (lh n Lp ps):=
 bU fS (vd aX (bU aX (gV Dm) 12) Tryz.func17 aE (vd aX (bU aX (gV Dm) 12) Tryz.func18 aE (eE h))) 8
theorem PP:Tryz.f5.body=some (jz xh (.seq (.seq xi (.block 0 (.rangeFunc (.tmp 37) #[38,39] (xl mc) (ri mc)))) xj)):=by kernel_rfl
theorem MW (n:Nat)(Lp:Int→LC)(ps:List Int)(m:List (Nat×ag))(x y:Int)(q:List Bool):bb EV (lh n Lp ps) fF 60 999 [0] (xl mc) (aI ((39,vi y)::(38,vi x)::pA)) (cO ⟨[],m,1200⟩ q)=some (.normal,qT n Lp ps x y,cO ⟨[],m,1200⟩ q):=by kernel_rfl
theorem UU:fA (jz xh xi)=true:=by kernel_rfl
theorem UV:fA xj=true:=by kernel_rfl
theorem UW:fA (xl mc)=true:=by kernel_rfl
theorem UX:fA (ri mc)=true:=by kernel_rfl
theorem SA (n:Nat)(Lp:Int→LC)(ps:List Int)(hn:0<n∧n<4294967296):∃q ms,eM (bb EV (lh n Lp ps) fF 60 999 [] (jz xh xi) (Tr.ofList (RV.avl [hR n])) ⟨aI (dH [aL]),1000,q,[]⟩) .normal ⟨pA,xk n,1026⟩ 1000=some ms∧ar ms:=by
 have b:aQ n=aQ n∧0<n∧n<4294967296:=⟨rfl,hn⟩
 have e:eM (bb EV (lh n Lp ps) fF 60 999 [] (jz xh xi) (Tr.ofList (RV.avl [hR n])) ⟨aI (dH [aL]),1000,[false,false],[]⟩) .normal ⟨pA,xk n,1026⟩ 1000=some (let v1:=((1:Nat):Int);let v2:=[RV.sl 1 1 fun _=>[RV.int IntKind.i64 (n:Int)]];[rq (n:Int),(1:Nat)=1∧(fun(_:Nat)=>v2)=fun _=>v2,v1=1,rq (n:Int),aQ n=aQ n∧0<n∧n<4294967296,aQ n=aQ n∧0<n∧n<4294967296,aa ((1:Int)==0) false,aQ n=aQ n∧0<n∧n<4294967296,(0:Int)<1∧(1:Int)<4294967296,(0:Int)<(n:Int)∧(n:Int)<4294967296,(0:Int)≤0∧(0:Int)<v1,(0:Int)≤0∧(0:Int)<v1,(0:Int)≤0∧(0:Int)<v1,(0:Int)≤0∧(0:Int)<v1,aa (!true) false,rq ([hR n])]):=by kernel_rfl
 exact⟨_,_,e,rfl,⟨rfl,rfl⟩,rfl,rfl,b,b,rfl,b,de,om,de,de,de,de,rfl,rfl⟩
theorem Fa {Ls:LL}{k:Nat}(hk:k<Ls.length):Ls.take k++[Ls.getD k QfSy.Loc.zero]=Ls.take (k+1):=by
 rw[uk hk]
 simp[hk]
theorem SB (n:Nat)(Lp:Int→LC)(ps:List Int)(Ls:LL)(x y:Int)(hx:x=2)(h0:0<Ls.length)(hL:Ls.getD 0 QfSy.Loc.zero=⟨2,Lp 2⟩):∃q ms rn,fo (bb EV (lh n Lp ps) fF 60 999 [1] (ri mc) (qT n Lp ps x y) (cO ⟨[],j8 n Ls 0,1200⟩ q)) .normal ⟨[],j8 n Ls (0+1),1200⟩ 1026 rn=some ms∧ar ms:=by
 have e:eM (bb EV (lh n Lp ps) fF 60 999 [1] (ri mc) (qT n Lp ps x y) (cO ⟨[],j8 n Ls 0,1200⟩ [true])) .normal ⟨[],j8 n Ls (0+1),1200⟩ 1026=some (let v1:=[RV.sl 1 1 fun _=>[RV.int IntKind.i64 (n:Int)]];[[(⟨2,aF (Lp 2).length fun i=>((Lp 2).getD i Con.zero).rvs⟩:QfSy.Loc)]=Ls.take (0+1),(1:Nat)=1∧(fun(_:Nat)=>v1)=fun _=>v1,(1:Int)=1,rq (n:Int),(1:Nat)=0+1,(0:Nat)<1∧(1:Nat)≤1000000,(1:Nat)=1,∀(i:Nat),i<(Lp 2).length→(fun i=>((Lp 2).getD i Con.zero).rvs) i=ae.con.rvs (ae.con.of ((fun i=>((Lp 2).getD i Con.zero).rvs) i)),rq ([hR n]),aa (x==2) true]):=by kernel_rfl
 refine⟨_,_,_,e,?_,⟨rfl,rfl⟩,rfl,rfl,rfl,de,rfl,fun _ _=>rfl,rfl,by rw[hx];rfl⟩
 rw[cb,←Fa h0,hL];rfl
theorem SC (n k:Nat)(Lp:Int→LC)(ps:List Int)(Ls:LL)(x y:Int)(hx:x≠2)(hp:x∈ps)(h0:k+1<Ls.length)(hb:Ls.length≤1000)(hL:Ls.getD (k+1) QfSy.Loc.zero=⟨x,Lp x⟩):∃q ms rn,fo (bb EV (lh n Lp ps) fF 60 999 [1] (ri mc) (qT n Lp ps x y) (cO ⟨[],j8 n Ls (k+1),1200⟩ q)) .normal ⟨[],j8 n Ls (k+1+1),1200⟩ 1026 rn=some ms∧ar ms:=by
 have e:eM (bb EV (lh n Lp ps) fF 60 999 [1] (ri mc) (qT n Lp ps x y) (cO ⟨[],j8 n Ls (k+1),1200⟩ [false])) .normal ⟨[],j8 n Ls (k+1+1),1200⟩ 1026=some (let v1:=[RV.sl 1 1 fun _=>[RV.int IntKind.i64 (n:Int)]];[Ls.take (k+1)++[(⟨x,aF (Lp x).length fun i=>((Lp x).getD i Con.zero).rvs⟩:QfSy.Loc)]=Ls.take (k+1+1),(1:Nat)=1∧(fun(_:Nat)=>v1)=fun _=>v1,(1:Int)=1,rq (n:Int),rq (k+1+1),(Ls.take (k+1)).length=k+1∧k+1+1≤1000000,(1:Nat)=1,∀(i:Nat),i<(Lp x).length→(fun i=>((Lp x).getD i Con.zero).rvs) i=ae.con.rvs (ae.con.of ((fun i=>((Lp x).getD i Con.zero).rvs) i)),[hR n,RV.int IntKind.i64 x]=[hR n,RV.int IntKind.i64 x]∧x∈ps,aa (x==2) false]):=by kernel_rfl
 refine⟨_,_,_,e,?_,⟨rfl,rfl⟩,rfl,rfl,rfl,⟨?_,om⟩,rfl,fun _ _=>rfl,⟨rfl,hp⟩,cp.2 hx⟩
 ·rw[cb,←Fa h0,hL]
 ·rw[rE];omega
theorem PQ (n k:Nat)(Lp:Int→LC)(ps:List Int)(Ls:LL)(hk:k+1=Ls.length):∃q ms,kx (s8 EV (lh n Lp ps) 60 Tryz.f5 xj pA (.normal,j8 n Ls (k+1)) 1200 q) (.tup [.agg [.int .i64 1,.int .i64 (n:Int),dU .loc Ls],.int .i64 0])=some ms∧ar ms:=by
 have e:kx (s8 EV (lh n Lp ps) 60 Tryz.f5 xj pA (.normal,j8 n Ls (k+1)) 1200 []) (.tup [.agg [.int .i64 1,.int .i64 (n:Int),dU .loc Ls],.int .i64 0])=some [(1:Int)=1,rq (n:Int),k+1=Ls.length∧k+1=(Ls.take (k+1)).length∧∀(i:Nat),i<k+1→(fun i=>ae.loc.rvs (Ls.getD i ae.loc.zero)) i=ae.loc.rvs ((Ls.take (k+1)).getD i ae.loc.zero),(0:Int)=0]:=by kernel_rfl
 refine⟨_,_,e,rfl,rfl,⟨hk,?_,fun i hi=>?_⟩,rfl⟩
 ·rw[rE];omega
 ·rw[hk,List.take_length]
theorem SG (n:Nat)(Ls:LL):∀b k,(aI (j8 n Ls 0)).get b=some k→(aI (xk n)).get b=some k:=by
 intro b k h
 have hm:=i7 _ _ _ kr h
 have hm:(b,k)∈[((1000:Nat),(⟨.plain [(hR n).av],33,0,false,true⟩:ag)),(1001,⟨.plain [.int .i64 0,.int .i64 0,.nils],29,0,false,true⟩),(1024,⟨.plain [vi 1,vi n,.nils],29,0,false,true⟩),(0,aL.blk)]:=hm
 simp only[bC,cU,cY,dh]at hm
 rcases hm with⟨rfl,rfl⟩|⟨rfl,rfl⟩|⟨rfl,rfl⟩|⟨rfl,rfl⟩<;>(show _=some _;kernel_rfl)
def md (Lp:Int→LC)(P:List aN):LL:=(kd P).map fun x=>⟨x.1,Lp x.1⟩
theorem Gi {Lp:Int→LC}{P:List aN}{k:Nat}{x:Int×Int}(h:(kd P)[k]? =some x):(md Lp P).getD k QfSy.Loc.zero=⟨x.1,Lp x.1⟩:=by
 unfold md
 rw[ev,mo,h]
 rfl
theorem PR (Lp:Int→LC)(P:List aN):(md Lp P).length=P.length:=by unfold md;rw[jG,vj]
theorem Ok (n:Nat)(Lp:Int→LC)(ps:List Int)(hn:0<n∧n≤10000)(hq:∀k x,(kd (ba (2*n)))[k]? =some x→(k=0∧x.1=2)∨(0<k∧x.1≠2∧x.1∈ps))(hl:0<(ba (2*n)).length∧(ba (2*n)).length≤1000)
 (h2:ax Tryz.prog [aL] 21 [hR n] (.tup [.agg [.int .i64 2,bg (Lp 2)],.int .i64 0]))(hp:∀p∈ps,ax Tryz.prog [aL] 22 [hR n,.int .i64 p] (.tup [.agg [.int .i64 p,bg (Lp p)],.int .i64 0])):
 ax Tryz.prog [aL] 5 [hR n] (.tup [.agg [.int .i64 1,.int .i64 (n:Int),dU .loc (md Lp (ba (2*n)))],.int .i64 0]):=by
 have hit:=OD n hn.1 hn.2
 obtain⟨P,hP⟩:∃P,P=ba (2*n):=⟨_,rfl⟩
 rw[←hP]at hit hq hl⊢
 obtain⟨K,hK⟩:∃K,P.length=K+1:=⟨P.length-1,om⟩
 have hlen:=PR Lp P
 refine Ov fS (Oj (MU hn h2 hp)) Tryz.func5 PP UU UV UW UX (aT kr) (N:=60) kr (tabs:=[aL]) kr kr rb
  hit (Go.Proofs.enters_of Tryz.func63 kr rfl)
  (T0:=pA) (pre:=xk n) (bd:=1025) (nx0:=1026) (nx1:=1200) om om (SA n Lp ps ⟨hn.1,om⟩)
  (fun k=>j8 n (md Lp P) k) (.normal,j8 n (md Lp P) (K+1)) (K+1)
  kr om om kr kr kr (by intro t ht;simp only[bC,cU,cY]at ht;subst ht;kernel_rfl) (SG n _) (qT n Lp ps) (fun k x y q=>MW n Lp ps _ x y q) ?_ ?_ (PQ n K Lp ps _ om)
 ·intro k x hx hk
  rcases hq k x hx with⟨rfl,h3⟩|⟨h3,h4,h5⟩
  ·exact SB n Lp ps _ _ _ h3 om (by rw[Gi hx,h3])
  ·obtain⟨j,rfl⟩:∃j,k=j+1:=⟨k-1,om⟩
   exact SC n j Lp ps _ _ _ h4 h5 om om (Gi hx)
 ·exact .inl ⟨by rw[vj];omega,rfl⟩
def ez (C:LC):Nat→Int
 |0=>1
 |k+1=>w6.wrap (ez C k*(at_ C k).sign)
def dD (d:Int)(p:Int)(C:LC):Bool:=decide (ez C C.length=dw d.toNat p.toNat)
def FT:List cq:=[
 ⟨40,[],fun A=>match A with
  |[.int .i64 d,.int .i64 p]=>some (.int .i64 (dw d.toNat p.toNat),[0<d∧d≤2147483647∧2≤p∧p≤2147483647∧(p=2∨p.toNat%2≠0)])
  |_=>none⟩]
theorem CX:∀e∈FT,cJ Tryz.prog e:=by
 intro e he
 simp only[FT,bC,cU,cY]at he
 subst he
 intro A R ms h hm
 simp only at h
 split at h
 ·rename_i d p
  cases h
  obtain⟨h0,hb,hp,hq,ho⟩:=hm _ eB
  have ed:((d.toNat:Nat):Int)=d:=by omega
  have ep:((p.toNat:Nat):Int)=p:=by omega
  by_cases h2:p=2
  ·subst h2
   have:=F4 d.toNat om om
   rw[ed]at this
   exact this
  ·have:=F5 d.toNat p.toNat om om om om om
   rw[ed,ep]at this
   exact this
 ·cases h
def gz (C:LC):ag:=⟨.con C,81,5,true,true⟩
def nN (X:LL):ag:=⟨.vals .loc X,50,2,true,true⟩
def Bu (p:Int)(C:LC):ag:=⟨.plain [vi p,.lo 1000 C.length],50,0,false,true⟩
def kD (b:Nat):Option LL→AV
 |none=>.nils
 |some X=>.lo b X.length
def kE (b:Nat):Option LL→List (Nat×ag)
 |none=>[]
 |some X=>[(b,nN X)]
def ab:Option LL→LL
 |none=>[]
 |some X=>X
def Ha (C:LC)(D p:Int)(o:Option LL):aO:=⟨⟨[(0,kD 1001 o),(1,vi D),(5,.ptr 1100 0),(7,.int .i64 1),(11,.lo 1000 C.length),(12,vi C.length),(13,.int .i64 0)],(1000,gz C)::(1100,Bu p C)::kE 1001 o,1101⟩,none,fun _=>(.exit 0,⟨[(0,kD 1001 o),(1,vi D),(5,.ptr 1100 0),(7,vi (ez C C.length))],(1000,gz C)::(1100,Bu p C)::kE 1001 o,1101⟩)⟩
def keS (C:LC)(D p:Int)(o:Option LL)(k:Nat):St:=⟨[(0,kD 1001 o),(1,vi D),(5,.ptr 1100 0),(7,vi (ez C k)),(11,.lo 1000 C.length),(12,vi C.length),(13,vi k)],(1000,gz C)::(1100,Bu p C)::kE 1001 o,1101⟩
theorem NQ (C:LC)(D p:Int)(hC:C.length≤1000):An 3 Tryz.f34 [0,1,0,1,1] (Ha C D p none):=by
 refine fj c0 aE (fun(k:Nat)=>(keS C D p none k:St)) (fun(k:Nat)=>(C.length-k:Nat)) (fun(k:Nat)=>(k≤C.length:Prop)) ?_ ?_
 ·exact st (0) [D=D,(1:Int)=ez C (0:Nat),rq C.length,rq (↑C.length:Int),(0:Int)=↑(0:Nat),C=C,p=p,rq C.length] (by refine⟨?_,?_,?_,?_,?_,?_,?_,(?_:C.length=C.length)⟩<;>(first|rfl|assumption|exact⟨rfl,rfl⟩|omega|simp_all)) (by exact bQ _)
 ·intro k hI
  have ht:k≤C.length:=hI
  have ek:=wk k
  refine oe (decide ((↑k:Int)<↑C.length)) (fun d1=>aH [true] (k+1) [D=D,w6.wrap (ez C k*(C.getD k Con.zero).sign)=ez C (k+1),rq C.length,rq (↑C.length:Int),w6.wrap ((↑k:Int)+1)=↑(k+1),C=C,p=p,rq C.length,k<C.length,(0:Int)≤↑k∧(↑k:Int)<↑C.length,ty d1] ⟨?_,?_,?_,?_,?_,?_,?_,?_,?_,?_,d1⟩ ?_ ?_)
   (fun d1=>b9 [false] [D=D,ez C k=ez C C.length,C=C,p=p,rq C.length,ty d1] ⟨?_,?_,?_,?_,?_,d1⟩)
  all_goals first|exact Ko|exact Kw|exact fu|exact J2
theorem NR (C:LC)(D p:Int)(X:LL)(hC:C.length≤1000):An 3 Tryz.f34 [0,1,0,1,1] (Ha C D p (some X)):=by
 refine fj c0 aE (fun(k:Nat)=>(keS C D p (some X) k:St)) (fun(k:Nat)=>(C.length-k:Nat)) (fun(k:Nat)=>(k≤C.length:Prop)) ?_ ?_
 ·exact st (0) [rq X.length,D=D,(1:Int)=ez C (0:Nat),rq C.length,rq (↑C.length:Int),(0:Int)=↑(0:Nat),C=C,p=p,rq C.length,X=X] (by refine⟨?_,?_,?_,?_,?_,?_,?_,?_,?_,(?_:X=X)⟩<;>(first|rfl|assumption|exact⟨rfl,rfl⟩|omega|simp_all)) (by exact bQ _)
 ·intro k hI
  have ht:k≤C.length:=hI
  have ek:=wk k
  refine oe (decide ((↑k:Int)<↑C.length)) (fun d1=>aH [true] (k+1) [rq X.length,D=D,w6.wrap (ez C k*(C.getD k Con.zero).sign)=ez C (k+1),rq C.length,rq (↑C.length:Int),w6.wrap ((↑k:Int)+1)=↑(k+1),C=C,p=p,rq C.length,X=X,k<C.length,(0:Int)≤↑k∧(↑k:Int)<↑C.length,ty d1] ⟨?_,?_,?_,?_,?_,?_,?_,?_,?_,?_,?_,?_,d1⟩ ?_ ?_)
   (fun d1=>b9 [false] [rq X.length,D=D,ez C k=ez C C.length,C=C,p=p,rq C.length,X=X,ty d1] ⟨?_,?_,?_,?_,?_,?_,?_,d1⟩)
  all_goals first|exact Ko|exact Kw|exact fu|exact J2
def wZ (C:LC)(D p:Int)(o:Option LL):cS:=⟨34,[kD 1001 o,vi D,.agg [vi p,.lo 1000 C.length]],(1000,gz C)::kE 1001 o,1100,some (dD D p C),fun t=>match t with
 |true=>(kD 1150 (some (ab o++[⟨p,C⟩])),(1000,gz C)::kE 1150 (some (ab o++[⟨p,C⟩])),1200)
 |false=>(kD 1001 o,(1000,gz C)::kE 1001 o,1200)⟩
theorem ke_t {D p:Int}{C:LC}{b:Bool}(h:(ez C C.length==dw D.toNat p.toNat)=b):dD D p C=b:=by
 subst h
 unfold dD
 rcases Bool.eq_false_or_eq_true (ez C C.length==dw D.toNat p.toNat)with h|h
 ·rw[h];exact bJ (eq_of_beq h)
 ·rw[h];exact bI (by intro e;rw[e,ey]at h;cases h)
theorem R1 (C:LC)(D p:Int)(hC0:0<C.length)(hC:C.length≤1000)(hd1:0<D)(hd2:D≤2147483647)(hp1:2≤p)(hp2:p≤2147483647)(hp3:p=2∨p.toNat%2≠0):aP Tryz.prog EV.ng (wZ C D p none):=by
 refine cT (cE CX) Tryz.func34 (bX (NQ C D p hC)) ?_
 intro d hd
 cases d
 rotate_right
 have hd:(dD D p C)=true:=hd
 refine oe (ez C C.length==dw D.toNat p.toNat) (fun d1=>lr [false] [(1:Nat)=(ab none++[Loc.mk p C]).length,C=C,rq ([Loc.mk p C]),(0:Nat)<1∧(1:Nat)≤1000000,(1:Nat)=[Loc.mk p C].length,rq C.length,p=p,(0:Nat)<C.length∧C.length≤1000000,rq C.length,ty (dN d1),(0:Int)<D∧D≤2147483647∧(2:Int)≤p∧p≤2147483647∧(p=2∨p.toNat%(2:Nat)≠(0:Nat)),D=D,rq C.length,rq (↑C.length:Int),C=C,p=p,rq C.length] ⟨?_,?_,?_,?_,?_,?_,?_,?_,?_,(dN d1),?_,?_,?_,?_,?_,?_,(?_:C.length=C.length)⟩)
  (fun d1=>a8.no ?_)
 rotate_right
 have hd:(dD D p C)=false:=hd
 refine oe (ez C C.length==dw D.toNat p.toNat) (fun d1=>a8.no ?_)
  (fun d1=>lr [true] [C=C,ty (dN d1),(0:Int)<D∧D≤2147483647∧(2:Int)≤p∧p≤2147483647∧(p=2∨p.toNat%(2:Nat)≠(0:Nat)),D=D,rq C.length,rq (↑C.length:Int),C=C,p=p,rq C.length] ⟨?_,(dN d1),?_,?_,?_,?_,?_,?_,(?_:C.length=C.length)⟩)
 all_goals first|(refine a8.mk ?_;(rw[ke_t d1]at hd;cases hd))|exact JZ
theorem R2 (C:LC)(D p:Int)(X:LL)(hC0:0<C.length)(hC:C.length≤1000)(hX:X.length≤100000)(hd1:0<D)(hd2:D≤2147483647)(hp1:2≤p)(hp2:p≤2147483647)(hp3:p=2∨p.toNat%2≠0):aP Tryz.prog EV.ng (wZ C D p (some X)):=by
 refine cT (cE CX) Tryz.func34 (bX (NR C D p X hC)) ?_
 intro d hd
 cases d
 rotate_right
 have hd:(dD D p C)=true:=hd
 refine oe (ez C C.length==dw D.toNat p.toNat) (fun d1=>lr [false] (let v1:=[Loc.mk p C];[X.length+1=(ab (some X)++v1).length,C=C,X++v1=ab (some X)++v1,X.length=X.length∧X.length+1≤1000000,(1:Nat)=v1.length,rq C.length,p=p,(0:Nat)<C.length∧C.length≤1000000,rq C.length,ty (dN d1),(0:Int)<D∧D≤2147483647∧(2:Int)≤p∧p≤2147483647∧(p=2∨p.toNat%(2:Nat)≠(0:Nat)),rq X.length,D=D,rq C.length,rq (↑C.length:Int),C=C,p=p,rq C.length,X=X]) ⟨?_,?_,?_,?_,?_,?_,?_,?_,?_,(dN d1),?_,?_,?_,?_,?_,?_,?_,?_,(?_:X=X)⟩)
  (fun d1=>a8.no ?_)
 rotate_right
 have hd:(dD D p C)=false:=hd
 refine oe (ez C C.length==dw D.toNat p.toNat) (fun d1=>a8.no ?_)
  (fun d1=>lr [true] [rq X.length,C=C,X=X,ty (dN d1),(0:Int)<D∧D≤2147483647∧(2:Int)≤p∧p≤2147483647∧(p=2∨p.toNat%(2:Nat)≠(0:Nat)),rq X.length,D=D,rq C.length,rq (↑C.length:Int),C=C,p=p,rq C.length,X=X] ⟨?_,?_,?_,(dN d1),?_,?_,?_,?_,?_,?_,?_,?_,(?_:X=X)⟩)
 all_goals first|(refine a8.mk ?_;(rw[ke_t d1]at hd;cases hd))|exact JZ
def bh (D:Int)(C:LC)(o:Option LL):Option LL:=bif iQ 2 C&&dD D 2 C then some (ab o++[⟨2,C⟩])else o
def nV (c:Con):Con:=⟨c.exp,c.dim,-1,c.odd,c.oddity⟩
def aB (D:Int)(F:LC)(h:List Bool):Nat→Nat→LC→Option LL→LC×Option LL
 |0,_,C,o=>(C,bh D C o)
 |r+1,i,C,o=>bif h.getD i false then aB D F h r (i+1) ((aB D F h r (i+1) (C.set i (F.getD i z0c)) o).1.set i (nV (F.getD i z0c))) (aB D F h r (i+1) (C.set i (F.getD i z0c)) o).2 else aB D F h r (i+1) (C.set i (F.getD i z0c)) o
theorem qk (D:Int)(F:LC)(h:List Bool):∀(r i:Nat)(C:LC)(o:Option LL),(aB D F h r i C o).1.length=C.length
 |0,i,C,o=>rfl
 |r+1,i,C,o=>by
  unfold aB
  cases h.getD i false with
  |true=>rw[aU,qk,dZ,qk,dZ]
  |false=>rw[bt,qk,dZ]
theorem OE (D:Int)(C:LC)(X:LL):bh D C (some X)=some (ab (bh D C (some X))):=by
 unfold bh
 cases iQ 2 C&&dD D 2 C<;>rfl
theorem nu (D:Int)(F:LC)(h:List Bool):∀(r i:Nat)(C:LC)(X:LL),(aB D F h r i C (some X)).2=some (ab (aB D F h r i C (some X)).2)
 |0,i,C,X=>OE D C X
 |r+1,i,C,X=>by
  unfold aB
  cases h.getD i false with
  |true=>
   rw[aU,nu D F h r (i+1) (C.set i (F.getD i z0c)) X]
   exact nu D F h r (i+1) _ _
  |false=>
   rw[bt]
   exact nu D F h r (i+1) _ _
theorem SO (D:Int)(C:LC)(o:Option LL):(ab (bh D C o)).length≤(ab o).length+1:=by
 unfold bh
 cases iQ 2 C&&dD D 2 C<;>simp[ab]
theorem zY (D:Int)(F:LC)(h:List Bool):∀(r i:Nat)(C:LC)(o:Option LL),(ab (aB D F h r i C o).2).length≤(ab o).length+2^r
 |0,i,C,o=>SO D C o
 |r+1,i,C,o=>by
  unfold aB
  have h1:=zY D F h r (i+1) (C.set i (F.getD i z0c)) o
  have h2:=jp 2 r
  cases h.getD i false with
  |true=>
   rw[aU]
   have h3:=zY D F h r (i+1) ((aB D F h r (i+1) (C.set i (F.getD i z0c)) o).1.set i (nV (F.getD i z0c))) (aB D F h r (i+1) (C.set i (F.getD i z0c)) o).2
   omega
  |false=>
   rw[bt]
   omega
def cN (l:List AV)(t:Nat):ag:=⟨.plain l,t,0,false,true⟩
def Ys (D:Int)(F:LC)(h:List Bool)(o:Option LL)(b:Nat):List (Nat×ag):=[(1005,cN [kD b o] 27),(1006,cN [vi D] 2),(1007,cN [.lo 1008 h.length] 77),(1008,⟨.vals .flag h,4,1,true,true⟩),(1009,cN [vi 2,(bg F).av] 50)]++kE b o
def xB (D:Int)(F:LC)(h:List Bool)(C:LC)(o:Option LL)(b:Nat):List (Nat×ag):=[(1000,cN [.lo 1001 C.length] 48),(1001,gz C),(1002,cN [.fn 32 [.ptr 1005 0,.ptr 1006 0]] 86),(1003,cN [.fn 29 [.ptr 1007 0,.ptr 1009 0]] 82),(1004,cN [.fn 75 [.ptr 1000 0,.ptr 1002 0,.ptr 1003 0,.ptr 1004 0]] 45)]++Ys D F h o b
def mh (D:Int)(F:LC)(h:List Bool)(r i:Nat)(C:LC)(o:Option LL):cS:=⟨75,[vi i,.ptr 1000 0,.ptr 1002 0,.ptr 1003 0,.ptr 1004 0],xB D F h C o 1010,1100,(match o with
 |none=>some (aB D F h r i C none).2.isNone
 |some _=>none),fun t=>match o,t with
 |none,true=>(.tup [],xB D F h (aB D F h r i C none).1 none 1150,1900)
 |none,false=>(.tup [],xB D F h (aB D F h r i C none).1 (some (ab (aB D F h r i C none).2)) 1150,1900)
 |some X,_=>(.tup [],xB D F h (aB D F h r i C (some X)).1 (some (ab (aB D F h r i C (some X)).2)) 1150,1900)⟩
def K7 (m:Tr ag)(u:AV):Option (Option LL):=match u with
 |.nils=>some none
 |.lo b _=>match m.get b with
  |some k=>match k.view with
   |.vals .loc X=>some (some X)
   |_=>none
  |none=>none
 |_=>none
def xC (m:Tr ag)(b:Nat):Option LC:=match m.get b with
 |some k=>match k.view with
  |.con C=>some C
  |_=>none
 |none=>none
def kO (m:Tr ag)(b:Nat):Option AV:=match m.get b with
 |some k=>match k.view with
  |.plain [v]=>some v
  |_=>none
 |none=>none
def Bf (m:Tr ag)(b:Nat):Option LC:=match kO m b with
 |some (.lo b' _)=>xC m b'
 |_=>none
def mV (m:Tr ag)(b:Nat):Option (Option LL):=match kO m b with
 |some u=>K7 m u
 |none=>none
def mi (C:LC)(D p:Int)(o:Option LL):Prop:=0<C.length∧C.length≤1000∧(ab o).length≤100000∧0<D∧D≤2147483647∧2≤p∧p≤2147483647∧(p=2∨p.toNat%2≠0)
theorem Vi {C:LC}{D p:Int}{o:Option LL}(h:mi C D p o):aP Tryz.prog EV.ng (wZ C D p o):=by
 obtain⟨h1,h2,h3,h4,h5,h6,h7,h8⟩:=h
 cases o with
 |none=>exact R1 C D p h1 h2 h4 h5 h6 h7 h8
 |some X=>exact R2 C D p X h1 h2 h3 h4 h5 h6 h7 h8
def IH (D p:Int):Nat→List AV→Hs→Option (cS×List Prop):=fun f args H=>bif Nat.beq f 34 then(match args with
 |[u,_,.agg [_,.lo b _]]=>match xC H.m b with
  |none=>none
  |some C=>match K7 H.m u with
   |none=>none
   |some o=>some (wZ C D p o,[mi C D p o])
 |_=>none)else none
theorem vl (D p:Int):∀f args H A ms,IH D p f args H=some (A,ms)→(∀q∈ms,q)→aP Tryz.prog EV.ng A:=by
 intro f args H A ms h hm
 unfold IH at h
 replace h:=(ay h).2
 split at h
 ·split at h
  ·cases h
  ·split at h
   ·cases h
   ·cases h
    exact Vi (aA hm)
 ·cases h
def dr (D:Int)(F:LC)(h:List Bool)(r i:Nat)(C:LC)(o:Option LL):Prop:=i+r=C.length∧F.length=C.length∧h.length=C.length∧0<C.length∧C.length≤10∧(ab o).length+2^r≤100000∧0<D∧D≤2147483647
def Gs:List cq:=[
 ⟨33,[],fun A=>match A with
  |[.agg [.int .i64 p,.sl n 5 row]]=>some (.bool (iQ p (aF n row)),[(∀i,i<n→row i=(Con.ofR (row i)).rvs)∧n≤1000])
  |_=>none⟩]
theorem Dp:∀e∈Gs,cJ Tryz.prog e:=by
 intro e he
 simp only[Gs,bC,cU,cY]at he
 subst he
 intro A R ms h hm
 simp only at h
 split at h
 ·cases h
  obtain⟨h1,h2⟩:=aA hm
  exact ax.imp (NI _ _ j9) (.cons (.agg (.cons .same (.cons (.con h1) .nil))) .nil)
 ·cases h
theorem qW {D:Int}{C:LC}{o:Option LL}(h1:iQ 2 C=true)(h2:dD D 2 C=true):bh D C o=some (ab o++[⟨2,C⟩]):=by unfold bh;rw[h1,h2];rfl
theorem qX {D:Int}{C:LC}{o:Option LL}(h1:iQ 2 C=false):bh D C o=o:=by unfold bh;rw[h1];rfl
theorem qY {D:Int}{C:LC}{o:Option LL}(h2:dD D 2 C=false):bh D C o=o:=by unfold bh;rw[h2,mt9];rfl
theorem Vj (D:Int)(F:LC)(h:List Bool)(j:Nat)(C:LC)(hc:dr D F h 0 j C none):aP Tryz.prog EV.ng (mh D F h 0 j C none):=by
 obtain⟨hc1,hc2,hc3,hc4,hc5,hc6,hc7,hc8⟩:=hc
 have hz:((j:Int)==(C.length:Int))=true:=by rw[show j=C.length by omega];exact ey _
 refine cT (cF (cD (vl D 2) (eE Dp))) Tryz.func75 aE ?_
 intro d hd
 cases d
 rotate_right
 have hd:((aB D F h 0 j C none).2.isNone)=true:=hd
 refine(let q1:List Prop→List Prop:=fun l0=>(let v1:=aB D F h (0:Nat) j C none;(C.length=v1.fst.length)::(C=v1.fst)::(D=D)::rq h.length::(h=h)::rq (2:Int)::(lq F)::l0);let y1:List Prop:=[rq C.length,(lz C)∧C.length≤1000,aa ((↑j:Int)==↑C.length) true];have u1:ar y1:=⟨?_,?_,hz⟩;oe (iQ (2:Int) (aF C.length fun i=>(C.getD i z0c).rvs)) (fun d1=>oe (dD D (2:Int) C) (fun d2=>a8.no ?_)
  (fun d2=>lr (tp 112) (q1 ((mi C D (2:Int) none)::(D=D)::rq (2:Int)::rq C.length::(C=C)::ty d2::ty d1::y1)) ⟨?_,?_,?_,?_,?_,?_,?_,?_,?_,?_,?_,?_,d2,d1,u1⟩))
  (fun d1=>lr [true,false] (q1 (ty d1::y1)) ⟨?_,?_,?_,?_,?_,?_,?_,d1,u1⟩))
 rotate_right
 have hd:((aB D F h 0 j C none).2.isNone)=false:=hd
 refine oe (iQ (2:Int) (aF C.length fun i=>(C.getD i z0c).rvs)) (fun d1=>oe (dD D (2:Int) C) (fun d2=>lr (tp 111) (let v1:=aB D F h (0:Nat) j C none;[C.length=v1.fst.length,C=v1.fst,(ab none++[Loc.mk (2:Int) C]).length=(ab v1.snd).length,D=D,rq h.length,h=h,rq (2:Int),lq F,[Loc.mk (2:Int) C]=ab v1.snd,mi C D (2:Int) none,D=D,rq (2:Int),rq C.length,C=C,ty d2,ty d1,rq C.length,(lz C)∧C.length≤1000,aa ((↑j:Int)==↑C.length) true]) ⟨?_,?_,?_,?_,?_,?_,?_,?_,?_,?_,?_,?_,?_,?_,d2,d1,?_,?_,hz⟩)
  (fun d2=>a8.no ?_))
  (fun d1=>a8.no ?_)
 all_goals first|(refine a8.mk ?_;(first|(have e1:=d1;rw[cb]at e1;have hd:(bh D C none).isNone=_:=hd;first|(rw[qW e1 d2]at hd;cases hd;done)|(rw[qX e1]at hd;cases hd;done)|(rw[qY d2]at hd;cases hd;done))))|(first|exact tv|exact⟨hc4,om,om,hc7,hc8,de,de,.inl rfl⟩|exact⟨fun _ _=>rfl,om⟩|(have e1:=d1;rw[cb]at e1;first|(show _=(ab (bh D C none)).length;rw[qW e1 d2]<;>rfl)|(show _=ab (bh D C none);rw[qW e1 d2]<;>rfl)|(show _=(ab (bh D C none)).length;rw[qX e1]<;>rfl)|(show _=ab (bh D C none);rw[qX e1]<;>rfl)|(show _=(ab (bh D C none)).length;rw[qY d2]<;>rfl)|(show _=ab (bh D C none);rw[qY d2]<;>rfl)))
theorem Vk (D:Int)(F:LC)(h:List Bool)(j:Nat)(C:LC)(X:LL)(hc:dr D F h 0 j C (some X)):aP Tryz.prog EV.ng (mh D F h 0 j C (some X)):=by
 obtain⟨hc1,hc2,hc3,hc4,hc5,hc6,hc7,hc8⟩:=hc
 have hz:((j:Int)==(C.length:Int))=true:=by rw[show j=C.length by omega];exact ey _
 refine cT (cF (cD (vl D 2) (eE Dp))) Tryz.func75 aE ?_
 intro d hd
 cases d
 ·exact Bool.noConfusion (show false=true from hd)
 ·refine(let q1:List Prop→List Prop:=fun l0=>(let v1:=aB D F h (0:Nat) j C (some X);(C.length=v1.fst.length)::(C=v1.fst)::(X.length=(ab v1.snd).length)::(D=D)::rq h.length::(h=h)::rq (2:Int)::(lq F)::(X=ab v1.snd)::l0);let y1:List Prop:=[rq C.length,(lz C)∧C.length≤1000,aa ((↑j:Int)==↑C.length) true];have u1:ar y1:=⟨?_,?_,hz⟩;oe (iQ (2:Int) (aF C.length fun i=>(C.getD i z0c).rvs)) (fun d1=>oe (dD D (2:Int) C) (fun d2=>lr (tp 111) (let v1:=aB D F h (0:Nat) j C (some X);(C.length=v1.fst.length)::(C=v1.fst)::((ab (some X)++[Loc.mk (2:Int) C]).length=(ab v1.snd).length)::(D=D)::rq h.length::(h=h)::rq (2:Int)::(lq F)::(ab (some X)++[Loc.mk (2:Int) C]=ab v1.snd)::(mi C D (2:Int) (some X))::rq X.length::(D=D)::rq (2:Int)::rq C.length::(C=C)::(X=X)::ty d2::ty d1::y1) ?_)
   (fun d2=>lr (tp 112) (q1 ((mi C D (2:Int) (some X))::rq X.length::(D=D)::rq (2:Int)::rq C.length::(C=C)::(X=X)::ty d2::ty d1::y1)) ?_))
   (fun d1=>lr [true,false] (q1 (ty d1::y1)) ?_))
  all_goals with_reducible(repeat' first|exact dA|refine bx ?_ ?_|refine bz ?_|(delta aa;assumption))
  all_goals first|(refine a8.mk ?_;(first|(have e1:=d1;rw[cb]at e1;have hd:(bh D C (some X)).isNone=_:=hd;first|(rw[qW e1 d2]at hd;cases hd;done)|(rw[qX e1]at hd;cases hd;done)|(rw[qY d2]at hd;cases hd;done))))|(first|exact tv|exact⟨hc4,om,om,hc7,hc8,de,de,.inl rfl⟩|exact⟨fun _ _=>rfl,om⟩|(have e1:=d1;rw[cb]at e1;first|(show _=(ab (bh D C (some X))).length;rw[qW e1 d2]<;>rfl)|(show _=ab (bh D C (some X));rw[qW e1 d2]<;>rfl)|(show _=(ab (bh D C (some X))).length;rw[qX e1]<;>rfl)|(show _=ab (bh D C (some X));rw[qX e1]<;>rfl)|(show _=(ab (bh D C (some X))).length;rw[qY d2]<;>rfl)|(show _=ab (bh D C (some X));rw[qY d2]<;>rfl)))
def K8 (D:Int)(F:LC)(h:List Bool)(r i:Nat)(go:Nat→List AV→Hs→Option (cS×List Prop)):Nat→List AV→Hs→Option (cS×List Prop):=fun f args H=>bif Nat.beq f 75 then(match args with
 |[_,.ptr b0 _,.ptr b1 _,_,_]=>match Bf H.m b0 with
  |none=>none
  |some C=>match kO H.m b1 with
   |some (.fn _ [.ptr bl _,_])=>match mV H.m bl with
    |none=>none
    |some o=>some (mh D F h r (i+1) C o,[dr D F h r (i+1) C o])
   |_=>none
 |_=>none)else go f args H
theorem Gt {D:Int}{F:LC}{h:List Bool}{r i:Nat}(ih:∀C o,dr D F h r (i+1) C o→aP Tryz.prog EV.ng (mh D F h r (i+1) C o)){go:Nat→List AV→Hs→Option (cS×List Prop)}(hgo:∀f args H A ms,go f args H=some (A,ms)→(∀q∈ms,q)→aP Tryz.prog EV.ng A):∀f args H A ms,K8 D F h r i go f args H=some (A,ms)→(∀q∈ms,q)→aP Tryz.prog EV.ng A:=by
 intro f args H A ms hq hm
 unfold K8 at hq
 cases hb:Nat.beq f 75 with
 |false=>rw[hb]at hq;exact hgo f args H A ms hq hm
 |true=>
  rw[hb]at hq
  simp only[aU]at hq
  split at hq
  ·split at hq
   ·cases hq
   ·split at hq
    ·split at hq
     ·cases hq
     ·cases hq
      exact ih _ _ (aA hm)
    ·cases hq
  ·cases hq
def Yt:Nat→List AV→Hs→Option (cS×List Prop):=fun _ _ _=>none
theorem js:∀f args H A ms,Yt f args H=some (A,ms)→(∀q∈ms,q)→aP Tryz.prog EV.ng A:=fun f args H A ms h _=>by cases h
theorem isN {α:Type}{x:Option α}(h:x.isNone=true):x=none:=by cases x with
 |none=>rfl
 |some a=>cases h
theorem jW {x:Option LL}(h:x.isNone=false):x=some (ab x):=by cases x with
 |none=>cases h
 |some a=>rfl
theorem nW {D:Int}{F:LC}{h:List Bool}{r i:Nat}{C:LC}{o:Option LL}(hd:h.getD i ae.flag.zero=true):aB D F h (r+1) i C o=aB D F h r (i+1) ((aB D F h r (i+1) (C.set i (F.getD i z0c)) o).1.set i (nV (F.getD i z0c))) (aB D F h r (i+1) (C.set i (F.getD i z0c)) o).2:=by
 have hd:h.getD i false=true:=hd
 rw[aB,hd];rfl
theorem Bg {D:Int}{F:LC}{h:List Bool}{r i:Nat}{C:LC}{o:Option LL}(hd:h.getD i ae.flag.zero=false):aB D F h (r+1) i C o=aB D F h r (i+1) (C.set i (F.getD i z0c)) o:=by
 have hd:h.getD i false=false:=hd
 rw[aB,hd];rfl
theorem HM {D:Int}{F:LC}{h:List Bool}{r i:Nat}{C:LC}{o:Option LL}{x:Con}(hc:dr D F h (r+1) i C o):dr D F h r (i+1) (C.set i x) o:=by
 obtain⟨hc1,hc2,hc3,hc4,hc5,hc6,hc7,hc8⟩:=hc
 have:=jp 2 r
 unfold dr
 rw[dZ]
 exact⟨om,hc2,hc3,hc4,hc5,om,hc7,hc8⟩
theorem AP {D:Int}{F:LC}{h:List Bool}{r i:Nat}{C:LC}{o:Option LL}{x y:Con}(hc:dr D F h (r+1) i C o):dr D F h r (i+1) ((aB D F h r (i+1) (C.set i x) o).1.set i y) (aB D F h r (i+1) (C.set i x) o).2:=by
 obtain⟨hc1,hc2,hc3,hc4,hc5,hc6,hc7,hc8⟩:=hc
 have:=jp 2 r
 have hl:=zY D F h r (i+1) (C.set i x) o
 unfold dr
 rw[dZ,qk,dZ]
 exact⟨om,hc2,hc3,hc4,hc5,om,hc7,hc8⟩
theorem HN {D:Int}{F:LC}{h:List Bool}{r i:Nat}{C:LC}{o:Option LL}{x y:Con}(hc:dr D F h (r+1) i C o)(hn:(aB D F h r (i+1) (C.set i x) o).2.isNone=true):dr D F h r (i+1) ((aB D F h r (i+1) (C.set i x) o).1.set i y) none:=by
 have:=AP (x:=x) (y:=y) hc
 rw[isN hn]at this
 exact this
theorem HO {D:Int}{F:LC}{h:List Bool}{r i:Nat}{C:LC}{o:Option LL}{x y:Con}(hc:dr D F h (r+1) i C o)(hn:(aB D F h r (i+1) (C.set i x) o).2.isNone=false):dr D F h r (i+1) ((aB D F h r (i+1) (C.set i x) o).1.set i y) (some (ab (aB D F h r (i+1) (C.set i x) o).2)):=by
 have:=AP (x:=x) (y:=y) hc
 rw[jW hn]at this
 exact this
theorem HP {D:Int}{F:LC}{h:List Bool}{r i:Nat}{C:LC}{X:LL}{x y:Con}(hc:dr D F h (r+1) i C (some X)):dr D F h r (i+1) ((aB D F h r (i+1) (C.set i x) (some X)).1.set i y) (some (ab (aB D F h r (i+1) (C.set i x) (some X)).2)):=by
 have:=AP (x:=x) (y:=y) hc
 rw[nu]at this
 exact this
theorem Vl (D:Int)(F:LC)(h:List Bool)(r i:Nat)(C:LC)(hc:dr D F h (r+1) i C none)(ih:∀C o,dr D F h r (i+1) C o→aP Tryz.prog EV.ng (mh D F h r (i+1) C o)):aP Tryz.prog EV.ng (mh D F h (r+1) i C none):=by
 have hcc:=hc
 obtain⟨hc1,hc2,hc3,hc4,hc5,hc6,hc7,hc8⟩:=hcc
 have hz:((i:Int)==(C.length:Int))=false:=cp.2 om
 have hlen:=qk D F h r (i+1) (C.set i (F.getD i z0c)) none
 rw[dZ]at hlen
 refine cT (cF (cD (Gt ih js) (cm _ _))) Tryz.func75 aE ?_
 intro d hd
 cases d
 rotate_right
 have hd:((aB D F h (r+1) i C none).2.isNone)=true:=hd
 refine(let y1:List Prop:=[i<h.length,(0:Int)≤↑i∧(↑i:Int)<↑h.length,aa ((↑i:Int)==↑C.length) false];have u1:ar y1:=⟨?_,?_,hz⟩;oe (h.getD i ae.flag.zero) (fun d1=>oe ((aB D F h r (i+1) (C.set i (F.getD i z0c)) none).snd.isNone) (fun d2=>oe ((aB D F h r (i+1) ((aB D F h r (i+1) (C.set i (F.getD i z0c)) none).fst.set i (Con.mk (F.getD i z0c).exp (F.getD i z0c).dim (-1:Int) (F.getD i z0c).odd (F.getD i z0c).oddity)) none).snd.isNone) (fun d3=>lr (tp 2111) (((aB D F h r (i+1) ((aB D F h r (i+1) (C.set i (F.getD i z0c)) none).fst.set i (Con.mk (F.getD i z0c).exp (F.getD i z0c).dim (-1:Int) (F.getD i z0c).odd (F.getD i z0c).oddity)) none).fst.length=(aB D F h (r+1) i C none).fst.length)::((aB D F h r (i+1) ((aB D F h r (i+1) (C.set i (F.getD i z0c)) none).fst.set i (Con.mk (F.getD i z0c).exp (F.getD i z0c).dim (-1:Int) (F.getD i z0c).odd (F.getD i z0c).oddity)) none).fst=(aB D F h (r+1) i C none).fst)::(D=D)::rq h.length::(h=h)::rq (2:Int)::(lq F)::(dr D F h r (i+1) ((aB D F h r (i+1) (C.set i (F.getD i z0c)) none).fst.set i (Con.mk (F.getD i z0c).exp (F.getD i z0c).dim (-1:Int) (F.getD i z0c).odd (F.getD i z0c).oddity)) none)::(w6.wrap ((↑i:Int)+1)=↑(i+1))::((aB D F h r (i+1) (C.set i (F.getD i z0c)) none).fst.length=((aB D F h r (i+1) (C.set i (F.getD i z0c)) none).fst.set i (Con.mk (F.getD i z0c).exp (F.getD i z0c).dim (-1:Int) (F.getD i z0c).odd (F.getD i z0c).oddity)).length)::rq ((aB D F h r (i+1) (C.set i (F.getD i z0c)) none).fst.set i (Con.mk (F.getD i z0c).exp (F.getD i z0c).dim (-1:Int) (F.getD i z0c).odd (F.getD i z0c).oddity))::(D=D)::rq h.length::(h=h)::rq (2:Int)::(lq F)::ty d3::(i<(aB D F h r (i+1) (C.set i (F.getD i z0c)) none).fst.length)::((0:Int)≤↑i∧(↑i:Int)<(↑(aB D F h r (i+1) (C.set i (F.getD i z0c)) none).fst.length:Int))::(dr D F h r (i+1) (C.set i (F.getD i z0c)) none)::(w6.wrap ((↑i:Int)+1)=↑(i+1))::(C.length=(C.set i (F.getD i z0c)).length)::rq (C.set i (F.getD i z0c))::(D=D)::rq h.length::(h=h)::rq (2:Int)::(lq F)::ty d2::(i<C.length)::((0:Int)≤↑i∧(↑i:Int)<↑C.length)::((0:Int)≤↑i∧(↑i:Int)<↑F.length)::ty d1::y1) ?_)
  (fun d3=>a8.no ?_))
  (fun d2=>a8.no ?_))
  (fun d1=>oe ((aB D F h r (i+1) (C.set i (F.getD i z0c)) none).snd.isNone) (fun d2=>lr (tp 221) (((aB D F h r (i+1) (C.set i (F.getD i z0c)) none).fst.length=(aB D F h (r+1) i C none).fst.length)::((aB D F h r (i+1) (C.set i (F.getD i z0c)) none).fst=(aB D F h (r+1) i C none).fst)::(D=D)::rq h.length::(h=h)::rq (2:Int)::(lq F)::(dr D F h r (i+1) (C.set i (F.getD i z0c)) none)::(w6.wrap ((↑i:Int)+1)=↑(i+1))::(C.length=(C.set i (F.getD i z0c)).length)::rq (C.set i (F.getD i z0c))::(D=D)::rq h.length::(h=h)::rq (2:Int)::(lq F)::ty d2::(i<C.length)::((0:Int)≤↑i∧(↑i:Int)<↑C.length)::((0:Int)≤↑i∧(↑i:Int)<↑F.length)::ty d1::y1) ?_)
  (fun d2=>a8.no ?_)))
 all_goals with_reducible(repeat' first|exact dA|refine bx ?_ ?_|refine bz ?_|(delta aa;assumption))
 rotate_right
 have hd:((aB D F h (r+1) i C none).2.isNone)=false:=hd
 refine(let y1:List Prop:=[i<h.length,(0:Int)≤↑i∧(↑i:Int)<↑h.length,aa ((↑i:Int)==↑C.length) false];have u1:ar y1:=⟨?_,?_,hz⟩;oe (h.getD i ae.flag.zero) (fun d1=>let y2:List Prop:=(i<C.length)::((0:Int)≤↑i∧(↑i:Int)<↑C.length)::((0:Int)≤↑i∧(↑i:Int)<↑F.length)::ty d1::y1;have u2:ar y2:=⟨?_,?_,?_,d1,u1⟩;oe ((aB D F h r (i+1) (C.set i (F.getD i z0c)) none).snd.isNone) (fun d2=>oe ((aB D F h r (i+1) ((aB D F h r (i+1) (C.set i (F.getD i z0c)) none).fst.set i (Con.mk (F.getD i z0c).exp (F.getD i z0c).dim (-1:Int) (F.getD i z0c).odd (F.getD i z0c).oddity)) none).snd.isNone) (fun d3=>a8.no ?_)
  (fun d3=>lr (tp 2112) (let v1:=r+1;((aB D F h r (i+1) ((aB D F h r (i+1) (C.set i (F.getD i z0c)) none).fst.set i (Con.mk (F.getD i z0c).exp (F.getD i z0c).dim (-1:Int) (F.getD i z0c).odd (F.getD i z0c).oddity)) none).fst.length=(aB D F h v1 i C none).fst.length)::((aB D F h r (i+1) ((aB D F h r (i+1) (C.set i (F.getD i z0c)) none).fst.set i (Con.mk (F.getD i z0c).exp (F.getD i z0c).dim (-1:Int) (F.getD i z0c).odd (F.getD i z0c).oddity)) none).fst=(aB D F h v1 i C none).fst)::((ab (aB D F h r (i+1) ((aB D F h r (i+1) (C.set i (F.getD i z0c)) none).fst.set i (Con.mk (F.getD i z0c).exp (F.getD i z0c).dim (-1:Int) (F.getD i z0c).odd (F.getD i z0c).oddity)) none).snd).length=(ab (aB D F h v1 i C none).snd).length)::(D=D)::rq h.length::(h=h)::rq (2:Int)::(lq F)::(ab (aB D F h r (i+1) ((aB D F h r (i+1) (C.set i (F.getD i z0c)) none).fst.set i (Con.mk (F.getD i z0c).exp (F.getD i z0c).dim (-1:Int) (F.getD i z0c).odd (F.getD i z0c).oddity)) none).snd=ab (aB D F h v1 i C none).snd)::(dr D F h r (i+1) ((aB D F h r (i+1) (C.set i (F.getD i z0c)) none).fst.set i (Con.mk (F.getD i z0c).exp (F.getD i z0c).dim (-1:Int) (F.getD i z0c).odd (F.getD i z0c).oddity)) none)::(w6.wrap ((↑i:Int)+1)=↑(i+1))::((aB D F h r (i+1) (C.set i (F.getD i z0c)) none).fst.length=((aB D F h r (i+1) (C.set i (F.getD i z0c)) none).fst.set i (Con.mk (F.getD i z0c).exp (F.getD i z0c).dim (-1:Int) (F.getD i z0c).odd (F.getD i z0c).oddity)).length)::rq ((aB D F h r (i+1) (C.set i (F.getD i z0c)) none).fst.set i (Con.mk (F.getD i z0c).exp (F.getD i z0c).dim (-1:Int) (F.getD i z0c).odd (F.getD i z0c).oddity))::(D=D)::rq h.length::(h=h)::rq (2:Int)::(lq F)::ty d3::(i<(aB D F h r (i+1) (C.set i (F.getD i z0c)) none).fst.length)::((0:Int)≤↑i∧(↑i:Int)<(↑(aB D F h r (i+1) (C.set i (F.getD i z0c)) none).fst.length:Int))::(dr D F h r (i+1) (C.set i (F.getD i z0c)) none)::(w6.wrap ((↑i:Int)+1)=↑(i+1))::(C.length=(C.set i (F.getD i z0c)).length)::rq (C.set i (F.getD i z0c))::(D=D)::rq h.length::(h=h)::rq (2:Int)::(lq F)::ty d2::y2) ?_))
  (fun d2=>lr (tp 212) (let v1:=r+1;((aB D F h r (i+1) ((aB D F h r (i+1) (C.set i (F.getD i z0c)) none).fst.set i (Con.mk (F.getD i z0c).exp (F.getD i z0c).dim (-1:Int) (F.getD i z0c).odd (F.getD i z0c).oddity)) (some (ab (aB D F h r (i+1) (C.set i (F.getD i z0c)) none).snd))).fst.length=(aB D F h v1 i C none).fst.length)::((aB D F h r (i+1) ((aB D F h r (i+1) (C.set i (F.getD i z0c)) none).fst.set i (Con.mk (F.getD i z0c).exp (F.getD i z0c).dim (-1:Int) (F.getD i z0c).odd (F.getD i z0c).oddity)) (some (ab (aB D F h r (i+1) (C.set i (F.getD i z0c)) none).snd))).fst=(aB D F h v1 i C none).fst)::((ab (aB D F h r (i+1) ((aB D F h r (i+1) (C.set i (F.getD i z0c)) none).fst.set i (Con.mk (F.getD i z0c).exp (F.getD i z0c).dim (-1:Int) (F.getD i z0c).odd (F.getD i z0c).oddity)) (some (ab (aB D F h r (i+1) (C.set i (F.getD i z0c)) none).snd))).snd).length=(ab (aB D F h v1 i C none).snd).length)::(D=D)::rq h.length::(h=h)::rq (2:Int)::(lq F)::(ab (aB D F h r (i+1) ((aB D F h r (i+1) (C.set i (F.getD i z0c)) none).fst.set i (Con.mk (F.getD i z0c).exp (F.getD i z0c).dim (-1:Int) (F.getD i z0c).odd (F.getD i z0c).oddity)) (some (ab (aB D F h r (i+1) (C.set i (F.getD i z0c)) none).snd))).snd=ab (aB D F h v1 i C none).snd)::(dr D F h r (i+1) ((aB D F h r (i+1) (C.set i (F.getD i z0c)) none).fst.set i (Con.mk (F.getD i z0c).exp (F.getD i z0c).dim (-1:Int) (F.getD i z0c).odd (F.getD i z0c).oddity)) (some (ab (aB D F h r (i+1) (C.set i (F.getD i z0c)) none).snd)))::(w6.wrap ((↑i:Int)+1)=↑(i+1))::((aB D F h r (i+1) (C.set i (F.getD i z0c)) none).fst.length=((aB D F h r (i+1) (C.set i (F.getD i z0c)) none).fst.set i (Con.mk (F.getD i z0c).exp (F.getD i z0c).dim (-1:Int) (F.getD i z0c).odd (F.getD i z0c).oddity)).length)::rq ((aB D F h r (i+1) (C.set i (F.getD i z0c)) none).fst.set i (Con.mk (F.getD i z0c).exp (F.getD i z0c).dim (-1:Int) (F.getD i z0c).odd (F.getD i z0c).oddity))::rq ((ab (aB D F h r (i+1) (C.set i (F.getD i z0c)) none).snd).length)::(D=D)::rq h.length::(h=h)::rq (2:Int)::(lq F)::rq (ab (aB D F h r (i+1) (C.set i (F.getD i z0c)) none).snd)::(i<(aB D F h r (i+1) (C.set i (F.getD i z0c)) none).fst.length)::((0:Int)≤↑i∧(↑i:Int)<(↑(aB D F h r (i+1) (C.set i (F.getD i z0c)) none).fst.length:Int))::(dr D F h r (i+1) (C.set i (F.getD i z0c)) none)::(w6.wrap ((↑i:Int)+1)=↑(i+1))::(C.length=(C.set i (F.getD i z0c)).length)::rq (C.set i (F.getD i z0c))::(D=D)::rq h.length::(h=h)::rq (2:Int)::(lq F)::ty d2::y2) ?_))
  (fun d1=>oe ((aB D F h r (i+1) (C.set i (F.getD i z0c)) none).snd.isNone) (fun d2=>a8.no ?_)
  (fun d2=>lr (tp 222) (let v1:=r+1;((aB D F h r (i+1) (C.set i (F.getD i z0c)) none).fst.length=(aB D F h v1 i C none).fst.length)::((aB D F h r (i+1) (C.set i (F.getD i z0c)) none).fst=(aB D F h v1 i C none).fst)::((ab (aB D F h r (i+1) (C.set i (F.getD i z0c)) none).snd).length=(ab (aB D F h v1 i C none).snd).length)::(D=D)::rq h.length::(h=h)::rq (2:Int)::(lq F)::(ab (aB D F h r (i+1) (C.set i (F.getD i z0c)) none).snd=ab (aB D F h v1 i C none).snd)::(dr D F h r (i+1) (C.set i (F.getD i z0c)) none)::(w6.wrap ((↑i:Int)+1)=↑(i+1))::(C.length=(C.set i (F.getD i z0c)).length)::rq (C.set i (F.getD i z0c))::(D=D)::rq h.length::(h=h)::rq (2:Int)::(lq F)::ty d2::(i<C.length)::((0:Int)≤↑i∧(↑i:Int)<↑C.length)::((0:Int)≤↑i∧(↑i:Int)<↑F.length)::ty d1::y1) ?_)))
 all_goals with_reducible(repeat' first|exact dA|refine bx ?_ ?_|refine bz ?_|(delta aa;assumption))
 all_goals first|exact JM|(first|exact tz|omega|(rw[dZ];done)|exact HM hc|exact HN hc d2|exact HO hc d2|exact HP hc|(exact wo)|(rw[Bg d1]<;>rfl)|(rw[nW d1,isN d2]<;>rfl)|(rw[nW d1,jW d2]<;>rfl)|(rw[nW d1,nu]<;>rfl))
theorem Vm (D:Int)(F:LC)(h:List Bool)(r i:Nat)(C:LC)(X:LL)(hc:dr D F h (r+1) i C (some X))(ih:∀C o,dr D F h r (i+1) C o→aP Tryz.prog EV.ng (mh D F h r (i+1) C o)):aP Tryz.prog EV.ng (mh D F h (r+1) i C (some X)):=by
 have hcc:=hc
 obtain⟨hc1,hc2,hc3,hc4,hc5,hc6,hc7,hc8⟩:=hcc
 have hz:((i:Int)==(C.length:Int))=false:=cp.2 om
 have hlen:=qk D F h r (i+1) (C.set i (F.getD i z0c)) (some X)
 rw[dZ]at hlen
 have he:=nu D F h r (i+1) (C.set i (F.getD i z0c)) X
 refine cT (cF (cD (Gt ih js) (cm _ _))) Tryz.func75 aE ?_
 intro d hd
 cases d
 ·exact Bool.noConfusion (show false=true from hd)
 ·refine(let y1:List Prop:=[i<h.length,(0:Int)≤↑i∧(↑i:Int)<↑h.length,aa ((↑i:Int)==↑C.length) false];have u1:ar y1:=⟨?_,?_,hz⟩;oe (h.getD i ae.flag.zero) (fun d1=>lr [false,true] (let v1:=r+1;((aB D F h r (i+1) ((aB D F h r (i+1) (C.set i (F.getD i z0c)) (some X)).fst.set i (Con.mk (F.getD i z0c).exp (F.getD i z0c).dim (-1:Int) (F.getD i z0c).odd (F.getD i z0c).oddity)) (some (ab (aB D F h r (i+1) (C.set i (F.getD i z0c)) (some X)).snd))).fst.length=(aB D F h v1 i C (some X)).fst.length)::((aB D F h r (i+1) ((aB D F h r (i+1) (C.set i (F.getD i z0c)) (some X)).fst.set i (Con.mk (F.getD i z0c).exp (F.getD i z0c).dim (-1:Int) (F.getD i z0c).odd (F.getD i z0c).oddity)) (some (ab (aB D F h r (i+1) (C.set i (F.getD i z0c)) (some X)).snd))).fst=(aB D F h v1 i C (some X)).fst)::((ab (aB D F h r (i+1) ((aB D F h r (i+1) (C.set i (F.getD i z0c)) (some X)).fst.set i (Con.mk (F.getD i z0c).exp (F.getD i z0c).dim (-1:Int) (F.getD i z0c).odd (F.getD i z0c).oddity)) (some (ab (aB D F h r (i+1) (C.set i (F.getD i z0c)) (some X)).snd))).snd).length=(ab (aB D F h v1 i C (some X)).snd).length)::(D=D)::rq h.length::(h=h)::rq (2:Int)::(lq F)::(ab (aB D F h r (i+1) ((aB D F h r (i+1) (C.set i (F.getD i z0c)) (some X)).fst.set i (Con.mk (F.getD i z0c).exp (F.getD i z0c).dim (-1:Int) (F.getD i z0c).odd (F.getD i z0c).oddity)) (some (ab (aB D F h r (i+1) (C.set i (F.getD i z0c)) (some X)).snd))).snd=ab (aB D F h v1 i C (some X)).snd)::(dr D F h r (i+1) ((aB D F h r (i+1) (C.set i (F.getD i z0c)) (some X)).fst.set i (Con.mk (F.getD i z0c).exp (F.getD i z0c).dim (-1:Int) (F.getD i z0c).odd (F.getD i z0c).oddity)) (some (ab (aB D F h r (i+1) (C.set i (F.getD i z0c)) (some X)).snd)))::(w6.wrap ((↑i:Int)+1)=↑(i+1))::((aB D F h r (i+1) (C.set i (F.getD i z0c)) (some X)).fst.length=((aB D F h r (i+1) (C.set i (F.getD i z0c)) (some X)).fst.set i (Con.mk (F.getD i z0c).exp (F.getD i z0c).dim (-1:Int) (F.getD i z0c).odd (F.getD i z0c).oddity)).length)::rq ((aB D F h r (i+1) (C.set i (F.getD i z0c)) (some X)).fst.set i (Con.mk (F.getD i z0c).exp (F.getD i z0c).dim (-1:Int) (F.getD i z0c).odd (F.getD i z0c).oddity))::rq ((ab (aB D F h r (i+1) (C.set i (F.getD i z0c)) (some X)).snd).length)::(D=D)::rq h.length::(h=h)::rq (2:Int)::(lq F)::rq (ab (aB D F h r (i+1) (C.set i (F.getD i z0c)) (some X)).snd)::(i<(aB D F h r (i+1) (C.set i (F.getD i z0c)) (some X)).fst.length)::((0:Int)≤↑i∧(↑i:Int)<(↑(aB D F h r (i+1) (C.set i (F.getD i z0c)) (some X)).fst.length:Int))::(dr D F h r (i+1) (C.set i (F.getD i z0c)) (some X))::(w6.wrap ((↑i:Int)+1)=↑(i+1))::(C.length=(C.set i (F.getD i z0c)).length)::rq (C.set i (F.getD i z0c))::rq X.length::(D=D)::rq h.length::(h=h)::rq (2:Int)::(lq F)::(X=X)::(i<C.length)::((0:Int)≤↑i∧(↑i:Int)<↑C.length)::((0:Int)≤↑i∧(↑i:Int)<↑F.length)::ty d1::y1) ?_)
   (fun d1=>lr [false,false] (let v1:=r+1;((aB D F h r (i+1) (C.set i (F.getD i z0c)) (some X)).fst.length=(aB D F h v1 i C (some X)).fst.length)::((aB D F h r (i+1) (C.set i (F.getD i z0c)) (some X)).fst=(aB D F h v1 i C (some X)).fst)::((ab (aB D F h r (i+1) (C.set i (F.getD i z0c)) (some X)).snd).length=(ab (aB D F h v1 i C (some X)).snd).length)::(D=D)::rq h.length::(h=h)::rq (2:Int)::(lq F)::(ab (aB D F h r (i+1) (C.set i (F.getD i z0c)) (some X)).snd=ab (aB D F h v1 i C (some X)).snd)::(dr D F h r (i+1) (C.set i (F.getD i z0c)) (some X))::(w6.wrap ((↑i:Int)+1)=↑(i+1))::(C.length=(C.set i (F.getD i z0c)).length)::rq (C.set i (F.getD i z0c))::rq X.length::(D=D)::rq h.length::(h=h)::rq (2:Int)::(lq F)::(X=X)::(i<C.length)::((0:Int)≤↑i∧(↑i:Int)<↑C.length)::((0:Int)≤↑i∧(↑i:Int)<↑F.length)::ty d1::y1) ?_))
  all_goals with_reducible(repeat' first|exact dA|refine bx ?_ ?_|refine bz ?_|(delta aa;assumption))
  all_goals first|exact JM|(first|exact tz|omega|(rw[dZ];done)|exact HM hc|exact HN hc d2|exact HO hc d2|exact HP hc|(exact wo)|(rw[Bg d1]<;>rfl)|(rw[nW d1,isN d2]<;>rfl)|(rw[nW d1,jW d2]<;>rfl)|(rw[nW d1,he]<;>rfl))
theorem AQ (D:Int)(F:LC)(h:List Bool):∀(r i:Nat)(C:LC)(o:Option LL),dr D F h r i C o→aP Tryz.prog EV.ng (mh D F h r i C o)
 |0,i,C,none,hc=>Vj D F h i C hc
 |0,i,C,some X,hc=>Vk D F h i C X hc
 |r+1,i,C,none,hc=>Vl D F h r i C hc (fun C o k=>AQ D F h r (i+1) C o k)
 |r+1,i,C,some X,hc=>Vm D F h r i C X hc (fun C o k=>AQ D F h r (i+1) C o k)
def tN (rows:List (List Int))(h:List Bool):List Bool:=rows.foldl (fun h r=>h.set (r.getD 0 0).toNat true) h
def eY (F:LC):List Bool:=tN (ao F) (List.replicate F.length false)
def iA (D:Int)(F:LC)(o:Option LL):Option LL:=(aB D F (eY F) F.length 0 F o).2
def rg (D:Int)(o:Option LL)(b:Nat):List (Nat×ag):=[(1000,cN [kD b o] 27),(1001,cN [vi D] 2)]++kE b o
def xb (D:Int)(F:LC)(o:Option LL):cS:=⟨27,[.agg [vi 2,(bg F).av],.ptr 1000 0,.ptr 1001 0],rg D o 1010,1100,(match o with
 |none=>some (iA D F none).isNone
 |some _=>none),fun t=>match o,t with
 |none,true=>(.tup [],rg D none 1150,1900)
 |none,false=>(.tup [],rg D (some (ab (iA D F none))) 1150,1900)
 |some X,_=>(.tup [],rg D (some (ab (iA D F (some X)))) 1150,1900)⟩
def YS:List cq:=[
 ⟨28,[],fun A=>match A with
  |[.agg [.int .i64 p,.sl n 5 row]]=>some (.tup [gb .i64 (ao (aF n row)),.bool true],[(∀i,i<n→row i=(Con.ofR (row i)).rvs)∧bm (aF n row)∧0<n∧en p (aF n row)=true])
  |_=>none⟩]
def eA (F:LC)(k:Nat):List Bool:=tN ((ao F).take k) (List.replicate F.length false)
def Jm (D:Int)(F:LC)(o:Option LL)(h:List Bool):List (Nat×ag):=rg D o 1010++[(1100,cN [vi 2,(bg F).av] 50),(1101,⟨.vals .flag h,4,1,true,true⟩),(1102,cN [.lo 1101 h.length] 77)]
def A9 (D:Int)(F:LC)(o:Option LL)(k:AV)(h:List Bool):St:=⟨[(1,.ptr 1000 0),(2,.ptr 1001 0),(3,.ptr 1100 0),(6,.ptr 1102 0),(19,(gb .i64 (ao F)).av),(20,vi (ao F).length),(21,k)],Jm D F o h,1103⟩
def Jn (D:Int)(F:LC)(o:Option LL):aO:=⟨A9 D F o (.int .i64 0) (List.replicate F.length false),none,fun _=>(.exit 0,⟨[(1,.ptr 1000 0),(2,.ptr 1001 0),(3,.ptr 1100 0),(6,.ptr 1102 0)],Jm D F o (eY F),1103⟩)⟩
theorem zg:∀(rows:List (List Int))(h:List Bool),(tN rows h).length=h.length
 |[],h=>rfl
 |r::rows,h=>by
  show(tN rows (h.set _ true)).length=_
  rw[zg rows,dZ]
theorem qj (F:LC)(k:Nat):(eA F k).length=F.length:=by unfold eA;rw[zg,rB]
theorem Og (F:LC):(eY F).length=F.length:=by unfold eY;rw[zg,rB]
theorem UH {F:LC}{k:Nat}(hk:k<(ao F).length):(eA F k).set (((ao F).getD k []).getD (Int.toNat 0) 0).toNat true=eA F (k+1):=by
 unfold eA tN
 rw[uk hk,rC]
 have e:(ao F).getD k []=(ao F)[k]:=by rw[ev,gS hk];rfl
 rw[e]
 rfl
theorem HB {F:LC}{k:Nat}(hk:k=(ao F).length):eA F k=eY F:=by
 unfold eA eY
 rw[hk,List.take_length]
theorem Xl {F:LC}{k:Nat}(hk:k<(ao F).length):0<((ao F).getD k []).length∧0≤((ao F).getD k []).getD 0 0∧((ao F).getD k []).getD 0 0<(F.length:Int):=by
 obtain⟨h1,h2,h3⟩:=ux _ (iX (P:=ao F) (t:=k) hk)
 have h0:0<(ah (ao F) k).length:=nf.2 h1
 exact⟨h0,h2.at h0⟩
abbrev pG (F:LC):=List.replicate F.length false
theorem Xm (D:Int)(F:LC)(hL:bm F):An 3 Tryz.f27 [0,1,0,1,1,1] (Jn D F none):=by
 refine fj c0 aE (fun(k:Nat)=>(A9 D F none (vi k) (eA F k):St)) (fun(k:Nat)=>((ao F).length-k:Nat)) (fun(k:Nat)=>(k≤(ao F).length:Prop)) ?_ ?_
 ·exact st (0) [sr (ao F) fun i=>[rI IntKind.i64 ((ao F).getD i [])],rq (↑(ao F).length:Int),(0:Int)=↑(0:Nat),D=D,rq (2:Int),lq F,List.replicate F.length false=eA F (0:Nat),(pG F).length=(eA F (0:Nat)).length] (by refine⟨?_,?_,?_,?_,?_,?_,?_,(?_:(pG F).length=(eA F (0:Nat)).length)⟩<;>(first|exact tv|(rw[qj,rB]))) (by exact bQ _)
 ·intro k hI
  have ht:k≤(ao F).length:=hI
  have hl:=hL.1
  have hc:=uz (L:=F)
  have ek:=wk k
  refine oe (decide ((↑k:Int)<(↑(ao F).length:Int))) (fun d1=>aH [true] (k+1) (let v1:=(ao F).getD k [];let v2:=Int.toNat (0:Int);let v3:=(↑(ao F).length:Int);[sr (ao F) fun i=>[rI IntKind.i64 ((ao F).getD i [])],rq v3,w6.wrap ((↑k:Int)+1)=↑(k+1),D=D,rq (2:Int),lq F,(eA F k).set (v1.getD v2 (0:Int)).toNat true=eA F (k+1),(eA F k).length=(eA F (k+1)).length,(v1.getD v2 (0:Int)).toNat<(eA F k).length,(0:Int)≤v1.getD v2 (0:Int)∧v1.getD v2 (0:Int)<(↑(eA F k).length:Int),(0:Int)≤0∧(0:Int)<↑v1.length,(0:Int)≤↑k∧(↑k:Int)<v3,ty d1]) ⟨?_,?_,?_,?_,?_,?_,?_,?_,?_,?_,?_,?_,d1⟩ ?_ ?_)
   (fun d1=>b9 [false] [D=D,rq (2:Int),lq F,eA F k=eY F,(eA F k).length=(eY F).length,ty d1] ⟨?_,?_,?_,?_,?_,d1⟩)
  all_goals first|exact Kf|exact Kv|exact fu|exact KZ
theorem Xn (D:Int)(F:LC)(X:LL)(hL:bm F):An 3 Tryz.f27 [0,1,0,1,1,1] (Jn D F (some X)):=by
 refine fj c0 aE (fun(k:Nat)=>(A9 D F (some X) (vi k) (eA F k):St)) (fun(k:Nat)=>((ao F).length-k:Nat)) (fun(k:Nat)=>(k≤(ao F).length:Prop)) ?_ ?_
 ·exact st (0) [sr (ao F) fun i=>[rI IntKind.i64 ((ao F).getD i [])],rq (↑(ao F).length:Int),(0:Int)=↑(0:Nat),rq X.length,D=D,X=X,rq (2:Int),lq F,List.replicate F.length false=eA F (0:Nat),(pG F).length=(eA F (0:Nat)).length] (by refine⟨?_,?_,?_,?_,?_,?_,?_,?_,?_,(?_:(pG F).length=(eA F (0:Nat)).length)⟩<;>(first|exact tv|(rw[qj,rB]))) (by exact bQ _)
 ·intro k hI
  have ht:k≤(ao F).length:=hI
  have hl:=hL.1
  have hc:=uz (L:=F)
  have ek:=wk k
  refine oe (decide ((↑k:Int)<(↑(ao F).length:Int))) (fun d1=>aH [true] (k+1) (let v1:=(ao F).getD k [];let v2:=Int.toNat (0:Int);let v3:=(↑(ao F).length:Int);[sr (ao F) fun i=>[rI IntKind.i64 ((ao F).getD i [])],rq v3,w6.wrap ((↑k:Int)+1)=↑(k+1),rq X.length,D=D,X=X,rq (2:Int),lq F,(eA F k).set (v1.getD v2 (0:Int)).toNat true=eA F (k+1),(eA F k).length=(eA F (k+1)).length,(v1.getD v2 (0:Int)).toNat<(eA F k).length,(0:Int)≤v1.getD v2 (0:Int)∧v1.getD v2 (0:Int)<(↑(eA F k).length:Int),(0:Int)≤0∧(0:Int)<↑v1.length,(0:Int)≤↑k∧(↑k:Int)<v3,ty d1]) ⟨?_,?_,?_,?_,?_,?_,?_,?_,?_,?_,?_,?_,?_,?_,d1⟩ ?_ ?_)
   (fun d1=>b9 [false] [rq X.length,D=D,X=X,rq (2:Int),lq F,eA F k=eY F,(eA F k).length=(eY F).length,ty d1] ⟨?_,?_,?_,?_,?_,?_,?_,d1⟩)
  all_goals first|exact Kf|exact Kv|exact fu|exact KZ
def lB (D:Int)(F:LC)(o:Option LL):Prop:=ci 2 F=true∧0<F.length∧F.length≤10∧(ab o).length+2^F.length≤100000∧0<D∧D≤2147483647
theorem Sv {D:Int}{F:LC}{o:Option LL}(h:lB D F o):dr D F (eY F) F.length 0 F o:=by
 obtain⟨h1,h2,h3,h4,h5,h6⟩:=h
 exact⟨om,rfl,Og F,h2,h3,h4,h5,h6⟩
def It (D:Int)(F:LC):Nat→List AV→Hs→Option (cS×List Prop):=fun f args H=>bif Nat.beq f 75 then(match args with
 |[_,_,.ptr b1 _,_,_]=>match kO H.m b1 with
  |some (.fn _ [.ptr bl _,_])=>match mV H.m bl with
   |none=>none
   |some o=>some (mh D F (eY F) F.length 0 F o,[dr D F (eY F) F.length 0 F o])
  |_=>none
 |_=>none)else none
theorem E9 (D:Int)(F:LC):∀f args H A ms,It D F f args H=some (A,ms)→(∀q∈ms,q)→aP Tryz.prog EV.ng A:=by
 intro f args H A ms hq hm
 unfold It at hq
 replace hq:=(ay hq).2
 split at hq
 ·split at hq
  ·split at hq
   ·cases hq
   ·cases hq
    exact AQ D F _ _ _ _ _ (aA hm)
  ·cases hq
 ·cases hq
theorem Xo (D:Int)(F:LC)(hc:lB D F none):aP Tryz.prog EV.ng (xb D F none):=by
 have hcc:=hc
 obtain⟨hf,h0,hl,ho,hd1,hd2⟩:=hcc
 have hb:F.length.beq 0=false:=(by cases hq:F.length.beq 0 with
  |false=>rfl
  |true=>have:=co hq;omega)
 have hL:=kj hf
 have k2:en 2 F=true:=BQ
 refine cT (cF (cD (E9 D F) (eE uC))) Tryz.func27 (bX (Xm D F hL)) ?_
 intro d hd
 cases d
 rotate_right
 have hd:((iA D F none).isNone)=true:=hd
 refine oe ((aB D F (eY F) F.length (0:Nat) F none).snd.isNone) (fun d1=>lr [false,true] (let v1:=aF F.length fun i=>(F.getD i z0c).rvs;let v2:=(↑F.length:Int);[D=D,dr D F (eY F) F.length (0:Nat) F none,(0:Int)=↑(0:Nat),rq F.length,v1=F,D=D,rq ((eY F).length),rq (eY F),rq (2:Int),lq F,ty d1,(0:Nat)<F.length∧F.length≤1000000,lz F,aa (F.length.beq (0:Nat)) false,(0:Nat)<F.length,(ao v1).length=(ao F).length∧(fun i=>[rI IntKind.i64 ((ao v1).getD i [])])=fun i=>[rI IntKind.i64 ((ao F).getD i [])],(↑(ao v1).length:Int)=(↑(ao F).length:Int),D=D,rq (2:Int),lq F,List.replicate F.length ae.flag.zero=List.replicate F.length false,F.length=(pG F).length,(0:Int)≤v2∧v2≤1000000∧v2=v2,(lz F)∧bm v1∧(0:Nat)<F.length∧en (2:Int) v1=true]) ⟨?_,?_,?_,?_,?_,?_,?_,?_,?_,?_,d1,?_,?_,hb,?_,?_,?_,?_,?_,?_,?_,?_,?_,(?_:(lz F)∧bm (aF F.length fun i=>(F.getD i z0c).rvs)∧(0:Nat)<F.length∧en (2:Int) (aF F.length fun i=>(F.getD i z0c).rvs)=true)⟩)
  (fun d1=>a8.no ?_)
 rotate_right
 have hd:((iA D F none).isNone)=false:=hd
 refine oe ((aB D F (eY F) F.length (0:Nat) F none).snd.isNone) (fun d1=>a8.no ?_)
  (fun d1=>lr [false,false] (let v1:=aF F.length fun i=>(F.getD i z0c).rvs;let v2:=(↑F.length:Int);let v3:=aB D F (eY F) F.length (0:Nat) F none;[(ab v3.snd).length=(ab (iA D F none)).length,D=D,ab v3.snd=ab (iA D F none),dr D F (eY F) F.length (0:Nat) F none,(0:Int)=↑(0:Nat),rq F.length,v1=F,D=D,rq ((eY F).length),rq (eY F),rq (2:Int),lq F,ty d1,(0:Nat)<F.length∧F.length≤1000000,lz F,aa (F.length.beq (0:Nat)) false,(0:Nat)<F.length,(ao v1).length=(ao F).length∧(fun i=>[rI IntKind.i64 ((ao v1).getD i [])])=fun i=>[rI IntKind.i64 ((ao F).getD i [])],(↑(ao v1).length:Int)=(↑(ao F).length:Int),D=D,rq (2:Int),lq F,List.replicate F.length ae.flag.zero=List.replicate F.length false,F.length=(pG F).length,(0:Int)≤v2∧v2≤1000000∧v2=v2,(lz F)∧bm v1∧(0:Nat)<F.length∧en (2:Int) v1=true]) ⟨?_,?_,?_,?_,?_,?_,?_,?_,?_,?_,?_,?_,d1,?_,?_,hb,?_,?_,?_,?_,?_,?_,?_,?_,?_,(?_:(lz F)∧bm (aF F.length fun i=>(F.getD i z0c).rvs)∧(0:Nat)<F.length∧en (2:Int) (aF F.length fun i=>(F.getD i z0c).rvs)=true)⟩)
 all_goals first|exact JV|exact JL
theorem Xp (D:Int)(F:LC)(X:LL)(hc:lB D F (some X)):aP Tryz.prog EV.ng (xb D F (some X)):=by
 have hcc:=hc
 obtain⟨hf,h0,hl,ho,hd1,hd2⟩:=hcc
 have hb:F.length.beq 0=false:=(by cases hq:F.length.beq 0 with
  |false=>rfl
  |true=>have:=co hq;omega)
 have hL:=kj hf
 have k2:en 2 F=true:=BQ
 refine cT (cF (cD (E9 D F) (eE uC))) Tryz.func27 (bX (Xn D F X hL)) ?_
 intro d hd
 cases d
 ·exact Bool.noConfusion (show false=true from hd)
 ·refine lr [false] (let y1:=aF F.length fun i=>(F.getD i z0c).rvs;let y2:=(↑F.length:Int);let y3:=aB D F (eY F) F.length (0:Nat) F (some X);[(ab y3.snd).length=(ab (iA D F (some X))).length,D=D,ab y3.snd=ab (iA D F (some X)),dr D F (eY F) F.length (0:Nat) F (some X),(0:Int)=↑(0:Nat),rq F.length,y1=F,rq X.length,D=D,rq ((eY F).length),rq (eY F),rq (2:Int),lq F,X=X,(0:Nat)<F.length∧F.length≤1000000,lz F,aa (F.length.beq (0:Nat)) false,(0:Nat)<F.length,(ao y1).length=(ao F).length∧(fun i=>[rI IntKind.i64 ((ao y1).getD i [])])=fun i=>[rI IntKind.i64 ((ao F).getD i [])],(↑(ao y1).length:Int)=(↑(ao F).length:Int),rq X.length,D=D,X=X,rq (2:Int),lq F,List.replicate F.length ae.flag.zero=List.replicate F.length false,F.length=(pG F).length,(0:Int)≤y2∧y2≤1000000∧y2=y2,(lz F)∧bm y1∧(0:Nat)<F.length∧en (2:Int) y1=true]) ⟨?_,?_,?_,?_,?_,?_,?_,?_,?_,?_,?_,?_,?_,?_,?_,?_,hb,?_,?_,?_,?_,?_,?_,?_,?_,?_,?_,?_,(?_:(lz F)∧bm (aF F.length fun i=>(F.getD i z0c).rvs)∧(0:Nat)<F.length∧en (2:Int) (aF F.length fun i=>(F.getD i z0c).rvs)=true)⟩
  all_goals first|exact JV|exact JL
theorem UI (D:Int)(F:LC):∀o:Option LL,lB D F o→aP Tryz.prog EV.ng (xb D F o)
 |none,h=>Xo D F h
 |some X,h=>Xp D F X h
def fD (c:Con)(t:Int):Con:=⟨c.exp,c.dim,c.sign,true,t⟩
def aZ (c:Con):LC:=(bif decide (c.dim%2=0)then [c]else [])++[fD c 0,fD c 1,fD c 2,fD c 3,fD c 4,fD c 5,fD c 6,fD c 7]
theorem UK {c:Con}(h0:0≤c.dim)(h:(c.dim.tmod 2==0)=true):aZ c=[c,fD c 0,fD c 1,fD c 2,fD c 3,fD c 4,fD c 5,fD c 6,fD c 7]:=by
 have:=eq_of_beq h
 rw[iE h0]at this
 unfold aZ
 rw[show decide (c.dim%2=0)=true from bJ this]
 rfl
theorem UL {c:Con}(h0:0≤c.dim)(h:(c.dim.tmod 2==0)=false):aZ c=[fD c 0,fD c 1,fD c 2,fD c 3,fD c 4,fD c 5,fD c 6,fD c 7]:=by
 have:=cp.1 h
 rw[iE h0]at this
 unfold aZ
 rw[show decide (c.dim%2=0)=false from bI this]
 rfl
theorem PO (c:Con):(aZ c).length≤9:=by
 unfold aZ
 cases decide (c.dim%2=0)<;>simp
theorem Jo:w6.wrap ((0:Int)+1)=1:=by decide
theorem Jp:w6.wrap ((1:Int)+1)=2:=by decide
theorem Jq:w6.wrap ((2:Int)+1)=3:=by decide
theorem Jr:w6.wrap ((3:Int)+1)=4:=by decide
theorem Js:w6.wrap ((4:Int)+1)=5:=by decide
theorem Jt:w6.wrap ((5:Int)+1)=6:=by decide
theorem Ju:w6.wrap ((6:Int)+1)=7:=by decide
theorem Jv:w6.wrap ((7:Int)+1)=8:=by decide
theorem UM (c:Con)(h0:0≤c.dim):ax Tryz.prog [] 72 [.agg c.rvs] (bg (aZ c)):=by
 refine pr c0 Tryz.func72 aE ?_
 refine oe (c.dim.tmod (2:Int)==0) (fun d1=>lr [true] (let v1:=w6.wrap (w6.wrap ((0:Int)+1)+1)+1;let v4:=[Con.mk c.exp c.dim c.sign true (w6.wrap ((0:Int)+1))];let v5:=[Con.mk c.exp c.dim c.sign true (0:Int)];let v3:=[Con.mk c.exp c.dim c.sign true (w6.wrap (w6.wrap ((0:Int)+1)+1))];let v8:=w6.wrap (w6.wrap v1+1)+1;let v10:=[Con.mk c.exp c.dim c.sign true (w6.wrap v8)];let v7:=[Con.mk c.exp c.dim c.sign true (w6.wrap v1)];let v6:=[Con.mk c.exp c.dim c.sign true (w6.wrap (w6.wrap v1+1))];let v2:=[c]++v5++v4++v3++v7++v6++v10++[Con.mk c.exp c.dim c.sign true (w6.wrap (w6.wrap v8+1))]++[Con.mk c.exp c.dim c.sign true (w6.wrap (w6.wrap (w6.wrap v8+1)+1))];let v9:=(1000000:Nat);[(1:Nat)+1+1+1+1+1+1+1+1=(aZ c).length∧(1:Nat)+1+1+1+1+1+1+1+1=v2.length∧∀(i:Nat),i<1+1+1+1+1+1+1+1+1→(fun i=>((aZ c).getD i z0c).rvs) i=(v2.getD i z0c).rvs,(b6.con ([c]++v5++v4++v3++v7++v6++v10++[Con.mk c.exp c.dim c.sign true (w6.wrap (w6.wrap v8+1))])).num=1+1+1+1+1+1+1+1∧(1:Nat)+1+1+1+1+1+1+1+1≤v9,(b6.con ([c]++v5++v4++v3++v7++v6++v10)).num=1+1+1+1+1+1+1∧(1:Nat)+1+1+1+1+1+1+1≤v9,(b6.con ([c]++v5++v4++v3++v7++v6)).num=1+1+1+1+1+1∧(1:Nat)+1+1+1+1+1+1≤v9,(b6.con ([c]++v5++v4++v3++v7)).num=1+1+1+1+1∧(1:Nat)+1+1+1+1+1≤v9,(b6.con ([c]++v5++v4++v3)).num=1+1+1+1∧(1:Nat)+1+1+1+1≤v9,(b6.con ([c]++v5++v4)).num=1+1+1∧(1:Nat)+1+1+1≤v9,(b6.con ([c]++v5)).num=1+1∧(1:Nat)+1+1≤v9,(b6.con [c]).num=1∧(1:Nat)+1≤v9,(0:Nat)<1∧(1:Nat)≤v9,ty d1,(2:Int)≠(0:Int)]) ⟨?_,?_,?_,?_,?_,?_,?_,?_,?_,?_,d1,(?_:(2:Int)≠(0:Int))⟩)
  (fun d1=>lr [false] (let v1:=w6.wrap (w6.wrap ((0:Int)+1)+1)+1;let v4:=[Con.mk c.exp c.dim c.sign true (w6.wrap ((0:Int)+1))];let v5:=[Con.mk c.exp c.dim c.sign true (0:Int)];let v3:=[Con.mk c.exp c.dim c.sign true (w6.wrap (w6.wrap ((0:Int)+1)+1))];let v8:=w6.wrap (w6.wrap v1+1)+1;let v10:=[Con.mk c.exp c.dim c.sign true (w6.wrap v8)];let v7:=[Con.mk c.exp c.dim c.sign true (w6.wrap v1)];let v6:=[Con.mk c.exp c.dim c.sign true (w6.wrap (w6.wrap v1+1))];let v2:=v5++v4++v3++v7++v6++v10++[Con.mk c.exp c.dim c.sign true (w6.wrap (w6.wrap v8+1))]++[Con.mk c.exp c.dim c.sign true (w6.wrap (w6.wrap (w6.wrap v8+1)+1))];let v9:=(1000000:Nat);[(1:Nat)+1+1+1+1+1+1+1=(aZ c).length∧(1:Nat)+1+1+1+1+1+1+1=v2.length∧∀(i:Nat),i<1+1+1+1+1+1+1+1→(fun i=>((aZ c).getD i z0c).rvs) i=(v2.getD i z0c).rvs,(b6.con (v5++v4++v3++v7++v6++v10++[Con.mk c.exp c.dim c.sign true (w6.wrap (w6.wrap v8+1))])).num=1+1+1+1+1+1+1∧(1:Nat)+1+1+1+1+1+1+1≤v9,(b6.con (v5++v4++v3++v7++v6++v10)).num=1+1+1+1+1+1∧(1:Nat)+1+1+1+1+1+1≤v9,(b6.con (v5++v4++v3++v7++v6)).num=1+1+1+1+1∧(1:Nat)+1+1+1+1+1≤v9,(b6.con (v5++v4++v3++v7)).num=1+1+1+1∧(1:Nat)+1+1+1+1≤v9,(b6.con (v5++v4++v3)).num=1+1+1∧(1:Nat)+1+1+1≤v9,(b6.con (v5++v4)).num=1+1∧(1:Nat)+1+1≤v9,(b6.con v5).num=1∧(1:Nat)+1≤v9,(0:Nat)<1∧(1:Nat)≤v9,ty d1,(2:Int)≠(0:Int)]) ⟨?_,?_,?_,?_,?_,?_,?_,?_,?_,d1,(?_:(2:Int)≠(0:Int))⟩)
 all_goals first|(first|exact tr|decide|exact⟨rfl,de⟩|(rw[UK h0 d1];simp only[Jo,Jp,Jq,Jr,Js,Jt,Ju,Jv];first|exact⟨rfl,rfl⟩|exact uc|rfl)|(rw[UL h0 d1];simp only[Jo,Jp,Jq,Jr,Js,Jt,Ju,Jv];first|exact⟨rfl,rfl⟩|exact uc|rfl))
def fE (C:LC)(i:Nat)(c:Con):Bool:=c.odd&&(!decide (c.oddity=0)&&(decide (0<i)&&((at_ C (i-1)).odd&&decide (w6.wrap ((at_ C (i-1)).exp+1)=c.exp))))
def gE (D:Int)(C:LC)(o:Option LL):Option LL:=bif ci 2 C then iA D C o else o
def br (D:Int)(S:LC):Nat→Nat→LC×Option LL→LC×Option LL
 |0,_=>fun s=>(s.1,gE D s.1 s.2)
 |r+1,i=>fun s=>(aZ (at_ S i)).foldl (fun s c=>bif fE s.1 i c then s else br D S r (i+1) (s.1.set i c,s.2)) s
def kH (D:Int)(S:LC)(r i:Nat)(s:LC×Option LL)(c:Con):LC×Option LL:=bif fE s.1 i c then s else br D S r (i+1) (s.1.set i c,s.2)
def m7 (D:Int)(S:LC)(r i:Nat)(s:LC×Option LL)(k:Nat):LC×Option LL:=((aZ (at_ S i)).take k).foldl (kH D S r i) s
def j7 (D:Int)(S C:LC)(o:Option LL)(b:Nat):List (Nat×ag):=[(1000,cN [.lo 1001 C.length] 48),(1001,gz C),(1002,cN [.fn 27 [.ptr 1005 0,.ptr 1006 0]] 87),(1003,cN [.lo 1007 S.length] 48),(1004,cN [.fn 70 [.ptr 1000 0,.ptr 1002 0,.ptr 1003 0,.ptr 1004 0]] 45),(1005,cN [kD b o] 27),(1006,cN [vi D] 2),(1007,gz S)]++kE b o
def kI (D:Int)(S:LC)(r i:Nat)(C:LC)(o:Option LL):cS:=⟨70,[vi i,.ptr 1000 0,.ptr 1002 0,.ptr 1003 0,.ptr 1004 0],j7 D S C o 1010,1100,(match o with
 |none=>some (br D S r i (C,none)).2.isNone
 |some _=>none),fun t=>match o,t with
 |none,true=>(.tup [],j7 D S (br D S r i (C,none)).1 none 1150,1900)
 |none,false=>(.tup [],j7 D S (br D S r i (C,none)).1 (some (ab (br D S r i (C,none)).2)) 1150,1900)
 |some X,_=>(.tup [],j7 D S (br D S r i (C,some X)).1 (some (ab (br D S r i (C,some X)).2)) 1150,1900)⟩
def cR (D:Int)(S:LC)(r i:Nat)(C:LC)(o:Option LL):Prop:=i+r=C.length∧S.length=C.length∧0<C.length∧C.length≤10∧(ab (br D S r i (C,o)).2).length≤50000∧(0<D∧D≤2147483647)∧bm S∧∀c∈S,c.oddity=0
def Gd:List cq:=[
 ⟨72,[],fun A=>match A with
  |[.agg [.int .i64 a,.int .i64 b,.int .i64 c,.bool d,.int .i64 e]]=>some (bg (aZ ⟨a,b,c,d,e⟩),[0≤b])
  |_=>none⟩,
 ⟨71,[],fun A=>match A with
  |[.agg [.int .i64 p,.sl n 5 row]]=>some (.bool (ci p (aF n row)),[(∀i,i<n→row i=(Con.ofR (row i)).rvs)∧n≤1000])
  |_=>none⟩]
theorem uG:∀e∈Gd,cJ Tryz.prog e:=by
 intro e he
 simp only[Gd,bC,cU,cY]at he
 rcases he with rfl|rfl
 all_goals
  intro A R ms h hm
  simp only at h
  split at h
  all_goals first|exact kL|cases h
 ·exact UM ⟨_,_,_,_,_⟩ (aA hm)
 ·obtain⟨h1,h2⟩:=aA hm
  exact ax.imp (uy _ _ j9) (.cons (.agg (.cons .same (.cons (.con h1) .nil))) .nil)
def Jw (D:Int)(C:LC):Nat→List AV→Hs→Option (cS×List Prop):=fun f args H=>bif Nat.beq f 27 then(match args with
 |[_,.ptr bl _,_]=>match mV H.m bl with
  |none=>none
  |some o=>some (xb D C o,[lB D C o])
 |_=>none)else none
theorem Ge (D:Int)(C:LC):∀f args H A ms,Jw D C f args H=some (A,ms)→(∀q∈ms,q)→aP Tryz.prog EV.ng A:=by
 intro f args H A ms hq hm
 unfold Jw at hq
 replace hq:=(ay hq).2
 split at hq
 ·split at hq
  ·cases hq
  ·cases hq
   exact UI D C _ (aA hm)
 ·cases hq
theorem Sx (D:Int)(C:LC)(o:Option LL):(ab o).length≤(ab (bh D C o)).length:=by
 unfold bh
 cases iQ 2 C&&dD D 2 C<;>simp[ab]
theorem zN (D:Int)(F:LC)(h:List Bool):∀(r i:Nat)(C:LC)(o:Option LL),(ab o).length≤(ab (aB D F h r i C o).2).length
 |0,i,C,o=>Sx D C o
 |r+1,i,C,o=>by
  unfold aB
  have h1:=zN D F h r (i+1) (C.set i (F.getD i z0c)) o
  cases h.getD i false with
  |true=>
   rw[aU]
   have h3:=zN D F h r (i+1) ((aB D F h r (i+1) (C.set i (F.getD i z0c)) o).1.set i (nV (F.getD i z0c))) (aB D F h r (i+1) (C.set i (F.getD i z0c)) o).2
   omega
  |false=>
   rw[bt]
   exact h1
theorem sP {D:Int}{C:LC}{o:Option LL}(h:ci 2 C=true):gE D C o=iA D C o:=by unfold gE;rw[h];rfl
theorem sQ {D:Int}{C:LC}{o:Option LL}(h:ci 2 C=false):gE D C o=o:=by unfold gE;rw[h];rfl
theorem Gf (D:Int)(C:LC)(o:Option LL):(ab o).length≤(ab (gE D C o)).length:=by
 unfold gE
 cases ci 2 C with
 |true=>exact zN _ _ _ _ _ _ _
 |false=>exact bp _
theorem Gg {D:Int}{S:LC}{i:Nat}{C:LC}{o:Option LL}(h:cR D S 0 i C o)(hf:ci 2 C=true):lB D C o:=by
 obtain⟨h1,h2,h3,h4,h5,h6,h7⟩:=h
 have hg:=Gf D C o
 have h5:(ab (gE D C o)).length≤50000:=h5
 have hp:2^C.length≤2^10:=ze7 om h4
 exact⟨hf,h3,h4,om,h6⟩
theorem UN (D:Int)(S:LC)(i:Nat)(C:LC)(hc:cR D S 0 i C none):aP Tryz.prog EV.ng (kI D S 0 i C none):=by
 have hcc:=hc
 obtain⟨hc1,hc2,hc3,hc4,hc5,hc6,hc7⟩:=hcc
 have hz:((i:Int)==(C.length:Int))=true:=by rw[show i=C.length by omega];exact ey _
 have hb:C.length.beq 0=false:=(by cases hq:C.length.beq 0 with
  |false=>rfl
  |true=>have:=co hq;omega)
 refine cT (cF (FI (g:=27) (cD (Ge D C) (eE uG)))) Tryz.func70 aE ?_
 intro d hd
 cases d
 rotate_right
 have hd:((br D S 0 i (C,none)).2.isNone)=true:=hd
 refine(let y1:List Prop:=[rq C.length,(lz C)∧C.length≤1000,aa ((↑i:Int)==↑C.length) true];have u1:ar y1:=⟨?_,?_,hz⟩;oe (ci (2:Int) (aF C.length fun i=>(C.getD i z0c).rvs)) (fun d1=>oe ((iA D C none).isNone) (fun d2=>lr (tp 111) ((C.length=(br D S (0:Nat) i (C,none)).fst.length)::(C=(br D S (0:Nat) i (C,none)).fst)::rq S.length::(D=D)::(S=S)::(lB D C none)::rq (2:Int)::(C.length=C.length∧(fun i=>ae.con.rvs (C.getD i ae.con.zero))=fun i=>(C.getD i z0c).rvs)::(D=D)::ty d2::rq C.length::((0:Nat)<C.length∧C.length≤1000000)::rq C.length::ty d1::y1) ⟨?_,?_,?_,?_,?_,?_,?_,?_,?_,d2,?_,?_,?_,d1,u1⟩)
  (fun d2=>a8.no ?_))
  (fun d1=>lr [true,false] (let v1:=(br D S (0:Nat) i (C,none));(C.length=v1.fst.length)::(C=v1.fst)::rq S.length::(D=D)::(S=S)::ty d1::y1) ⟨?_,?_,?_,?_,?_,d1,u1⟩))
 rotate_right
 have hd:((br D S 0 i (C,none)).2.isNone)=false:=hd
 refine oe (ci (2:Int) (aF C.length fun i=>(C.getD i z0c).rvs)) (fun d1=>oe ((iA D C none).isNone) (fun d2=>a8.no ?_)
  (fun d2=>lr (tp 112) [C.length=(br D S (0:Nat) i (C,none)).fst.length,C=(br D S (0:Nat) i (C,none)).fst,rq S.length,(ab (iA D C none)).length=(ab (br D S (0:Nat) i (C,none)).snd).length,D=D,S=S,ab (iA D C none)=ab (br D S (0:Nat) i (C,none)).snd,lB D C none,rq (2:Int),C.length=C.length∧(fun i=>ae.con.rvs (C.getD i ae.con.zero))=fun i=>(C.getD i z0c).rvs,D=D,ty d2,rq C.length,(0:Nat)<C.length∧C.length≤1000000,rq C.length,ty d1,rq C.length,(lz C)∧C.length≤1000,aa ((↑i:Int)==↑C.length) true] ⟨?_,?_,?_,?_,?_,?_,?_,?_,?_,?_,?_,d2,?_,?_,?_,d1,?_,?_,hz⟩))
  (fun d1=>a8.no ?_)
 all_goals first|exact JO|(first|exact tv|(have e1:=d1;rw[cb]at e1;first|exact Gg hc e1|(show _=(ab (gE D C none)).length;rw[sP e1];done)|(show _=ab (gE D C none);rw[sP e1];done)|(show _=(ab (gE D C none)).length;rw[sQ e1]<;>rfl)|(show _=ab (gE D C none);rw[sQ e1]<;>rfl))|exact⟨hc3,om⟩|exact⟨fun _ _=>rfl,om⟩)
theorem UO (D:Int)(S:LC)(i:Nat)(C:LC)(X:LL)(hc:cR D S 0 i C (some X)):aP Tryz.prog EV.ng (kI D S 0 i C (some X)):=by
 have hcc:=hc
 obtain⟨hc1,hc2,hc3,hc4,hc5,hc6,hc7⟩:=hcc
 have hz:((i:Int)==(C.length:Int))=true:=by rw[show i=C.length by omega];exact ey _
 have hb:C.length.beq 0=false:=(by cases hq:C.length.beq 0 with
  |false=>rfl
  |true=>have:=co hq;omega)
 refine cT (cF (FI (g:=27) (cD (Ge D C) (eE uG)))) Tryz.func70 aE ?_
 intro d hd
 cases d
 ·exact Bool.noConfusion (show false=true from hd)
 ·refine(let y1:List Prop:=[rq C.length,(lz C)∧C.length≤1000,aa ((↑i:Int)==↑C.length) true];have u1:ar y1:=⟨?_,?_,hz⟩;oe (ci (2:Int) (aF C.length fun i=>(C.getD i z0c).rvs)) (fun d1=>lr [true,true] ((C.length=(br D S (0:Nat) i (C,some X)).fst.length)::(C=(br D S (0:Nat) i (C,some X)).fst)::rq S.length::((ab (iA D C (some X))).length=(ab (br D S (0:Nat) i (C,some X)).snd).length)::(D=D)::(S=S)::(ab (iA D C (some X))=ab (br D S (0:Nat) i (C,some X)).snd)::(lB D C (some X))::rq (2:Int)::(C.length=C.length∧(fun i=>ae.con.rvs (C.getD i ae.con.zero))=fun i=>(C.getD i z0c).rvs)::rq X.length::(D=D)::(X=X)::rq C.length::((0:Nat)<C.length∧C.length≤1000000)::rq C.length::ty d1::y1) ⟨?_,?_,?_,?_,?_,?_,?_,?_,?_,?_,?_,?_,?_,?_,?_,?_,d1,u1⟩)
   (fun d1=>lr [true,false] (let v1:=(br D S (0:Nat) i (C,some X));(C.length=v1.fst.length)::(C=v1.fst)::rq S.length::(X.length=(ab v1.snd).length)::(D=D)::(S=S)::(X=ab v1.snd)::ty d1::y1) ⟨?_,?_,?_,?_,?_,?_,?_,d1,u1⟩))
  all_goals first|exact JO|(first|exact tv|(have e1:=d1;rw[cb]at e1;first|exact Gg hc e1|(show _=(ab (gE D C (some X))).length;rw[sP e1];done)|(show _=ab (gE D C (some X));rw[sP e1];done)|(show _=(ab (gE D C (some X))).length;rw[sQ e1]<;>rfl)|(show _=ab (gE D C (some X));rw[sQ e1]<;>rfl))|exact⟨hc3,om⟩|exact⟨fun _ _=>rfl,om⟩)
def rc (S:LC)(i:Nat)(k:AV):List (Nat×AV):=[(0,vi i),(1,.ptr 1000 0),(2,.ptr 1002 0),(3,.ptr 1003 0),(4,.ptr 1004 0),(27,(bg (aZ (at_ S i))).av),(28,vi (aZ (at_ S i)).length),(29,k)]
def Xc (D:Int)(S:LC)(i:Nat):Nat×LC×Option LL→St
 |(k,C,none)=>⟨rc S i (vi k),j7 D S C none 1010,1300⟩
 |(k,C,some X)=>⟨rc S i (vi k),j7 D S C (some X) 1210,1300⟩
def Xd (D:Int)(S:LC)(i:Nat):Nat×LC×LL×Bool→St
 |(k,C,X,false)=>⟨rc S i (vi k),j7 D S C (some X) 1010,1300⟩
 |(k,C,X,true)=>⟨rc S i (vi k),j7 D S C (some X) 1210,1300⟩
def Xe (D:Int)(S:LC)(r i:Nat)(C:LC):aO:=⟨⟨rc S i (.int .i64 0),j7 D S C none 1010,1200⟩,some (br D S (r+1) i (C,none)).2.isNone,fun d=>match d with
 |true=>(.exit 0,⟨[],j7 D S (br D S (r+1) i (C,none)).1 none 1010,1300⟩)
 |false=>(.exit 0,⟨[],j7 D S (br D S (r+1) i (C,none)).1 (some (ab (br D S (r+1) i (C,none)).2)) 1210,1300⟩)⟩
def Jj (D:Int)(S:LC)(r i:Nat):Nat→List AV→Hs→Option (cS×List Prop):=fun f args H=>bif Nat.beq f 70 then(match args with
 |[_,.ptr b0 _,.ptr b1 _,_,_]=>match Bf H.m b0 with
  |none=>none
  |some C=>match kO H.m b1 with
   |some (.fn _ [.ptr bl _,_])=>match mV H.m bl with
    |none=>none
    |some o=>some (kI D S r (i+1) C o,[cR D S r (i+1) C o])
   |_=>none
 |_=>none)else none
theorem F2 {D:Int}{S:LC}{r i:Nat}(ih:∀C o,cR D S r (i+1) C o→aP Tryz.prog EV.ng (kI D S r (i+1) C o)):∀f args H A ms,Jj D S r i f args H=some (A,ms)→(∀q∈ms,q)→aP Tryz.prog EV.ng A:=by
 intro f args H A ms hq hm
 unfold Jj at hq
 replace hq:=(ay hq).2
 split at hq
 ·split at hq
  ·cases hq
  ·split at hq
   ·split at hq
    ·cases hq
    ·cases hq
     exact ih _ _ (aA hm)
   ·cases hq
 ·cases hq
theorem zd (D:Int)(S:LC):∀(r i:Nat)(s:LC×Option LL),(br D S r i s).1.length=s.1.length
 |0,i,s=>rfl
 |r+1,i,s=>by
  show((aZ (at_ S i)).foldl (kH D S r i) s).1.length=_
  generalize aZ (at_ S i)=l
  induction l generalizing s with
  |nil=>rfl
  |cons c l ih=>
   rw[oA,ih]
   unfold kH
   cases fE s.1 i c with
   |true=>rfl
   |false=>rw[bt,zd D S r (i+1)];exact dZ
theorem ze {D:Int}{S:LC}{r i:Nat}(h:∀s,(ab s.2).length≤(ab (br D S r (i+1) s).2).length):∀(l:LC)(s:LC×Option LL),(ab s.2).length≤(ab (l.foldl (kH D S r i) s).2).length
 |[],s=>bp _
 |c::l,s=>by
  rw[oA]
  refine cl ?_ (ze h l _)
  unfold kH
  cases fE s.1 i c with
  |true=>exact bp _
  |false=>exact h (s.1.set i c,s.2)
theorem zA (D:Int)(S:LC):∀(r i:Nat)(s:LC×Option LL),(ab s.2).length≤(ab (br D S r i s).2).length
 |0,i,s=>Gf D s.1 s.2
 |r+1,i,s=>ze (fun s=>zA D S r (i+1) s) (aZ (at_ S i)) s
theorem Hh {D:Int}{S:LC}{r i k:Nat}{s:LC×Option LL}(hk:k<(aZ (at_ S i)).length):m7 D S r i s (k+1)=kH D S r i (m7 D S r i s k) ((aZ (at_ S i)).getD k z0c):=by
 unfold m7
 rw[uk hk,rC,ev,gS hk]
 rfl
theorem Ua {D:Int}{S:LC}{r i k:Nat}{s:LC×Option LL}(hk:(aZ (at_ S i)).length≤k):m7 D S r i s k=br D S (r+1) i s:=by
 unfold m7
 rw[iS hk]
 rfl
theorem Sd {D:Int}{S:LC}{r i k:Nat}{s:LC×Option LL}:(ab (m7 D S r i s k).2).length≤(ab (br D S (r+1) i s).2).length:=by
 have e:br D S (r+1) i s=((aZ (at_ S i)).drop k).foldl (kH D S r i) (m7 D S r i s k):=by
  unfold m7
  rw[←rC,ou]
  rfl
 rw[e]
 exact ze (fun s=>zA D S r (i+1) s) _ _
theorem Oa (D:Int)(C:LC)(X:LL):gE D C (some X)=some (ab (gE D C (some X))):=by
 unfold gE
 cases ci 2 C with
 |true=>exact nu D C _ _ _ _ X
 |false=>rfl
theorem yE (D:Int)(S:LC):∀(r i:Nat)(C:LC)(X:LL),(br D S r i (C,some X)).2=some (ab (br D S r i (C,some X)).2)
 |0,i,C,X=>Oa D C X
 |r+1,i,C,X=>by
  show((aZ (at_ S i)).foldl (kH D S r i) (C,some X)).2=some (ab ((aZ (at_ S i)).foldl (kH D S r i) (C,some X)).2)
  generalize aZ (at_ S i)=l
  induction l generalizing C X with
  |nil=>rfl
  |cons c l ih=>
   rw[oA]
   unfold kH
   cases fE C i c with
   |true=>exact ih C X
   |false=>
    simp only[bt]
    have h:=yE D S r (i+1) (C.set i c) X
    have e:br D S r (i+1) (C.set i c,some X)=((br D S r (i+1) (C.set i c,some X)).1,some (ab (br D S r (i+1) (C.set i c,some X)).2)):=by rw[←h]
    rw[e]
    exact ih _ _
theorem w8 {i:Nat}(h:0<i)(hb:i≤10):(w6.wrap ((i:Int)-1)).toNat=i-1:=by rw[wo];omega
theorem Ub {C:LC}{i:Nat}{c:Con}(h:c.odd=false):fE C i c=false:=by unfold fE;rw[h];rfl
theorem Hi {C:LC}{i:Nat}{c:Con}(h:(c.oddity==0)=true):fE C i c=false:=by unfold fE;rw[eq_of_beq h];simp
theorem Uc {C:LC}{i:Nat}{c:Con}(h:decide ((i:Int)>0)=false):fE C i c=false:=by
 have:=oF h
 unfold fE;rw[show decide (0<i)=false from bI om];simp
theorem Ud {C:LC}{i:Nat}{c:Con}(hb:i≤10)(h0:decide ((i:Int)>0)=true)(h:(C.getD (w6.wrap ((i:Int)-1)).toNat z0c).odd=false):fE C i c=false:=by
 have:=oT h0
 rw[w8 om hb]at h
 have h:(at_ C (i-1)).odd=false:=h
 unfold fE;rw[h];simp
theorem Ue {C:LC}{i:Nat}{c:Con}(hb:i≤10)(h0:decide ((i:Int)>0)=true)(h:(w6.wrap ((C.getD (w6.wrap ((i:Int)-1)).toNat z0c).exp+1)==c.exp)=false):fE C i c=false:=by
 have:=oT h0
 rw[w8 om hb]at h
 have h:(w6.wrap ((at_ C (i-1)).exp+1)==c.exp)=false:=h
 unfold fE;rw[show decide (w6.wrap ((at_ C (i-1)).exp+1)=c.exp)=false from bI (cp.1 h)];simp
theorem Ay {C:LC}{i:Nat}{c:Con}(hb:i≤10)(h1:c.odd=true)(h2:(c.oddity==0)=false)(h0:decide ((i:Int)>0)=true)(h4:(C.getD (w6.wrap ((i:Int)-1)).toNat z0c).odd=true)(h:(w6.wrap ((C.getD (w6.wrap ((i:Int)-1)).toNat z0c).exp+1)==c.exp)=true):fE C i c=true:=by
 have:=oT h0
 rw[w8 om hb]at h h4
 have h:(w6.wrap ((at_ C (i-1)).exp+1)==c.exp)=true:=h
 have h4:(at_ C (i-1)).odd=true:=h4
 unfold fE;rw[h1,h4,show decide (c.oddity=0)=false from bI (cp.1 h2),show decide (0<i)=true from bJ om,show decide (w6.wrap ((at_ C (i-1)).exp+1)=c.exp)=true from bJ (eq_of_beq h)];rfl
theorem Pz (c:Con):0<(aZ c).length:=by
 unfold aZ
 cases decide (c.dim%2=0)<;>simp
theorem Ug {c:Con}(h:c.oddity=0):((aZ c).getD 0 z0c).oddity=0:=by
 unfold aZ
 cases decide (c.dim%2=0)with
 |true=>exact h
 |false=>rfl
theorem Se {S:LC}{i:Nat}(hi:i<S.length):at_ S i∈S:=by
 have:at_ S i=S[i]:=by simp[at_,hi]
 rw[this];exact jF hi
def iy (D:Int)(S:LC)(r i:Nat)(C:LC)(o:Option LL)(k:Nat)(C1:LC)(o1:Option LL):Prop:=k≤(aZ (at_ S i)).length∧m7 D S r i (C,o) k=(C1,o1)∧cR D S (r+1) i C o∧C1.length=C.length
section
variable {D:Int}{S:LC}{r i:Nat}{C:LC}{o:Option LL}{k:Nat}{C1:LC}{o1:Option LL}
theorem Hj (hc:cR D S (r+1) i C o):iy D S r i C o 0 C o:=⟨bQ _,rfl,hc,rfl⟩
theorem Hk (hI:iy D S r i C o k C1 o1):i≤10∧i<C1.length∧k≤9∧C1.length≤10:=by
 obtain⟨h1,h2,⟨h3,h4,h5,h6,h7,h8,h9⟩,h10⟩:=hI
 have:=PO (at_ S i)
 omega
theorem DY (hI:iy D S r i C o k C1 o1)(hk:k<(aZ (at_ S i)).length)(hb:fE C1 i ((aZ (at_ S i)).getD k z0c)=true):iy D S r i C o (k+1) C1 o1:=by
 obtain⟨h1,h2,h3,h4⟩:=hI
 exact⟨hk,by rw[Hh hk,h2];unfold kH;rw[hb];rfl,h3,h4⟩
theorem uO (hI:iy D S r i C o k C1 o1)(hk:k<(aZ (at_ S i)).length)(hb:fE C1 i ((aZ (at_ S i)).getD k z0c)=false):iy D S r i C o (k+1) (br D S r (i+1) (C1.set i ((aZ (at_ S i)).getD k z0c),o1)).1 (br D S r (i+1) (C1.set i ((aZ (at_ S i)).getD k z0c),o1)).2:=by
 obtain⟨h1,h2,h3,h4⟩:=hI
 exact⟨hk,by rw[Hh hk,h2];unfold kH;rw[hb];rfl,h3,by rw[zd,dZ];exact h4⟩
theorem Sf (hI:iy D S r i C o k C1 o1)(hk:k<(aZ (at_ S i)).length)(hb:fE C1 i ((aZ (at_ S i)).getD k z0c)=false):cR D S r (i+1) (C1.set i ((aZ (at_ S i)).getD k z0c)) o1:=by
 have hI':=uO hI hk hb
 obtain⟨h1,h2,⟨h3,h4,h5,h6,h7,h8,h9⟩,h10⟩:=hI
 have hg:=Sd (D:=D) (S:=S) (r:=r) (i:=i) (k:=k+1) (s:=(C,o))
 rw[hI'.2.1]at hg
 unfold cR
 rw[dZ]
 exact⟨om,om,om,om,cl hg h7,h8,h9⟩
theorem Az (hI:iy D S r i C o k C1 o1)(hk:¬k<(aZ (at_ S i)).length):br D S (r+1) i (C,o)=(C1,o1):=by
 obtain⟨h1,h2,h3⟩:=hI
 rw[←Ua (k:=k) om]
 exact h2
theorem Uh (hI:iy D S r i C o k C1 o1)(hk:k<(aZ (at_ S i)).length)(hb:fE C1 i ((aZ (at_ S i)).getD k z0c)=false)(hn:(br D S r (i+1) (C1.set i ((aZ (at_ S i)).getD k z0c),o1)).2.isNone=true):iy D S r i C o (k+1) (br D S r (i+1) (C1.set i ((aZ (at_ S i)).getD k z0c),o1)).1 none:=by
 have:=uO hI hk hb
 rw[isN hn]at this
 exact this
theorem Ui (hI:iy D S r i C o k C1 o1)(hk:k<(aZ (at_ S i)).length)(hb:fE C1 i ((aZ (at_ S i)).getD k z0c)=false)(hn:(br D S r (i+1) (C1.set i ((aZ (at_ S i)).getD k z0c),o1)).2.isNone=false):iy D S r i C o (k+1) (br D S r (i+1) (C1.set i ((aZ (at_ S i)).getD k z0c),o1)).1 (some (ab (br D S r (i+1) (C1.set i ((aZ (at_ S i)).getD k z0c),o1)).2)):=by
 have:=uO hI hk hb
 rw[jW hn]at this
 exact this
theorem Hl {X:LL}(hI:iy D S r i C o k C1 (some X))(hk:k<(aZ (at_ S i)).length)(hb:fE C1 i ((aZ (at_ S i)).getD k z0c)=false):iy D S r i C o (k+1) (br D S r (i+1) (C1.set i ((aZ (at_ S i)).getD k z0c),some X)).1 (some (ab (br D S r (i+1) (C1.set i ((aZ (at_ S i)).getD k z0c),some X)).2)):=by
 have:=uO hI hk hb
 rw[yE]at this
 exact this
theorem Sh (hI:iy D S r i C o 0 C1 o1):fE C1 i ((aZ (at_ S i)).getD 0 z0c)=false:=by
 obtain⟨h1,h2,⟨h3,h4,h5,h6,h7,h8,h9,h10⟩,h11⟩:=hI
 exact Hi (by rw[Ug (h10 _ (Se om))];rfl)
end
def Xf (D:Int)(S:LC)(r i:Nat)(C:LC)(X:LL):aO:=⟨⟨rc S i (.int .i64 0),j7 D S C (some X) 1010,1200⟩,none,fun _=>(.exit 0,⟨[],j7 D S (br D S (r+1) i (C,some X)).1 (some (ab (br D S (r+1) i (C,some X)).2)) 1210,1300⟩)⟩
set_option maxHeartbeats 4000000 in
abbrev w9 (D:Int)(S:LC)(r:Nat)(i:Nat)(C1:LC)(k:Nat)(X:LL):=br D S r (i+1) (C1.set i ((aZ (at_ S i)).getD k z0c),some X)
abbrev gC (D:Int)(S:LC)(r:Nat)(i:Nat)(C1:LC)(k:Nat):=br D S r (i+1) (C1.set i ((aZ (at_ S i)).getD k z0c),none)
abbrev dv (S:LC)(i:Nat)(k:Nat):=(aZ (at_ S i)).getD k z0c
abbrev mZ (k:Nat)(D:Int)(S:LC)(r:Nat)(i:Nat)(C1:LC)(X:LL):=(k+1,(w9 D S r i C1 k X).1,some (ab (w9 D S r i C1 k X).2))
abbrev m5 (k:Nat)(D:Int)(S:LC)(r:Nat)(i:Nat)(C1:LC):=(k+1,(gC D S r i C1 k).1,some (ab (gC D S r i C1 k).2))
theorem Uj (D:Int)(S:LC)(r i:Nat)(C:LC)(hc:cR D S (r+1) i C none)(ih:∀C o,cR D S r (i+1) C o→aP Tryz.prog EV.ng (kI D S r (i+1) C o)):An 5 Tryz.f70 [0,1,1] (Xe D S r i C):=by
 refine iB (cF (cD (F2 ih) (cm _ _))) aE (Xc D S i) (fun q=>(aZ (at_ S i)).length-q.1) (fun _ q=>iy D S r i C none q.1 q.2.1 q.2.2) ?_ ?_
 ·intro d hd
  exact st (0,C,none) (let t1:=aZ (at_ S i);[rq (↑i:Int),lq t1,rq (↑t1.length:Int),(0:Int)=↑(0:Nat),rq C.length,C=C,rq S.length,D=D,S=S]) (by refine⟨?_,?_,?_,?_,?_,?_,?_,?_,(?_:S=S)⟩<;>(first|exact tv)) (by exact Hj hc)
 ·rintro d hd ⟨k,C1,o⟩ hI
  have hj:=Hk hI
  simp only at hj
  obtain⟨hi1,hi2,hi3,hi4⟩:=hj
  have ek:=wk k
  have ei:=wk i
  rcases o with _|X
  rotate_right
  refine(let q1:List Prop→List Prop:=fun l0=>(let v2:=aZ (at_ S i);let v1:=(br D S r (i+1) (C1.set i (v2.getD k z0c),some X));let v3:=C1.set i (v2.getD k z0c);rq (↑i:Int)::(lq v2)::rq (↑v2.length:Int)::(w6.wrap ((↑k:Int)+1)=↑(k+1))::rq (v1.fst.length)::rq (v1.fst)::rq S.length::rq ((ab v1.snd).length)::(D=D)::(S=S)::rq (ab v1.snd)::(cR D S r (i+1) v3 (some X))::(w6.wrap ((↑i:Int)+1)=↑(i+1))::(C1.length=v3.length)::rq v3::rq S.length::rq X.length::(D=D)::(S=S)::(X=X)::(i<C1.length)::((0:Int)≤↑i∧(↑i:Int)<↑C1.length)::l0);oe (decide ((↑k:Int)<(↑(aZ (at_ S i)).length:Int))) (fun d1=>let y1:List Prop:=[(0:Int)≤↑k∧(↑k:Int)<(↑(aZ (at_ S i)).length:Int),ty d1];have u1:ar y1:=⟨?_,d1⟩;oe (decide ((↑i:Int)>0)) (fun d2=>let y2:List Prop:=(let v1:=(↑i:Int)-1;((w6.wrap v1).toNat<C1.length)::((0:Int)≤w6.wrap v1∧w6.wrap v1<↑C1.length)::ty d2::y1);have u2:ar y2:=⟨?_,?_,d2,u1⟩;oe ((C1.getD (w6.wrap ((↑i:Int)-1)).toNat z0c).odd) (fun d3=>let y3:List Prop:=(let v1:=(↑i:Int)-1;((w6.wrap v1).toNat<C1.length)::((0:Int)≤w6.wrap v1∧w6.wrap v1<↑C1.length)::ty d3::y2);have u3:ar y3:=⟨?_,?_,d3,u2⟩;oe ((dv S i k).odd) (fun d4=>oe ((dv S i k).oddity==0) (fun d5=>aH (tp 11112) (mZ k D S r i C1 X) (q1 (ty (dN d5)::ty d4::y3)) ?_ ?_ ?_)
   (fun d5=>oe (w6.wrap ((C1.getD (w6.wrap ((↑i:Int)-1)).toNat z0c).exp+1)==(dv S i k).exp) (fun d6=>aH (tp 111111) (k+1,C1,some X) (let v1:=aZ (at_ S i);rq (↑i:Int)::(lq v1)::rq (↑v1.length:Int)::(w6.wrap ((↑k:Int)+1)=↑(k+1))::rq C1.length::(C1=C1)::rq S.length::rq X.length::(D=D)::(S=S)::(X=X)::ty d6::ty (dN d5)::ty d4::y3) ?_ ?_ ?_)
   (fun d6=>aH (tp 111112) (mZ k D S r i C1 X) (q1 (ty d6::ty (dN d5)::ty d4::y3)) ?_ ?_ ?_)))
   (fun d4=>aH (tp 1112) (mZ k D S r i C1 X) (q1 (ty d4::y3)) ?_ ?_ ?_))
   (fun d3=>oe ((dv S i k).odd) (fun d4=>oe ((dv S i k).oddity==0) (fun d5=>aH (tp 11212) (mZ k D S r i C1 X) (q1 (ty (dN d5)::ty d4::ty d3::y2)) ?_ ?_ ?_)
   (fun d5=>aH (tp 11211) (mZ k D S r i C1 X) (q1 (ty (dN d5)::ty d4::ty d3::y2)) ?_ ?_ ?_))
   (fun d4=>aH (tp 1122) (mZ k D S r i C1 X) (q1 (ty d4::ty d3::y2)) ?_ ?_ ?_)))
   (fun d2=>oe ((dv S i k).odd) (fun d3=>oe ((dv S i k).oddity==0) (fun d4=>aH (tp 1212) (mZ k D S r i C1 X) (q1 (ty (dN d4)::ty d3::ty d2::y1)) ?_ ?_ ?_)
   (fun d4=>aH (tp 1211) (mZ k D S r i C1 X) (q1 (ty (dN d4)::ty d3::ty d2::y1)) ?_ ?_ ?_))
   (fun d3=>aH (tp 122) (mZ k D S r i C1 X) (q1 (ty d3::ty d2::y1)) ?_ ?_ ?_)))
   (fun d1=>bH d false [false] (let v1:=(br D S (r+1) i (C,none));[C1.length=v1.fst.length,C1=v1.fst,rq S.length,X.length=(ab v1.snd).length,D=D,S=S,X=ab v1.snd,ty d1]) ⟨?_,?_,?_,?_,?_,?_,?_,d1⟩ ?_))
  all_goals with_reducible repeat' first|exact dA|refine bx ?_ ?_|refine bz ?_
  rotate_right
  refine(let q1:List Prop→List Prop:=fun l0=>(let v1:=aZ (at_ S i);let v2:=(br D S r (i+1) (C1.set i (v1.getD k z0c),none));rq (↑i:Int)::(lq v1)::rq (↑v1.length:Int)::(w6.wrap ((↑k:Int)+1)=↑(k+1))::rq (v2.fst.length)::rq (v2.fst)::rq S.length::l0);oe (decide ((↑k:Int)<(↑(aZ (at_ S i)).length:Int))) (fun d1=>let y1:List Prop:=[(0:Int)≤↑k∧(↑k:Int)<(↑(aZ (at_ S i)).length:Int),ty d1];have u1:ar y1:=⟨?_,d1⟩;oe (decide ((↑i:Int)>0)) (fun d2=>let y2:List Prop:=(let v1:=(↑i:Int)-1;((w6.wrap v1).toNat<C1.length)::((0:Int)≤w6.wrap v1∧w6.wrap v1<↑C1.length)::ty d2::y1);have u2:ar y2:=⟨?_,?_,d2,u1⟩;oe ((C1.getD (w6.wrap ((↑i:Int)-1)).toNat z0c).odd) (fun d3=>let y3:List Prop:=(let v1:=(↑i:Int)-1;((w6.wrap v1).toNat<C1.length)::((0:Int)≤w6.wrap v1∧w6.wrap v1<↑C1.length)::ty d3::y2);have u3:ar y3:=⟨?_,?_,d3,u2⟩;oe ((dv S i k).odd) (fun d4=>oe ((dv S i k).oddity==0) (fun d5=>let y4:List Prop:=(i<C1.length)::((0:Int)≤↑i∧(↑i:Int)<↑C1.length)::ty (dN d5)::ty d4::y3;have u4:ar y4:=⟨?_,?_,(dN d5),d4,u3⟩;oe ((gC D S r i C1 k).snd.isNone) (fun d6=>aH (tp 111121) (k+1,(gC D S r i C1 k).1,none) (q1 (let v1:=C1.set i (dv S i k);(D=D)::(S=S)::(cR D S r (i+1) v1 none)::(w6.wrap ((↑i:Int)+1)=↑(i+1))::(C1.length=v1.length)::rq v1::rq S.length::(D=D)::(S=S)::ty d6::y4)) ?_ ?_ ?_)
   (fun d6=>aH (tp 111122) (m5 k D S r i C1) (q1 (let v1:=(aZ (at_ S i)).getD k z0c;let v2:=(ab (br D S r (i+1) (C1.set i v1,none)).snd);rq (v2.length)::(D=D)::(S=S)::rq v2::(cR D S r (i+1) (C1.set i v1) none)::(w6.wrap ((↑i:Int)+1)=↑(i+1))::(C1.length=(C1.set i v1).length)::rq (C1.set i v1)::rq S.length::(D=D)::(S=S)::ty d6::y4)) ?_ ?_ ?_))
   (fun d5=>oe (w6.wrap ((C1.getD (w6.wrap ((↑i:Int)-1)).toNat z0c).exp+1)==(dv S i k).exp) (fun d6=>aH (tp 111111) (k+1,C1,none) (let v1:=aZ (at_ S i);rq (↑i:Int)::(lq v1)::rq (↑v1.length:Int)::(w6.wrap ((↑k:Int)+1)=↑(k+1))::rq C1.length::(C1=C1)::rq S.length::(D=D)::(S=S)::ty d6::ty (dN d5)::ty d4::y3) ?_ ?_ ?_)
   (fun d6=>let y4:List Prop:=(i<C1.length)::((0:Int)≤↑i∧(↑i:Int)<↑C1.length)::ty d6::ty (dN d5)::ty d4::y3;have u4:ar y4:=⟨?_,?_,d6,(dN d5),d4,u3⟩;oe ((gC D S r i C1 k).snd.isNone) (fun d7=>aH (tp 1111121) (k+1,(gC D S r i C1 k).1,none) (q1 (let v1:=C1.set i (dv S i k);(D=D)::(S=S)::(cR D S r (i+1) v1 none)::(w6.wrap ((↑i:Int)+1)=↑(i+1))::(C1.length=v1.length)::rq v1::rq S.length::(D=D)::(S=S)::ty d7::y4)) ?_ ?_ ?_)
   (fun d7=>aH (tp 1111122) (m5 k D S r i C1) (q1 (let v1:=(aZ (at_ S i)).getD k z0c;let v2:=(ab (br D S r (i+1) (C1.set i v1,none)).snd);rq (v2.length)::(D=D)::(S=S)::rq v2::(cR D S r (i+1) (C1.set i v1) none)::(w6.wrap ((↑i:Int)+1)=↑(i+1))::(C1.length=(C1.set i v1).length)::rq (C1.set i v1)::rq S.length::(D=D)::(S=S)::ty d7::y4)) ?_ ?_ ?_))))
   (fun d4=>let y4:List Prop:=(i<C1.length)::((0:Int)≤↑i∧(↑i:Int)<↑C1.length)::ty d4::y3;have u4:ar y4:=⟨?_,?_,d4,u3⟩;oe ((gC D S r i C1 k).snd.isNone) (fun d5=>aH (tp 11121) (k+1,(gC D S r i C1 k).1,none) (q1 (let v1:=C1.set i (dv S i k);(D=D)::(S=S)::(cR D S r (i+1) v1 none)::(w6.wrap ((↑i:Int)+1)=↑(i+1))::(C1.length=v1.length)::rq v1::rq S.length::(D=D)::(S=S)::ty d5::y4)) ?_ ?_ ?_)
   (fun d5=>aH (tp 11122) (m5 k D S r i C1) (q1 (let v1:=(aZ (at_ S i)).getD k z0c;let v2:=(ab (br D S r (i+1) (C1.set i v1,none)).snd);rq (v2.length)::(D=D)::(S=S)::rq v2::(cR D S r (i+1) (C1.set i v1) none)::(w6.wrap ((↑i:Int)+1)=↑(i+1))::(C1.length=(C1.set i v1).length)::rq (C1.set i v1)::rq S.length::(D=D)::(S=S)::ty d5::y4)) ?_ ?_ ?_)))
   (fun d3=>oe ((dv S i k).odd) (fun d4=>oe ((dv S i k).oddity==0) (fun d5=>let y3:List Prop:=(i<C1.length)::((0:Int)≤↑i∧(↑i:Int)<↑C1.length)::ty (dN d5)::ty d4::ty d3::y2;have u3:ar y3:=⟨?_,?_,(dN d5),d4,d3,u2⟩;oe ((gC D S r i C1 k).snd.isNone) (fun d6=>aH (tp 112121) (k+1,(gC D S r i C1 k).1,none) (q1 (let v1:=C1.set i (dv S i k);(D=D)::(S=S)::(cR D S r (i+1) v1 none)::(w6.wrap ((↑i:Int)+1)=↑(i+1))::(C1.length=v1.length)::rq v1::rq S.length::(D=D)::(S=S)::ty d6::y3)) ?_ ?_ ?_)
   (fun d6=>aH (tp 112122) (m5 k D S r i C1) (q1 (let v1:=(aZ (at_ S i)).getD k z0c;let v2:=(ab (br D S r (i+1) (C1.set i v1,none)).snd);rq (v2.length)::(D=D)::(S=S)::rq v2::(cR D S r (i+1) (C1.set i v1) none)::(w6.wrap ((↑i:Int)+1)=↑(i+1))::(C1.length=(C1.set i v1).length)::rq (C1.set i v1)::rq S.length::(D=D)::(S=S)::ty d6::y3)) ?_ ?_ ?_))
   (fun d5=>let y3:List Prop:=(i<C1.length)::((0:Int)≤↑i∧(↑i:Int)<↑C1.length)::ty (dN d5)::ty d4::ty d3::y2;have u3:ar y3:=⟨?_,?_,(dN d5),d4,d3,u2⟩;oe ((gC D S r i C1 k).snd.isNone) (fun d6=>aH (tp 112111) (k+1,(gC D S r i C1 k).1,none) (q1 (let v1:=C1.set i (dv S i k);(D=D)::(S=S)::(cR D S r (i+1) v1 none)::(w6.wrap ((↑i:Int)+1)=↑(i+1))::(C1.length=v1.length)::rq v1::rq S.length::(D=D)::(S=S)::ty d6::y3)) ?_ ?_ ?_)
   (fun d6=>aH (tp 112112) (m5 k D S r i C1) (q1 (let v1:=(aZ (at_ S i)).getD k z0c;let v2:=(ab (br D S r (i+1) (C1.set i v1,none)).snd);rq (v2.length)::(D=D)::(S=S)::rq v2::(cR D S r (i+1) (C1.set i v1) none)::(w6.wrap ((↑i:Int)+1)=↑(i+1))::(C1.length=(C1.set i v1).length)::rq (C1.set i v1)::rq S.length::(D=D)::(S=S)::ty d6::y3)) ?_ ?_ ?_)))
   (fun d4=>let y3:List Prop:=(i<C1.length)::((0:Int)≤↑i∧(↑i:Int)<↑C1.length)::ty d4::ty d3::y2;have u3:ar y3:=⟨?_,?_,d4,d3,u2⟩;oe ((gC D S r i C1 k).snd.isNone) (fun d5=>aH (tp 11221) (k+1,(gC D S r i C1 k).1,none) (q1 (let v1:=C1.set i (dv S i k);(D=D)::(S=S)::(cR D S r (i+1) v1 none)::(w6.wrap ((↑i:Int)+1)=↑(i+1))::(C1.length=v1.length)::rq v1::rq S.length::(D=D)::(S=S)::ty d5::y3)) ?_ ?_ ?_)
   (fun d5=>aH (tp 11222) (m5 k D S r i C1) (q1 (let v1:=(aZ (at_ S i)).getD k z0c;let v2:=(ab (br D S r (i+1) (C1.set i v1,none)).snd);rq (v2.length)::(D=D)::(S=S)::rq v2::(cR D S r (i+1) (C1.set i v1) none)::(w6.wrap ((↑i:Int)+1)=↑(i+1))::(C1.length=(C1.set i v1).length)::rq (C1.set i v1)::rq S.length::(D=D)::(S=S)::ty d5::y3)) ?_ ?_ ?_))))
   (fun d2=>oe ((dv S i k).odd) (fun d3=>oe ((dv S i k).oddity==0) (fun d4=>let y2:List Prop:=(i<C1.length)::((0:Int)≤↑i∧(↑i:Int)<↑C1.length)::ty (dN d4)::ty d3::ty d2::y1;have u2:ar y2:=⟨?_,?_,(dN d4),d3,d2,u1⟩;oe ((gC D S r i C1 k).snd.isNone) (fun d5=>aH (tp 12121) (k+1,(gC D S r i C1 k).1,none) (q1 (let v1:=C1.set i (dv S i k);(D=D)::(S=S)::(cR D S r (i+1) v1 none)::(w6.wrap ((↑i:Int)+1)=↑(i+1))::(C1.length=v1.length)::rq v1::rq S.length::(D=D)::(S=S)::ty d5::y2)) ?_ ?_ ?_)
   (fun d5=>aH (tp 12122) (m5 k D S r i C1) (q1 (let v1:=(aZ (at_ S i)).getD k z0c;let v2:=(ab (br D S r (i+1) (C1.set i v1,none)).snd);rq (v2.length)::(D=D)::(S=S)::rq v2::(cR D S r (i+1) (C1.set i v1) none)::(w6.wrap ((↑i:Int)+1)=↑(i+1))::(C1.length=(C1.set i v1).length)::rq (C1.set i v1)::rq S.length::(D=D)::(S=S)::ty d5::y2)) ?_ ?_ ?_))
   (fun d4=>let y2:List Prop:=(i<C1.length)::((0:Int)≤↑i∧(↑i:Int)<↑C1.length)::ty (dN d4)::ty d3::ty d2::y1;have u2:ar y2:=⟨?_,?_,(dN d4),d3,d2,u1⟩;oe ((gC D S r i C1 k).snd.isNone) (fun d5=>aH (tp 12111) (k+1,(gC D S r i C1 k).1,none) (q1 (let v1:=C1.set i (dv S i k);(D=D)::(S=S)::(cR D S r (i+1) v1 none)::(w6.wrap ((↑i:Int)+1)=↑(i+1))::(C1.length=v1.length)::rq v1::rq S.length::(D=D)::(S=S)::ty d5::y2)) ?_ ?_ ?_)
   (fun d5=>aH (tp 12112) (m5 k D S r i C1) (q1 (let v1:=(aZ (at_ S i)).getD k z0c;let v2:=(ab (br D S r (i+1) (C1.set i v1,none)).snd);rq (v2.length)::(D=D)::(S=S)::rq v2::(cR D S r (i+1) (C1.set i v1) none)::(w6.wrap ((↑i:Int)+1)=↑(i+1))::(C1.length=(C1.set i v1).length)::rq (C1.set i v1)::rq S.length::(D=D)::(S=S)::ty d5::y2)) ?_ ?_ ?_)))
   (fun d3=>let y2:List Prop:=(i<C1.length)::((0:Int)≤↑i∧(↑i:Int)<↑C1.length)::ty d3::ty d2::y1;have u2:ar y2:=⟨?_,?_,d3,d2,u1⟩;oe ((gC D S r i C1 k).snd.isNone) (fun d4=>aH (tp 1221) (k+1,(gC D S r i C1 k).1,none) (q1 (let v1:=C1.set i (dv S i k);(D=D)::(S=S)::(cR D S r (i+1) v1 none)::(w6.wrap ((↑i:Int)+1)=↑(i+1))::(C1.length=v1.length)::rq v1::rq S.length::(D=D)::(S=S)::ty d4::y2)) ?_ ?_ ?_)
   (fun d4=>aH (tp 1222) (m5 k D S r i C1) (q1 (let v1:=(aZ (at_ S i)).getD k z0c;let v2:=(ab (br D S r (i+1) (C1.set i v1,none)).snd);rq (v2.length)::(D=D)::(S=S)::rq v2::(cR D S r (i+1) (C1.set i v1) none)::(w6.wrap ((↑i:Int)+1)=↑(i+1))::(C1.length=(C1.set i v1).length)::rq (C1.set i v1)::rq S.length::(D=D)::(S=S)::ty d4::y2)) ?_ ?_ ?_))))
   (fun d1=>bH d true [false] (let v1:=(br D S (r+1) i (C,none));[C1.length=v1.fst.length,C1=v1.fst,rq S.length,D=D,S=S,ty d1]) ⟨?_,?_,?_,?_,?_,d1⟩ ?_))
  all_goals with_reducible repeat' first|exact dA|refine bx ?_ ?_|refine bz ?_
  all_goals((try clear u4);(try clear y4);(try clear u3);(try clear y3);(try clear u2);(try clear y2);(try clear u1);(try clear y1))
  all_goals first|exact J9|(refine cL.mk ?_;((have hk:k<(aZ (at_ S i)).length:=iC;first|exact DY hI hk (Ay hi1 aS aS aS aS aS)|exact Uh hI hk tV aS|exact Ui hI hk tV aS|exact Hl hI hk tV)))|(refine gu.mk ?_;cases d<;>first|rfl|(exfalso;(first|(have hk:¬k<(aZ (at_ S i)).length:=kJ;have e:=Az hI hk;have hd:(br D S (r+1) i (C,none)).2.isNone=_:=hd;rw[e]at hd;cases hd))))|exact K1
set_option maxHeartbeats 4000000 in
abbrev g8 (k:Nat)(D:Int)(S:LC)(r:Nat)(i:Nat)(C1:LC)(X:LL):=(k+1,(w9 D S r i C1 k X).1,ab (w9 D S r i C1 k X).2,true)
theorem Uk (D:Int)(S:LC)(r i:Nat)(C:LC)(X0:LL)(hc:cR D S (r+1) i C (some X0))(ih:∀C o,cR D S r (i+1) C o→aP Tryz.prog EV.ng (kI D S r (i+1) C o)):An 5 Tryz.f70 [0,1,1] (Xf D S r i C X0):=by
 refine fj (cF (cD (F2 ih) (cm _ _))) aE (Xd D S i) (fun q=>(aZ (at_ S i)).length-q.1) (fun q=>iy D S r i C (some X0) q.1 q.2.1 (some q.2.2.1)∧(q.2.2.2=false→q.1=0)) ?_ ?_
 ·exact st (0,C,X0,false) (let t1:=aZ (at_ S i);[rq (↑i:Int),lq t1,rq (↑t1.length:Int),(0:Int)=↑(0:Nat),rq C.length,C=C,rq S.length,rq X0.length,D=D,S=S,X0=X0]) (by refine⟨?_,?_,?_,?_,?_,?_,?_,?_,?_,?_,(?_:X0=X0)⟩<;>(first|exact tv)) (by exact⟨Hj hc,fun _=>rfl⟩)
 ·rintro ⟨k,C1,X,fl⟩ hI
  obtain⟨hI,hfl⟩:=hI
  simp only at hI hfl
  have hj:=Hk hI
  obtain⟨hi1,hi2,hi3,hi4⟩:=hj
  have ek:=wk k
  have ei:=wk i
  rcases fl with _|_
  rotate_right
  refine(let q1:List Prop→List Prop:=fun l0=>(let v2:=aZ (at_ S i);let v1:=(br D S r (i+1) (C1.set i (v2.getD k z0c),some X));let v3:=C1.set i (v2.getD k z0c);rq (↑i:Int)::(lq v2)::rq (↑v2.length:Int)::(w6.wrap ((↑k:Int)+1)=↑(k+1))::rq (v1.fst.length)::rq (v1.fst)::rq S.length::rq ((ab v1.snd).length)::(D=D)::(S=S)::rq (ab v1.snd)::(cR D S r (i+1) v3 (some X))::(w6.wrap ((↑i:Int)+1)=↑(i+1))::(C1.length=v3.length)::rq v3::rq S.length::rq X.length::(D=D)::(S=S)::(X=X)::(i<C1.length)::((0:Int)≤↑i∧(↑i:Int)<↑C1.length)::l0);oe (decide ((↑k:Int)<(↑(aZ (at_ S i)).length:Int))) (fun d1=>let y1:List Prop:=[(0:Int)≤↑k∧(↑k:Int)<(↑(aZ (at_ S i)).length:Int),ty d1];have u1:ar y1:=⟨?_,d1⟩;oe (decide ((↑i:Int)>0)) (fun d2=>let y2:List Prop:=(let v1:=(↑i:Int)-1;((w6.wrap v1).toNat<C1.length)::((0:Int)≤w6.wrap v1∧w6.wrap v1<↑C1.length)::ty d2::y1);have u2:ar y2:=⟨?_,?_,d2,u1⟩;oe ((C1.getD (w6.wrap ((↑i:Int)-1)).toNat z0c).odd) (fun d3=>let y3:List Prop:=(let v1:=(↑i:Int)-1;((w6.wrap v1).toNat<C1.length)::((0:Int)≤w6.wrap v1∧w6.wrap v1<↑C1.length)::ty d3::y2);have u3:ar y3:=⟨?_,?_,d3,u2⟩;oe ((dv S i k).odd) (fun d4=>oe ((dv S i k).oddity==0) (fun d5=>aH (tp 11112) (g8 k D S r i C1 X) (q1 (ty (dN d5)::ty d4::y3)) ?_ ?_ ?_)
   (fun d5=>oe (w6.wrap ((C1.getD (w6.wrap ((↑i:Int)-1)).toNat z0c).exp+1)==(dv S i k).exp) (fun d6=>aH (tp 111111) (k+1,C1,X,true) (let v1:=aZ (at_ S i);rq (↑i:Int)::(lq v1)::rq (↑v1.length:Int)::(w6.wrap ((↑k:Int)+1)=↑(k+1))::rq C1.length::(C1=C1)::rq S.length::rq X.length::(D=D)::(S=S)::(X=X)::ty d6::ty (dN d5)::ty d4::y3) ?_ ?_ ?_)
   (fun d6=>aH (tp 111112) (g8 k D S r i C1 X) (q1 (ty d6::ty (dN d5)::ty d4::y3)) ?_ ?_ ?_)))
   (fun d4=>aH (tp 1112) (g8 k D S r i C1 X) (q1 (ty d4::y3)) ?_ ?_ ?_))
   (fun d3=>oe ((dv S i k).odd) (fun d4=>oe ((dv S i k).oddity==0) (fun d5=>aH (tp 11212) (g8 k D S r i C1 X) (q1 (ty (dN d5)::ty d4::ty d3::y2)) ?_ ?_ ?_)
   (fun d5=>aH (tp 11211) (g8 k D S r i C1 X) (q1 (ty (dN d5)::ty d4::ty d3::y2)) ?_ ?_ ?_))
   (fun d4=>aH (tp 1122) (g8 k D S r i C1 X) (q1 (ty d4::ty d3::y2)) ?_ ?_ ?_)))
   (fun d2=>oe ((dv S i k).odd) (fun d3=>oe ((dv S i k).oddity==0) (fun d4=>aH (tp 1212) (g8 k D S r i C1 X) (q1 (ty (dN d4)::ty d3::ty d2::y1)) ?_ ?_ ?_)
   (fun d4=>aH (tp 1211) (g8 k D S r i C1 X) (q1 (ty (dN d4)::ty d3::ty d2::y1)) ?_ ?_ ?_))
   (fun d3=>aH (tp 122) (g8 k D S r i C1 X) (q1 (ty d3::ty d2::y1)) ?_ ?_ ?_)))
   (fun d1=>b9 [false] (let v1:=(br D S (r+1) i (C,some X0));[C1.length=v1.fst.length,C1=v1.fst,rq S.length,X.length=(ab v1.snd).length,D=D,S=S,X=ab v1.snd,ty d1]) ?_))
  all_goals with_reducible repeat' first|exact dA|refine bx ?_ ?_|refine bz ?_
  rotate_right
  refine(let q1:List Prop→List Prop:=fun l0=>(let v2:=aZ (at_ S i);let v1:=(br D S r (i+1) (C1.set i (v2.getD k z0c),some X));let v3:=C1.set i (v2.getD k z0c);rq (↑i:Int)::(lq v2)::rq (↑v2.length:Int)::(w6.wrap ((↑k:Int)+1)=↑(k+1))::rq (v1.fst.length)::rq (v1.fst)::rq S.length::rq ((ab v1.snd).length)::(D=D)::(S=S)::rq (ab v1.snd)::(cR D S r (i+1) v3 (some X))::(w6.wrap ((↑i:Int)+1)=↑(i+1))::(C1.length=v3.length)::rq v3::rq S.length::rq X.length::(D=D)::(S=S)::(X=X)::(i<C1.length)::((0:Int)≤↑i∧(↑i:Int)<↑C1.length)::l0);oe (decide ((↑k:Int)<(↑(aZ (at_ S i)).length:Int))) (fun d1=>let y1:List Prop:=[(0:Int)≤↑k∧(↑k:Int)<(↑(aZ (at_ S i)).length:Int),ty d1];have u1:ar y1:=⟨?_,d1⟩;oe (decide ((↑i:Int)>0)) (fun d2=>let y2:List Prop:=(let v1:=(↑i:Int)-1;((w6.wrap v1).toNat<C1.length)::((0:Int)≤w6.wrap v1∧w6.wrap v1<↑C1.length)::ty d2::y1);have u2:ar y2:=⟨?_,?_,d2,u1⟩;oe ((C1.getD (w6.wrap ((↑i:Int)-1)).toNat z0c).odd) (fun d3=>let y3:List Prop:=(let v1:=(↑i:Int)-1;((w6.wrap v1).toNat<C1.length)::((0:Int)≤w6.wrap v1∧w6.wrap v1<↑C1.length)::ty d3::y2);have u3:ar y3:=⟨?_,?_,d3,u2⟩;oe ((dv S i k).odd) (fun d4=>oe ((dv S i k).oddity==0) (fun d5=>aH (tp 11112) (g8 k D S r i C1 X) (q1 (ty (dN d5)::ty d4::y3)) ?_ ?_ ?_)
   (fun d5=>oe (w6.wrap ((C1.getD (w6.wrap ((↑i:Int)-1)).toNat z0c).exp+1)==(dv S i k).exp) (fun d6=>aH (tp 111111) (k+1,C1,X,false) (let v1:=aZ (at_ S i);rq (↑i:Int)::(lq v1)::rq (↑v1.length:Int)::(w6.wrap ((↑k:Int)+1)=↑(k+1))::rq C1.length::(C1=C1)::rq S.length::rq X.length::(D=D)::(S=S)::(X=X)::ty d6::ty (dN d5)::ty d4::y3) ?_ ?_ ?_)
   (fun d6=>aH (tp 111112) (g8 k D S r i C1 X) (q1 (ty d6::ty (dN d5)::ty d4::y3)) ?_ ?_ ?_)))
   (fun d4=>aH (tp 1112) (g8 k D S r i C1 X) (q1 (ty d4::y3)) ?_ ?_ ?_))
   (fun d3=>oe ((dv S i k).odd) (fun d4=>oe ((dv S i k).oddity==0) (fun d5=>aH (tp 11212) (g8 k D S r i C1 X) (q1 (ty (dN d5)::ty d4::ty d3::y2)) ?_ ?_ ?_)
   (fun d5=>aH (tp 11211) (g8 k D S r i C1 X) (q1 (ty (dN d5)::ty d4::ty d3::y2)) ?_ ?_ ?_))
   (fun d4=>aH (tp 1122) (g8 k D S r i C1 X) (q1 (ty d4::ty d3::y2)) ?_ ?_ ?_)))
   (fun d2=>oe ((dv S i k).odd) (fun d3=>oe ((dv S i k).oddity==0) (fun d4=>aH (tp 1212) (g8 k D S r i C1 X) (q1 (ty (dN d4)::ty d3::ty d2::y1)) ?_ ?_ ?_)
   (fun d4=>aH (tp 1211) (g8 k D S r i C1 X) (q1 (ty (dN d4)::ty d3::ty d2::y1)) ?_ ?_ ?_))
   (fun d3=>aH (tp 122) (g8 k D S r i C1 X) (q1 (ty d3::ty d2::y1)) ?_ ?_ ?_)))
   (fun d1=>b9 [false] (let v1:=(br D S (r+1) i (C,some X0));[C1.length=v1.fst.length,C1=v1.fst,rq S.length,X.length=(ab v1.snd).length,D=D,S=S,X=ab v1.snd,ty d1]) ?_))
  all_goals with_reducible repeat' first|exact dA|refine bx ?_ ?_|refine bz ?_
  all_goals((try clear u3);(try clear y3);(try clear u2);(try clear y2);(try clear u1);(try clear y1))
  all_goals first|exact J9|(refine cL.mk ?_;((have hk:k<(aZ (at_ S i)).length:=iC;first|(refine⟨Hl hI hk tV,?_⟩;intro h;cases h;done)|(refine⟨DY hI hk (Ay hi1 aS aS aS aS aS),?_⟩;intro h;cases h;done)|(have h0:=hfl rfl;subst h0;exact(Bool.noConfusion ((Sh hI).symm.trans (Ay hi1 aS aS aS aS aS)))))))|(refine a8.mk ?_;(first|(have hk:¬k<(aZ (at_ S i)).length:=kJ;have h0:=hfl rfl;subst h0;have:=Pz (at_ S i);omega)))|exact K1
theorem Vc (D:Int)(S:LC)(r i:Nat)(C:LC)(hc:cR D S (r+1) i C none)(ih:∀C o,cR D S r (i+1) C o→aP Tryz.prog EV.ng (kI D S r (i+1) C o)):aP Tryz.prog EV.ng (kI D S (r+1) i C none):=by
 have hcc:=hc
 obtain⟨hc1,hc2,hc3,hc4,hc5,hc6,hc7,hc8⟩:=hcc
 have hz:((i:Int)==(C.length:Int))=false:=cp.2 om
 have h0:0≤(S.getD i z0c).dim:=Kq
 refine cT (cE uG) Tryz.func70 (bX (Uj D S r i C hc ih)) ?_
 intro d hd
 cases d
 rotate_right
 have hd:((br D S (r+1) i (C,none)).2.isNone)=true:=hd
 refine oe ((br D S (r+1) i (C,none)).snd.isNone) (fun d1=>lr [false,true] (let v1:=S.getD i z0c;let v2:=(br D S (r+1) i (C,none));let v3:=aZ (at_ S i);[rq (v2.fst.length),rq (v2.fst),rq S.length,D=D,S=S,rq (↑i:Int),(aZ v1).length=v3.length∧(fun i_1=>((aZ v1).getD i_1 z0c).rvs)=fun i_1=>(v3.getD i_1 z0c).rvs,(↑(aZ v1).length:Int)=↑v3.length,rq C.length,C=C,rq S.length,D=D,S=S,ty d1,(0:Int)≤v1.dim,i<S.length,(0:Int)≤↑i∧(↑i:Int)<↑S.length,aa ((↑i:Int)==↑C.length) false]) ⟨?_,?_,?_,?_,?_,?_,?_,?_,?_,?_,?_,?_,?_,d1,?_,?_,?_,hz⟩)
  (fun d1=>a8.no ?_)
 rotate_right
 have hd:((br D S (r+1) i (C,none)).2.isNone)=false:=hd
 refine oe ((br D S (r+1) i (C,none)).snd.isNone) (fun d1=>a8.no ?_)
  (fun d1=>lr [false,false] (let v1:=(br D S (r+1) i (C,none));let v2:=S.getD i z0c;let v3:=aZ (at_ S i);[rq (v1.fst.length),rq (v1.fst),rq S.length,rq ((ab v1.snd).length),D=D,S=S,rq (ab v1.snd),rq (↑i:Int),(aZ v2).length=v3.length∧(fun i_1=>((aZ v2).getD i_1 z0c).rvs)=fun i_1=>(v3.getD i_1 z0c).rvs,(↑(aZ v2).length:Int)=↑v3.length,rq C.length,C=C,rq S.length,D=D,S=S,ty d1,(0:Int)≤v2.dim,i<S.length,(0:Int)≤↑i∧(↑i:Int)<↑S.length,aa ((↑i:Int)==↑C.length) false]) ⟨?_,?_,?_,?_,?_,?_,?_,?_,?_,?_,?_,?_,?_,?_,?_,d1,?_,?_,?_,hz⟩)
 all_goals first|exact JX|(first|exact tv|omega|exact h0)
theorem Vd (D:Int)(S:LC)(r i:Nat)(C:LC)(X:LL)(hc:cR D S (r+1) i C (some X))(ih:∀C o,cR D S r (i+1) C o→aP Tryz.prog EV.ng (kI D S r (i+1) C o)):aP Tryz.prog EV.ng (kI D S (r+1) i C (some X)):=by
 have hcc:=hc
 obtain⟨hc1,hc2,hc3,hc4,hc5,hc6,hc7,hc8⟩:=hcc
 have hz:((i:Int)==(C.length:Int))=false:=cp.2 om
 have h0:0≤(S.getD i z0c).dim:=Kq
 refine cT (cE uG) Tryz.func70 (bX (Uk D S r i C X hc ih)) ?_
 intro d hd
 cases d
 ·exact Bool.noConfusion (show false=true from hd)
 ·refine lr [false] (let y1:=(br D S (r+1) i (C,some X));let y2:=S.getD i z0c;let y3:=aZ (at_ S i);[rq (y1.fst.length),rq (y1.fst),rq S.length,rq ((ab y1.snd).length),D=D,S=S,rq (ab y1.snd),rq (↑i:Int),(aZ y2).length=y3.length∧(fun i_1=>((aZ y2).getD i_1 z0c).rvs)=fun i_1=>(y3.getD i_1 z0c).rvs,(↑(aZ y2).length:Int)=↑y3.length,rq C.length,C=C,rq S.length,rq X.length,D=D,S=S,X=X,(0:Int)≤y2.dim,i<S.length,(0:Int)≤↑i∧(↑i:Int)<↑S.length,aa ((↑i:Int)==↑C.length) false]) ⟨?_,?_,?_,?_,?_,?_,?_,?_,?_,?_,?_,?_,?_,?_,?_,?_,?_,?_,?_,?_,hz⟩
  all_goals first|exact JX|(first|exact tv|omega|exact h0)
theorem AL (D:Int)(S:LC):∀(r i:Nat)(C:LC)(o:Option LL),cR D S r i C o→aP Tryz.prog EV.ng (kI D S r i C o)
 |0,i,C,none,hc=>UN D S i C hc
 |0,i,C,some X,hc=>UO D S i C X hc
 |r+1,i,C,none,hc=>Vc D S r i C hc (fun C o k=>AL D S r (i+1) C o k)
 |r+1,i,C,some X,hc=>Vd D S r i C X hc (fun C o k=>AL D S r (i+1) C o k)
def eO (D:Int)(S:LC)(o:Option LL):Option LL:=(br D S S.length 0 (S,o)).2
def xE (D:Int)(S:LC)(o:Option LL):Prop:=cR D S S.length 0 S o
def xF (D:Int)(S:LC)(o:Option LL)(b:Nat):List (Nat×ag):=(1002,gz S)::rg D o b
def xG (D:Int)(S:LC)(o:Option LL):cS:=⟨25,[.lo 1002 S.length,.ptr 1000 0,.ptr 1001 0],xF D S o 1010,1100,(match o with
 |none=>some (eO D S none).isNone
 |some _=>none),fun t=>match o,t with
 |none,true=>(.tup [],xF D S none 1150,1900)
 |none,false=>(.tup [],xF D S (some (ab (eO D S none))) 1150,1900)
 |some X,_=>(.tup [],xF D S (some (ab (eO D S (some X)))) 1150,1900)⟩
def K9 (D:Int)(S:LC):Nat→List AV→Hs→Option (cS×List Prop):=fun f args H=>bif Nat.beq f 70 then(match args with
 |[_,_,.ptr b1 _,_,_]=>match kO H.m b1 with
  |some (.fn _ [.ptr bl _,_])=>match mV H.m bl with
   |none=>none
   |some o=>some (kI D S S.length 0 S o,[cR D S S.length 0 S o])
  |_=>none
 |_=>none)else none
theorem GE (D:Int)(S:LC):∀f args H A ms,K9 D S f args H=some (A,ms)→(∀q∈ms,q)→aP Tryz.prog EV.ng A:=by
 intro f args H A ms hq hm
 unfold K9 at hq
 replace hq:=(ay hq).2
 split at hq
 ·split at hq
  ·split at hq
   ·cases hq
   ·cases hq
    exact AL D S _ _ _ _ (aA hm)
  ·cases hq
 ·cases hq
theorem Xv (D:Int)(S:LC)(hc:xE D S none):aP Tryz.prog EV.ng (xG D S none):=by
 have hcc:=hc
 obtain⟨hc1,hc2,hc3,hc4,hc5,hc6,hc7,hc8⟩:=hcc
 have hb:S.length.beq 0=false:=(by cases hq:S.length.beq 0 with
  |false=>rfl
  |true=>have:=co hq;omega)
 refine cT (cF (cD (GE D S) (cm _ _))) Tryz.func25 aE ?_
 intro d hd
 cases d
 rotate_right
 have hd:((eO D S none).isNone)=true:=hd
 refine oe ((br D S S.length (0:Nat) (S,none)).snd.isNone) (fun d1=>lr [true] [S=S,D=D,cR D S S.length (0:Nat) S none,(0:Int)=↑(0:Nat),rq S.length,S=S,rq S.length,D=D,S=S,ty d1,(0:Nat)<S.length∧S.length≤1000000,rq S.length] ⟨?_,?_,?_,?_,?_,?_,?_,?_,?_,d1,?_,(?_:S.length=S.length)⟩)
  (fun d1=>a8.no ?_)
 rotate_right
 have hd:((eO D S none).isNone)=false:=hd
 refine oe ((br D S S.length (0:Nat) (S,none)).snd.isNone) (fun d1=>a8.no ?_)
  (fun d1=>lr [false] (let v1:=(br D S S.length (0:Nat) (S,none));[S=S,(ab v1.snd).length=(ab (eO D S none)).length,D=D,ab v1.snd=ab (eO D S none),cR D S S.length (0:Nat) S none,(0:Int)=↑(0:Nat),rq S.length,S=S,rq S.length,D=D,S=S,ty d1,(0:Nat)<S.length∧S.length≤1000000,rq S.length]) ⟨?_,?_,?_,?_,?_,?_,?_,?_,?_,?_,?_,d1,?_,(?_:S.length=S.length)⟩)
 all_goals first|(refine a8.mk ?_;(first|(have hd:(br D S S.length 0 (S,none)).2.isNone=_:=hd;exact Bool.noConfusion (hd.symm.trans d1))))|exact xv
theorem Xw (D:Int)(S:LC)(X:LL)(hc:xE D S (some X)):aP Tryz.prog EV.ng (xG D S (some X)):=by
 have hcc:=hc
 obtain⟨hc1,hc2,hc3,hc4,hc5,hc6,hc7,hc8⟩:=hcc
 have hb:S.length.beq 0=false:=(by cases hq:S.length.beq 0 with
  |false=>rfl
  |true=>have:=co hq;omega)
 refine cT (cF (cD (GE D S) (cm _ _))) Tryz.func25 aE ?_
 intro d hd
 cases d
 ·exact Bool.noConfusion (show false=true from hd)
 ·refine lr [] (let y1:=(br D S S.length (0:Nat) (S,some X));[S=S,(ab y1.snd).length=(ab (eO D S (some X))).length,D=D,ab y1.snd=ab (eO D S (some X)),cR D S S.length (0:Nat) S (some X),(0:Int)=↑(0:Nat),rq S.length,S=S,rq S.length,rq X.length,D=D,S=S,X=X,(0:Nat)<S.length∧S.length≤1000000,rq S.length]) ⟨?_,?_,?_,?_,?_,?_,?_,?_,?_,?_,?_,?_,?_,?_,(?_:S.length=S.length)⟩
  all_goals first|(refine a8.mk ?_;((exact(5:Nat))))|exact xv
theorem Vv (D:Int)(S:LC):∀o:Option LL,xE D S o→aP Tryz.prog EV.ng (xG D S o)
 |none,h=>Xv D S h
 |some X,h=>Xw D S X h
abbrev cw:=Option (List QfSy.Loc)
def dG (e n a:Nat):Nat:=bif Nat.beq e 0 then n else Nat.min n (a/e)
def e9 (e d:Nat):Con:=⟨(e:Int),(d:Int),1,false,0⟩
def az (fnd:List Con→cw→cw):Nat→Nat→Nat→Nat→List Con→cw→cw
 |0,_,_,_,_,o=>o
 |f+1,e,n,a,L,o=>bif Nat.beq n 0 then(bif Nat.beq a 0 then fnd L o else o)else bif Nat.blt a (n*e)then o else(List.range (dG e n a)).foldl (fun o k=>az fnd f (e+1) (n-(k+1)) (a-(k+1)*e) (L++[e9 e (k+1)]) o) (az fnd f (e+1) n a L o)
section
variable (fnd:List Con→cw→cw)
def ff (f e n a:Nat)(L:List Con)(o:cw)(k:Nat):cw:=az fnd f (e+1) (n-(k+1)) (a-(k+1)*e) (L++[e9 e (k+1)]) o
def eh (f e n a:Nat)(L:List Con)(o:cw)(k:Nat):cw:=(List.range k).foldl (ff fnd f e n a L) o
variable {fnd}
theorem qC {e n a k:Nat}:k<dG e n a↔k+1≤n∧(k+1)*e≤a:=by
 unfold dG
 cases h:Nat.beq e 0 with
 |true=>
  have h0:e=0:=co h
  subst h0
  simp only[aU,Nat.mul_zero]
  omega
 |false=>
  have h0:0<e:=kR (jn h)
  simp only[bt]
  rw[←Nat.le_div_iff_mul_le h0]
  show k<min n (a/e)↔_
  omega
theorem Rs {e n a:Nat}(h0:0<n)(h:n*e≤a):0<dG e n a:=by
 rw[qC]
 refine⟨h0,cl ?_ h⟩
 rw[gF]
 exact iT e h0
theorem qD {e n a:Nat}:dG e n a≤n:=by
 rcases bA n (dG e n a)with h|h
 ·have:=(qC.1 h).1;omega
 ·exact h
theorem Ai {f e a:Nat}{L:List Con}{o:cw}:az fnd (f+1) e 0 a L o=bif Nat.beq a 0 then fnd L o else o:=rfl
theorem qn {f e n a:Nat}{L:List Con}{o:cw}(h0:0<n)(h:a<n*e):az fnd (f+1) e n a L o=o:=by
 have h1:Nat.beq n 0=false:=by cases hb:Nat.beq n 0 with
  |false=>rfl
  |true=>have:=co hb;omega
 rw[az,h1,show Nat.blt a (n*e)=true from fW h];rfl
theorem jQ {f e n a:Nat}{L:List Con}{o:cw}(h0:0<n)(h:n*e≤a):az fnd (f+1) e n a L o=eh fnd f e n a L (az fnd f (e+1) n a L o) (dG e n a):=by
 have h1:Nat.beq n 0=false:=by cases hb:Nat.beq n 0 with
  |false=>rfl
  |true=>have:=co hb;omega
 have h2:Nat.blt a (n*e)=false:=by cases hb:Nat.blt a (n*e)with
  |false=>rfl
  |true=>have:=aT hb;omega
 rw[az,h1,h2];rfl
theorem td {f e n a k:Nat}{L:List Con}{o:cw}:eh fnd f e n a L o (k+1)=ff fnd f e n a L (eh fnd f e n a L o k) k:=by
 unfold eh
 rw[oy,rC]
 rfl
theorem Aj (hf:∀L o,(ab o).length≤(ab (fnd L o)).length):∀(f e n a:Nat)(L:List Con)(o:cw),(ab o).length≤(ab (az fnd f e n a L o)).length
 |0,_,_,_,_,o=>bp _
 |f+1,e,n,a,L,o=>by
  rcases kS n with h0|h0
  ·subst h0
   rw[Ai]
   cases Nat.beq a 0 with
   |true=>exact hf L o
   |false=>exact bp _
  ·rcases bA a (n*e)with h|h
   ·rw[qn h0 h];exact bp _
   ·rw[jQ h0 h]
    have key:∀(k:Nat)(o:cw),(ab o).length≤(ab (eh fnd f e n a L o k)).length:=by
     intro k
     induction k with
     |zero=>intro o;exact bp _
     |succ k ih=>
      intro o
      rw[td]
      exact cl (ih o) (Aj hf f _ _ _ _ _)
    exact cl (Aj hf f _ _ _ _ _) (key _ _)
theorem GU (hf:∀L o,(ab o).length≤(ab (fnd L o)).length){f e n a:Nat}{L:List Con}{o:cw}{k m:Nat}(h:k≤m):(ab (eh fnd f e n a L o k)).length≤(ab (eh fnd f e n a L o m)).length:=by
 induction m with
 |zero=>rw[show k=0 by omega];exact bp _
 |succ m ih=>
  rcases bA m k with h1|h1
  ·rw[show k=m+1 by omega];exact bp _
  ·rw[td]
   exact cl (ih h1) (Aj hf f _ _ _ _ _)
theorem o8 (hs:∀L X,fnd L (some X)=some (ab (fnd L (some X)))):∀(f e n a:Nat)(L:List Con)(X:List QfSy.Loc),az fnd f e n a L (some X)=some (ab (az fnd f e n a L (some X)))
 |0,_,_,_,_,X=>rfl
 |f+1,e,n,a,L,X=>by
  rcases kS n with h0|h0
  ·subst h0
   rw[Ai]
   cases Nat.beq a 0 with
   |true=>exact hs L X
   |false=>rfl
  ·rcases bA a (n*e)with h|h
   ·rw[qn h0 h];rfl
   ·rw[jQ h0 h]
    have key:∀(k:Nat)(X:List QfSy.Loc),eh fnd f e n a L (some X) k=some (ab (eh fnd f e n a L (some X) k)):=by
     intro k
     induction k with
     |zero=>intro X;rfl
     |succ k ih=>
      intro X
      rw[td,ih X]
      exact o8 hs f _ _ _ _ _
    rw[o8 hs f (e+1) n a L X]
    exact key _ _
end
def fi (D p:Int)(C:LC)(o:Option LL):Option LL:=bif dD D p C then some (ab o++[⟨p,C⟩])else o
def bR (D p:Int)(S:LC):Nat→Nat→LC→Option LL→LC×Option LL
 |0,_,C,o=>(C,fi D p C o)
 |r+1,i,C,o=>bR D p S r (i+1) ((bR D p S r (i+1) (C.set i (S.getD i z0c)) o).1.set i (nV (S.getD i z0c))) (bR D p S r (i+1) (C.set i (S.getD i z0c)) o).2
theorem sg (D p:Int)(S:LC):∀(r i:Nat)(C:LC)(o:Option LL),(bR D p S r i C o).1.length=C.length
 |0,i,C,o=>rfl
 |r+1,i,C,o=>by unfold bR;rw[sg,dZ,sg,dZ]
theorem Oh (D p:Int)(C:LC)(X:LL):fi D p C (some X)=some (ab (fi D p C (some X))):=by
 unfold fi
 cases dD D p C<;>rfl
theorem p7 (D p:Int)(S:LC):∀(r i:Nat)(C:LC)(X:LL),(bR D p S r i C (some X)).2=some (ab (bR D p S r i C (some X)).2)
 |0,i,C,X=>Oh D p C X
 |r+1,i,C,X=>by
  unfold bR
  rw[p7 D p S r (i+1) (C.set i (S.getD i z0c)) X]
  exact p7 D p S r (i+1) _ _
theorem Sy (D p:Int)(C:LC)(o:Option LL):(ab (fi D p C o)).length≤(ab o).length+1:=by
 unfold fi
 cases dD D p C<;>simp[ab]
theorem Sz (D p:Int)(C:LC)(o:Option LL):(ab o).length≤(ab (fi D p C o)).length:=by
 unfold fi
 cases dD D p C<;>simp[ab]
theorem zO (D p:Int)(S:LC):∀(r i:Nat)(C:LC)(o:Option LL),(ab (bR D p S r i C o).2).length≤(ab o).length+2^r
 |0,i,C,o=>Sy D p C o
 |r+1,i,C,o=>by
  unfold bR
  have h1:=zO D p S r (i+1) (C.set i (S.getD i z0c)) o
  have h2:=jp 2 r
  have h3:=zO D p S r (i+1) ((bR D p S r (i+1) (C.set i (S.getD i z0c)) o).1.set i (nV (S.getD i z0c))) (bR D p S r (i+1) (C.set i (S.getD i z0c)) o).2
  omega
theorem zP (D p:Int)(S:LC):∀(r i:Nat)(C:LC)(o:Option LL),(ab o).length≤(ab (bR D p S r i C o).2).length
 |0,i,C,o=>Sz D p C o
 |r+1,i,C,o=>by
  unfold bR
  have h1:=zP D p S r (i+1) (C.set i (S.getD i z0c)) o
  have h3:=zP D p S r (i+1) ((bR D p S r (i+1) (C.set i (S.getD i z0c)) o).1.set i (nV (S.getD i z0c))) (bR D p S r (i+1) (C.set i (S.getD i z0c)) o).2
  omega
def xd (D p:Int)(S C:LC)(o:Option LL)(b:Nat):List (Nat×ag):=[(1000,cN [.lo 1001 C.length] 48),(1001,gz C),(1002,cN [.fn 38 [.ptr 1005 0,.ptr 1006 0,.ptr 1007 0]] 86),(1003,cN [.fn 37 [.ptr 1008 0]] 82),(1004,cN [.fn 75 [.ptr 1000 0,.ptr 1002 0,.ptr 1003 0,.ptr 1004 0]] 45),(1005,cN [kD b o] 27),(1006,cN [vi D] 2),(1007,cN [vi p] 2),(1008,cN [.lo 1009 S.length] 48),(1009,gz S)]++kE b o
def m8 (D p:Int)(S:LC)(r i:Nat)(C:LC)(o:Option LL):cS:=⟨75,[vi i,.ptr 1000 0,.ptr 1002 0,.ptr 1003 0,.ptr 1004 0],xd D p S C o 1010,1100,(match o with
 |none=>some (bR D p S r i C none).2.isNone
 |some _=>none),fun t=>match o,t with
 |none,true=>(.tup [],xd D p S (bR D p S r i C none).1 none 1150,1900)
 |none,false=>(.tup [],xd D p S (bR D p S r i C none).1 (some (ab (bR D p S r i C none).2)) 1150,1900)
 |some X,_=>(.tup [],xd D p S (bR D p S r i C (some X)).1 (some (ab (bR D p S r i C (some X)).2)) 1150,1900)⟩
def dY (D p:Int)(S:LC)(r i:Nat)(C:LC)(o:Option LL):Prop:=i+r=C.length∧S.length=C.length∧0<C.length∧C.length≤10∧(ab o).length+2^r≤100000∧(0<D∧D≤2147483647)∧2≤p∧p≤2147483647∧p.toNat%2≠0
theorem qR {D p:Int}{C:LC}{o:Option LL}(h2:dD D p C=true):fi D p C o=some (ab o++[⟨p,C⟩]):=by unfold fi;rw[h2];rfl
theorem qS {D p:Int}{C:LC}{o:Option LL}(h2:dD D p C=false):fi D p C o=o:=by unfold fi;rw[h2];rfl
theorem UP (D p:Int)(S:LC)(j:Nat)(C:LC)(hc:dY D p S 0 j C none):aP Tryz.prog EV.ng (m8 D p S 0 j C none):=by
 obtain⟨hc1,hc2,hc3,hc4,hc5,hc6,hc7,hc8,hc9⟩:=hc
 have hz:((j:Int)==(C.length:Int))=true:=by rw[show j=C.length by omega];exact ey _
 refine cT (cF (cD (vl D p) (cm _ _))) Tryz.func75 aE ?_
 intro d hd
 cases d
 rotate_right
 have hd:((bR D p S 0 j C none).2.isNone)=true:=hd
 refine oe (dD D p C) (fun d1=>a8.no ?_)
  (fun d1=>lr [true,false] (let v1:=bR D p S (0:Nat) j C none;[C.length=v1.fst.length,C=v1.fst,D=D,p=p,rq S.length,S=S,mi C D p none,D=D,p=p,rq C.length,C=C,ty d1,aa ((↑j:Int)==↑C.length) true]) ⟨?_,?_,?_,?_,?_,?_,?_,?_,?_,?_,?_,d1,hz⟩)
 rotate_right
 have hd:((bR D p S 0 j C none).2.isNone)=false:=hd
 refine oe (dD D p C) (fun d1=>lr [true,true] (let v1:=bR D p S (0:Nat) j C none;[C.length=v1.fst.length,C=v1.fst,(ab none++[Loc.mk p C]).length=(ab v1.snd).length,D=D,p=p,rq S.length,S=S,[Loc.mk p C]=ab v1.snd,mi C D p none,D=D,p=p,rq C.length,C=C,ty d1,aa ((↑j:Int)==↑C.length) true]) ⟨?_,?_,?_,?_,?_,?_,?_,?_,?_,?_,?_,?_,?_,d1,hz⟩)
  (fun d1=>a8.no ?_)
 all_goals first|(refine a8.mk ?_;(first|(have hd:(fi D p C none).isNone=_:=hd;first|(rw[qR d1]at hd;cases hd;done)|(rw[qS d1]at hd;cases hd;done))))|(first|exact tv|exact⟨hc3,om,om,hc6.1,hc6.2,hc7,hc8,.inr hc9⟩|(show _=(ab (fi D p C none)).length;rw[qR d1]<;>rfl)|(show _=ab (fi D p C none);rw[qR d1]<;>rfl)|(show _=(ab (fi D p C none)).length;rw[qS d1]<;>rfl)|(show _=ab (fi D p C none);rw[qS d1]<;>rfl))
theorem UQ (D p:Int)(S:LC)(j:Nat)(C:LC)(X:LL)(hc:dY D p S 0 j C (some X)):aP Tryz.prog EV.ng (m8 D p S 0 j C (some X)):=by
 obtain⟨hc1,hc2,hc3,hc4,hc5,hc6,hc7,hc8,hc9⟩:=hc
 have hz:((j:Int)==(C.length:Int))=true:=by rw[show j=C.length by omega];exact ey _
 refine cT (cF (cD (vl D p) (cm _ _))) Tryz.func75 aE ?_
 intro d hd
 cases d
 ·exact Bool.noConfusion (show false=true from hd)
 ·refine oe (dD D p C) (fun d1=>lr [true,true] (let v1:=bR D p S (0:Nat) j C (some X);[C.length=v1.fst.length,C=v1.fst,(ab (some X)++[Loc.mk p C]).length=(ab v1.snd).length,D=D,p=p,rq S.length,S=S,ab (some X)++[Loc.mk p C]=ab v1.snd,mi C D p (some X),rq X.length,D=D,p=p,rq C.length,C=C,X=X,ty d1,aa ((↑j:Int)==↑C.length) true]) ?_)
   (fun d1=>lr [true,false] (let v1:=bR D p S (0:Nat) j C (some X);[C.length=v1.fst.length,C=v1.fst,X.length=(ab v1.snd).length,D=D,p=p,rq S.length,S=S,X=ab v1.snd,mi C D p (some X),rq X.length,D=D,p=p,rq C.length,C=C,X=X,ty d1,aa ((↑j:Int)==↑C.length) true]) ?_)
  all_goals with_reducible(repeat' first|exact dA|refine bx ?_ ?_|refine bz ?_|(delta aa;assumption))
  all_goals first|(refine a8.mk ?_;(first|(have hd:(fi D p C (some X)).isNone=_:=hd;first|(rw[qR d1]at hd;cases hd;done)|(rw[qS d1]at hd;cases hd;done))))|(first|exact tv|exact⟨hc3,om,om,hc6.1,hc6.2,hc7,hc8,.inr hc9⟩|(show _=(ab (fi D p C (some X))).length;rw[qR d1]<;>rfl)|(show _=ab (fi D p C (some X));rw[qR d1]<;>rfl)|(show _=(ab (fi D p C (some X))).length;rw[qS d1]<;>rfl)|(show _=ab (fi D p C (some X));rw[qS d1]<;>rfl))
def Jy (D p:Int)(S:LC)(r i:Nat):Nat→List AV→Hs→Option (cS×List Prop):=fun f args H=>bif Nat.beq f 75 then(match args with
 |[_,.ptr b0 _,.ptr b1 _,_,_]=>match Bf H.m b0 with
  |none=>none
  |some C=>match kO H.m b1 with
   |some (.fn _ [.ptr bl _,_,_])=>match mV H.m bl with
    |none=>none
    |some o=>some (m8 D p S r i C o,[dY D p S r i C o])
   |_=>none
 |_=>none)else none
theorem vB {D p:Int}{S:LC}{r i:Nat}(ih:∀C o,dY D p S r i C o→aP Tryz.prog EV.ng (m8 D p S r i C o)):∀f args H A ms,Jy D p S r i f args H=some (A,ms)→(∀q∈ms,q)→aP Tryz.prog EV.ng A:=by
 intro f args H A ms hq hm
 unfold Jy at hq
 replace hq:=(ay hq).2
 split at hq
 ·split at hq
  ·cases hq
  ·split at hq
   ·split at hq
    ·cases hq
    ·cases hq
     exact ih _ _ (aA hm)
   ·cases hq
 ·cases hq
section
variable {D p:Int}{S:LC}{r i:Nat}{C:LC}{o:Option LL}{x y:Con}
theorem pz:bR D p S (r+1) i C o=bR D p S r (i+1) ((bR D p S r (i+1) (C.set i (S.getD i z0c)) o).1.set i (nV (S.getD i z0c))) (bR D p S r (i+1) (C.set i (S.getD i z0c)) o).2:=rfl
theorem HC (hc:dY D p S (r+1) i C o):dY D p S r (i+1) (C.set i x) o:=by
 obtain⟨hc1,hc2,hc3,hc4,hc5,hc6⟩:=hc
 have:=jp 2 r
 unfold dY
 rw[dZ]
 exact⟨om,hc2,hc3,hc4,om,hc6⟩
theorem AC (hc:dY D p S (r+1) i C o):dY D p S r (i+1) ((bR D p S r (i+1) (C.set i x) o).1.set i y) (bR D p S r (i+1) (C.set i x) o).2:=by
 obtain⟨hc1,hc2,hc3,hc4,hc5,hc6⟩:=hc
 have:=jp 2 r
 have hl:=zO D p S r (i+1) (C.set i x) o
 unfold dY
 rw[dZ,sg,dZ]
 exact⟨om,hc2,hc3,hc4,om,hc6⟩
theorem HD (hc:dY D p S (r+1) i C o)(hn:(bR D p S r (i+1) (C.set i x) o).2.isNone=true):dY D p S r (i+1) ((bR D p S r (i+1) (C.set i x) o).1.set i y) none:=by
 have:=AC (x:=x) (y:=y) hc
 rw[isN hn]at this
 exact this
theorem HE (hc:dY D p S (r+1) i C o)(hn:(bR D p S r (i+1) (C.set i x) o).2.isNone=false):dY D p S r (i+1) ((bR D p S r (i+1) (C.set i x) o).1.set i y) (some (ab (bR D p S r (i+1) (C.set i x) o).2)):=by
 have:=AC (x:=x) (y:=y) hc
 rw[jW hn]at this
 exact this
theorem HF {X:LL}(hc:dY D p S (r+1) i C (some X)):dY D p S r (i+1) ((bR D p S r (i+1) (C.set i x) (some X)).1.set i y) (some (ab (bR D p S r (i+1) (C.set i x) (some X)).2)):=by
 have:=AC (x:=x) (y:=y) hc
 rw[p7]at this
 exact this
end
theorem UR (D p:Int)(S:LC)(r i:Nat)(C:LC)(hc:dY D p S (r+1) i C none)(ih:∀C o,dY D p S r (i+1) C o→aP Tryz.prog EV.ng (m8 D p S r (i+1) C o)):aP Tryz.prog EV.ng (m8 D p S (r+1) i C none):=by
 have hcc:=hc
 obtain⟨hc1,hc2,hc3,hc4,hc5,hc6,hc7,hc8,hc9⟩:=hcc
 have hz:((i:Int)==(C.length:Int))=false:=cp.2 om
 have hlen:=sg D p S r (i+1) (C.set i (S.getD i z0c)) none
 rw[dZ]at hlen
 refine cT (cF (cD (vB ih) (cm _ _))) Tryz.func75 aE ?_
 intro d hd
 cases d
 rotate_right
 have hd:((bR D p S (r+1) i C none).2.isNone)=true:=hd
 refine oe ((bR D p S r (i+1) (C.set i (S.getD i z0c)) none).snd.isNone) (fun d1=>oe ((bR D p S r (i+1) ((bR D p S r (i+1) (C.set i (S.getD i z0c)) none).fst.set i (Con.mk (S.getD i z0c).exp (S.getD i z0c).dim (-1:Int) (S.getD i z0c).odd (S.getD i z0c).oddity)) none).snd.isNone) (fun d2=>lr (tp 211) (let v2:=C.set i (S.getD i z0c);let v3:=i+1;let v4:=bR D p S r v3 v2 none;let v1:=v4.fst.set i (Con.mk (S.getD i z0c).exp (S.getD i z0c).dim (-1:Int) (S.getD i z0c).odd (S.getD i z0c).oddity);let v5:=bR D p S (r+1) i C none;[(bR D p S r v3 v1 none).fst.length=v5.fst.length,(bR D p S r v3 v1 none).fst=v5.fst,D=D,p=p,rq S.length,S=S,dY D p S r v3 v1 none,w6.wrap ((↑i:Int)+1)=↑v3,v4.fst.length=v1.length,rq v1,D=D,p=p,rq S.length,S=S,ty d2,i<v4.fst.length,(0:Int)≤↑i∧(↑i:Int)<↑v4.fst.length,dY D p S r v3 v2 none,w6.wrap ((↑i:Int)+1)=↑v3,C.length=v2.length,rq v2,D=D,p=p,rq S.length,S=S,ty d1,i<C.length,(0:Int)≤↑i∧(↑i:Int)<↑C.length,i<S.length,(0:Int)≤↑i∧(↑i:Int)<↑S.length,aa ((↑i:Int)==↑C.length) false]) ⟨?_,?_,?_,?_,?_,?_,?_,?_,?_,?_,?_,?_,?_,?_,d2,?_,?_,?_,?_,?_,?_,?_,?_,?_,?_,d1,?_,?_,?_,?_,hz⟩)
  (fun d2=>a8.no ?_))
  (fun d1=>a8.no ?_)
 rotate_right
 have hd:((bR D p S (r+1) i C none).2.isNone)=false:=hd
 refine(let y1:List Prop:=[i<C.length,(0:Int)≤↑i∧(↑i:Int)<↑C.length,i<S.length,(0:Int)≤↑i∧(↑i:Int)<↑S.length,aa ((↑i:Int)==↑C.length) false];have u1:ar y1:=⟨?_,?_,?_,?_,hz⟩;oe ((bR D p S r (i+1) (C.set i (S.getD i z0c)) none).snd.isNone) (fun d1=>oe ((bR D p S r (i+1) ((bR D p S r (i+1) (C.set i (S.getD i z0c)) none).fst.set i (Con.mk (S.getD i z0c).exp (S.getD i z0c).dim (-1:Int) (S.getD i z0c).odd (S.getD i z0c).oddity)) none).snd.isNone) (fun d2=>a8.no ?_)
  (fun d2=>lr (tp 212) (let v2:=C.set i (S.getD i z0c);let v3:=i+1;let v7:=bR D p S r v3 v2 none;let v1:=v7.fst.set i (Con.mk (S.getD i z0c).exp (S.getD i z0c).dim (-1:Int) (S.getD i z0c).odd (S.getD i z0c).oddity);let v4:=bR D p S (r+1) i C none;let v5:=bR D p S r v3 v1 none;let v6:=w6.wrap ((↑i:Int)+1)=↑v3;(v5.fst.length=v4.fst.length)::(v5.fst=v4.fst)::((ab v5.snd).length=(ab v4.snd).length)::(D=D)::(p=p)::rq S.length::(S=S)::(ab v5.snd=ab v4.snd)::(dY D p S r v3 v1 none)::v6::(v7.fst.length=v1.length)::rq v1::(D=D)::(p=p)::rq S.length::(S=S)::ty d2::(i<v7.fst.length)::((0:Int)≤↑i∧(↑i:Int)<↑v7.fst.length)::(dY D p S r v3 v2 none)::v6::(C.length=v2.length)::rq v2::(D=D)::(p=p)::rq S.length::(S=S)::ty d1::y1) ?_))
  (fun d1=>lr [false,false] (let v6:=C.set i (S.getD i z0c);let v2:=bR D p S r (i+1) v6 none;let v1:=v2.fst.set i (Con.mk (S.getD i z0c).exp (S.getD i z0c).dim (-1:Int) (S.getD i z0c).odd (S.getD i z0c).oddity);let v3:=bR D p S r (i+1) v1 (some (ab v2.snd));let v4:=bR D p S (r+1) i C none;let v5:=w6.wrap ((↑i:Int)+1)=↑(i+1);(v3.fst.length=v4.fst.length)::(v3.fst=v4.fst)::((ab v3.snd).length=(ab v4.snd).length)::(D=D)::(p=p)::rq S.length::(S=S)::(ab v3.snd=ab v4.snd)::(dY D p S r (i+1) v1 (some (ab v2.snd)))::v5::(v2.fst.length=v1.length)::rq v1::rq ((ab v2.snd).length)::(D=D)::(p=p)::rq S.length::(S=S)::rq (ab v2.snd)::(i<v2.fst.length)::((0:Int)≤↑i∧(↑i:Int)<↑v2.fst.length)::(dY D p S r (i+1) v6 none)::v5::(C.length=v6.length)::rq v6::(D=D)::(p=p)::rq S.length::(S=S)::ty d1::y1) ?_))
 all_goals with_reducible(repeat' first|exact dA|refine bx ?_ ?_|refine bz ?_|(delta aa;assumption))
 all_goals first|exact JT|(first|exact tz|omega|(rw[dZ];done)|exact HC hc|exact HD hc d1|exact HE hc d1|exact HF hc|(exact wo)|(rw[pz,isN d1]<;>rfl)|(rw[pz,jW d1]<;>rfl))
theorem US (D p:Int)(S:LC)(r i:Nat)(C:LC)(X:LL)(hc:dY D p S (r+1) i C (some X))(ih:∀C o,dY D p S r (i+1) C o→aP Tryz.prog EV.ng (m8 D p S r (i+1) C o)):aP Tryz.prog EV.ng (m8 D p S (r+1) i C (some X)):=by
 have hcc:=hc
 obtain⟨hc1,hc2,hc3,hc4,hc5,hc6,hc7,hc8,hc9⟩:=hcc
 have hz:((i:Int)==(C.length:Int))=false:=cp.2 om
 have hlen:=sg D p S r (i+1) (C.set i (S.getD i z0c)) (some X)
 rw[dZ]at hlen
 have he:=p7 D p S r (i+1) (C.set i (S.getD i z0c)) X
 refine cT (cF (cD (vB ih) (cm _ _))) Tryz.func75 aE ?_
 intro d hd
 cases d
 ·exact Bool.noConfusion (show false=true from hd)
 ·refine lr [false] (let q5:=C.set i (S.getD i z0c);let q6:=i+1;let q2:=bR D p S r q6 q5 (some X);let q1:=q2.fst.set i (Con.mk (S.getD i z0c).exp (S.getD i z0c).dim (-1:Int) (S.getD i z0c).odd (S.getD i z0c).oddity);let q3:=bR D p S r q6 q1 (some (ab q2.snd));let q4:=bR D p S (r+1) i C (some X);[q3.fst.length=q4.fst.length,q3.fst=q4.fst,(ab q3.snd).length=(ab q4.snd).length,D=D,p=p,rq S.length,S=S,ab q3.snd=ab q4.snd,dY D p S r q6 q1 (some (ab q2.snd)),w6.wrap ((↑i:Int)+1)=↑q6,q2.fst.length=q1.length,rq q1,rq ((ab q2.snd).length),D=D,p=p,rq S.length,S=S,rq (ab q2.snd),i<q2.fst.length,(0:Int)≤↑i∧(↑i:Int)<↑q2.fst.length,dY D p S r q6 q5 (some X),w6.wrap ((↑i:Int)+1)=↑q6,C.length=q5.length,rq q5,rq X.length,D=D,p=p,rq S.length,S=S,X=X,i<C.length,(0:Int)≤↑i∧(↑i:Int)<↑C.length,i<S.length,(0:Int)≤↑i∧(↑i:Int)<↑S.length,aa ((↑i:Int)==↑C.length) false]) ?_
  all_goals with_reducible(repeat' first|exact dA|refine bx ?_ ?_|refine bz ?_|(delta aa;assumption))
  all_goals first|exact JT|(first|exact tz|omega|(rw[dZ];done)|exact HC hc|exact HD hc d1|exact HE hc d1|exact HF hc|(exact wo)|(rw[pz,isN d1]<;>rfl)|(rw[pz,jW d1]<;>rfl)|(rw[pz,he]<;>rfl))
theorem vV (D p:Int)(S:LC):∀(r i:Nat)(C:LC)(o:Option LL),dY D p S r i C o→aP Tryz.prog EV.ng (m8 D p S r i C o)
 |0,i,C,none,hc=>UP D p S i C hc
 |0,i,C,some X,hc=>UQ D p S i C X hc
 |r+1,i,C,none,hc=>UR D p S r i C hc (fun C o k=>vV D p S r (i+1) C o k)
 |r+1,i,C,some X,hc=>US D p S r i C X hc (fun C o k=>vV D p S r (i+1) C o k)
def jk (D p:Int)(S:LC)(o:Option LL):Option LL:=(bR D p S S.length 0 S o).2
def xe (D p:Int)(S:LC)(o:Option LL):Prop:=dY D p S S.length 0 S o
def xf (D p:Int)(S:LC)(o:Option LL)(b:Nat):List (Nat×ag):=[(1003,gz S),(1000,cN [kD b o] 27),(1001,cN [vi D] 2),(1002,cN [vi p] 2)]++kE b o
def xg (D p:Int)(S:LC)(o:Option LL):cS:=⟨36,[.lo 1003 S.length,.ptr 1000 0,.ptr 1001 0,.ptr 1002 0],xf D p S o 1010,1100,(match o with
 |none=>some (jk D p S none).isNone
 |some _=>none),fun t=>match o,t with
 |none,true=>(.tup [],xf D p S none 1150,1900)
 |none,false=>(.tup [],xf D p S (some (ab (jk D p S none))) 1150,1900)
 |some X,_=>(.tup [],xf D p S (some (ab (jk D p S (some X)))) 1150,1900)⟩
theorem Xq (D p:Int)(S:LC)(hc:xe D p S none):aP Tryz.prog EV.ng (xg D p S none):=by
 have hcc:=hc
 obtain⟨hc1,hc2,hc3,hc4,hc5,hc6,hc7,hc8,hc9⟩:=hcc
 have hb:S.length.beq 0=false:=(by cases hq:S.length.beq 0 with
  |false=>rfl
  |true=>have:=co hq;omega)
 refine cT (cF (cD (vB (vV D p S S.length 0)) (cm _ _))) Tryz.func36 aE ?_
 intro d hd
 cases d
 rotate_right
 have hd:((jk D p S none).isNone)=true:=hd
 refine oe ((bR D p S S.length (0:Nat) S none).snd.isNone) (fun d1=>lr [true] [S=S,D=D,p=p,dY D p S S.length (0:Nat) S none,(0:Int)=↑(0:Nat),rq S.length,S=S,D=D,p=p,rq S.length,S=S,ty d1,(0:Nat)<S.length∧S.length≤1000000,rq S.length] ⟨?_,?_,?_,?_,?_,?_,?_,?_,?_,?_,?_,d1,?_,(?_:S.length=S.length)⟩)
  (fun d1=>a8.no ?_)
 rotate_right
 have hd:((jk D p S none).isNone)=false:=hd
 refine oe ((bR D p S S.length (0:Nat) S none).snd.isNone) (fun d1=>a8.no ?_)
  (fun d1=>lr [false] (let v1:=bR D p S S.length (0:Nat) S none;[S=S,(ab v1.snd).length=(ab (jk D p S none)).length,D=D,p=p,ab v1.snd=ab (jk D p S none),dY D p S S.length (0:Nat) S none,(0:Int)=↑(0:Nat),rq S.length,S=S,D=D,p=p,rq S.length,S=S,ty d1,(0:Nat)<S.length∧S.length≤1000000,rq S.length]) ⟨?_,?_,?_,?_,?_,?_,?_,?_,?_,?_,?_,?_,?_,d1,?_,(?_:S.length=S.length)⟩)
 all_goals first|exact JW|exact xv
theorem Xr (D p:Int)(S:LC)(X:LL)(hc:xe D p S (some X)):aP Tryz.prog EV.ng (xg D p S (some X)):=by
 have hcc:=hc
 obtain⟨hc1,hc2,hc3,hc4,hc5,hc6,hc7,hc8,hc9⟩:=hcc
 have hb:S.length.beq 0=false:=(by cases hq:S.length.beq 0 with
  |false=>rfl
  |true=>have:=co hq;omega)
 refine cT (cF (cD (vB (vV D p S S.length 0)) (cm _ _))) Tryz.func36 aE ?_
 intro d hd
 cases d
 ·exact Bool.noConfusion (show false=true from hd)
 ·refine lr [] (let q1:=bR D p S S.length (0:Nat) S (some X);[S=S,(ab q1.snd).length=(ab (jk D p S (some X))).length,D=D,p=p,ab q1.snd=ab (jk D p S (some X)),dY D p S S.length (0:Nat) S (some X),(0:Int)=↑(0:Nat),rq S.length,S=S,rq X.length,D=D,p=p,rq S.length,S=S,X=X,(0:Nat)<S.length∧S.length≤1000000,rq S.length]) ⟨?_,?_,?_,?_,?_,?_,?_,?_,?_,?_,?_,?_,?_,?_,?_,?_,(?_:S.length=S.length)⟩
  all_goals first|exact JW|exact xv
theorem UT (D p:Int)(S:LC):∀o:Option LL,xe D p S o→aP Tryz.prog EV.ng (xg D p S o)
 |none,h=>Xq D p S h
 |some X,h=>Xr D p S X h
def Xg (b:Nat):Option LC→AV
 |none=>.nils
 |some L=>.lo b L.length
def Xh (b:Nat):Option LC→List (Nat×ag)
 |none=>[]
 |some L=>[(b,gz L)]
def bu:Option LC→LC
 |none=>[]
 |some L=>L
structure EG (n:Nat)(p:Prop):Prop where
 mk::out:p
theorem eo (n:Nat){p:Prop}(h:EG n p):p:=h.out
theorem em (n:Nat){p:Prop}(h:p):EG n p:=⟨h⟩
def pp (tw:Bool)(p:Int)(l:List Prop):List Prop:=bif tw then l else(p=p)::l
theorem dp {tw:Bool}{p:Int}{q r:Prop}{l:List Prop}(h:q)(h2:ar (r::l)):ar (q::pp tw p (r::l)):=by cases tw;exact⟨h,rfl,h2⟩;exact⟨h,h2⟩
theorem dq {tw:Bool}{p:Int}{q:Prop}(h:q):ar (q::pp tw p []):=by cases tw;exact⟨h,rfl⟩;exact h
theorem gL {P:Bool→Prop}(h1:let t:=true;P t)(h2:let t:=false;P t)(t:Bool):P t:=by cases t;exact h2;exact h1
def au (tw:Bool)(D p:Int):LC→cw→cw:=bif tw then eO D else jk D p
def cW (tw:Bool)(D p:Int)(L:LC)(o:cw):Prop:=bif tw then xE D L o else xe D p L o
def dW (tw:Bool)(D p:Int):Prop:=(0<D∧D≤2147483647)∧(tw=false→2≤p∧p≤2147483647∧p.toNat%2≠0)
def Jk (tw:Bool)(D p:Int)(L:LC)(o:cw):cS:=bif tw then xG D L o else xg D p L o
theorem Uu (tw:Bool)(D p:Int)(L:LC)(o:cw)(h:cW tw D p L o):aP Tryz.prog EV.ng (Jk tw D p L o):=by cases tw;exact UT D p _ _ h;exact Vv D _ _ h
theorem zF (tw:Bool)(D p:Int)(S:LC)(o:cw):(ab o).length≤(ab (au tw D p S o)).length:=by cases tw;exact zP D p S S.length 0 S o;exact zA D S S.length 0 (S,o)
theorem p6 (tw:Bool)(D p:Int)(S:LC)(X:LL):au tw D p S (some X)=some (ab (au tw D p S (some X))):=by cases tw;exact p7 D p S S.length 0 S X;exact yE D S S.length 0 S X
theorem Uv {tw:Bool}{D p:Int}{L:LC}{o:cw}(h1:0<L.length)(h2:L.length≤10)(h3:(ab (au tw D p L o)).length≤50000)(h4:dW tw D p)(h5:∀c∈L,lC c∧c.oddity=0):cW tw D p L o:=by
 cases tw
 ·have hg:=zF false D p L o
  have hp:2^L.length≤2^10:=ze7 om h2
  exact⟨om,rfl,h1,h2,om,h4.1,h4.2 rfl⟩
 ·exact⟨om,rfl,h1,h2,h3,h4.1,⟨om,fun c hc=>(h5 c hc).1⟩,fun c hc=>(h5 c hc).2⟩
def m6 (tw:Bool)(D p:Int)(l:Option LC)(lb:Nat)(o:cw)(b:Nat):List (Nat×ag):=[(1000,cN [.fn (bif tw then 25 else 36) (.ptr 1003 0::.ptr 1004 0::bif tw then []else [.ptr 1005 0])] 86),(1001,cN [Xg lb l] 48),(1002,cN [.fn 69 [.ptr 1000 0,.ptr 1001 0,.ptr 1002 0]] 125)]++((1003,cN [kD b o] 27)::(1004,cN [vi D] 2)::bif tw then []else [(1005,cN [vi p] 2)])++Xh lb l++kE b o
def bK (tw:Bool)(D p:Int)(f e n a:Nat)(L:LC)(o:cw):Prop:=a+2≤e+f∧1≤f∧L.length+n≤10∧(L.length=0→1≤n)∧(∀c∈L,lC c∧c.oddity=0)∧e≤101∧a≤100∧(ab (az (au tw D p) f e n a L o)).length≤50000∧dW tw D p
def cZ (tw:Bool)(D p:Int)(f e n a:Nat)(l0 l1:Option LC)(o:cw):cS:=⟨69,[vi e,vi n,vi a,.ptr 1000 0,.ptr 1001 0,.ptr 1002 0],m6 tw D p l0 1008 o 1010,1100,(match o with
 |none=>some (az (au tw D p) f e n a (bu l0) none).isNone
 |some _=>none),fun t=>match o,t with
 |none,true=>(.tup [],m6 tw D p l1 1140 none 1150,1900)
 |none,false=>(.tup [],m6 tw D p l1 1140 (some (ab (az (au tw D p) f e n a (bu l0) none))) 1150,1900)
 |some X,_=>(.tup [],m6 tw D p l1 1140 (some (ab (az (au tw D p) f e n a (bu l0) (some X)))) 1150,1900)⟩
def Io (m:Tr ag)(b:Nat):Option (Option LC):=match kO m b with
 |some .nils=>some none
 |some (.lo b' _)=>match xC m b' with
  |none=>none
  |some L=>some (some L)
 |_=>none
def Ip (tw:Bool)(D p:Int)(f:Nat)(go:Nat→List AV→Hs→Option (cS×List Prop)):Nat→List AV→Hs→Option (cS×List Prop):=fun g args H=>bif Nat.beq g 69 then(match args with
 |[e',n',a',.ptr b0 _,.ptr b1 _,_]=>match clr e',clr n',clr a' with
  |.int .i64 e,.int .i64 n,.int .i64 a=>match Io H.m b1 with
   |some (some L)=>match kO H.m b0 with
    |some (.fn _ (.ptr bl _::_))=>match mV H.m bl with
     |none=>none
     |some o=>some (cZ tw D p f e.toNat n.toNat a.toNat (some L) (some L) o,[bK tw D p f e.toNat n.toNat a.toNat L o])
    |_=>none
   |_=>none
  |_,_,_=>none
 |_=>none)else go g args H
theorem jP (tw:Bool)(D p:Int){f:Nat}(ih:∀e n a L o,bK tw D p f e n a L o→aP Tryz.prog EV.ng (cZ tw D p f e n a (some L) (some L) o)){go:Nat→List AV→Hs→Option (cS×List Prop)}(hgo:∀f args H A ms,go f args H=some (A,ms)→(∀q∈ms,q)→aP Tryz.prog EV.ng A):∀g args H A ms,Ip tw D p f go g args H=some (A,ms)→(∀q∈ms,q)→aP Tryz.prog EV.ng A:=by
 intro g args H A ms hq hm
 unfold Ip at hq
 cases hb:Nat.beq g 69 with
 |false=>rw[hb]at hq;exact hgo g args H A ms hq hm
 |true=>
  rw[hb]at hq
  simp only[aU]at hq
  split at hq
  ·split at hq
   ·split at hq
    ·split at hq
     ·split at hq
      ·cases hq
      ·cases hq
       exact ih _ _ _ _ _ (aA hm)
     ·cases hq
    ·cases hq
   ·cases hq
  ·cases hq
def Iq (tw:Bool)(D p:Int):Nat→List AV→Hs→Option (cS×List Prop):=fun g args H=>bif Nat.beq g (bif tw then 25 else 36)then(match args with
 |.lo bL _::.ptr bl _::_=>match xC H.m bL with
  |none=>none
  |some L=>match mV H.m bl with
   |none=>none
   |some o=>some (Jk tw D p L o,[cW tw D p L o])
 |_=>none)else none
theorem se (tw:Bool)(D p:Int):∀f args H A ms,Iq tw D p f args H=some (A,ms)→(∀q∈ms,q)→aP Tryz.prog EV.ng A:=by
 intro f args H A ms hq hm
 unfold Iq at hq
 replace hq:=(ay hq).2
 split at hq
 ·split at hq
  ·cases hq
  ·split at hq
   ·cases hq
   ·cases hq
    exact Uu tw D p _ _ (aA hm)
 ·cases hq
theorem Ir {x:Con}:0≤w6.wrap (([x].length:Int)-1)∧w6.wrap (([x].length:Int)-1)≤([x].length:Int):=(by decide:0≤w6.wrap (((1:Nat):Int)-1)∧w6.wrap (((1:Nat):Int)-1)≤((1:Nat):Int))
theorem wB {L:LC}{x:Con}:L.length+1=(L++[x]).length:=by rw[fV];rfl
theorem A7 {L:LC}{x:Con}(h:L.length≤10):w6.wrap (((L++[x]).length:Int)-1)=(L.length:Int):=by
 rw[fV]
 simp only[dg,ic]
 rw[wo]
 omega
theorem A8 {L:LC}{x:Con}(h:L.length≤10):(w6.wrap (((L++[x]).length:Int)-1)).toNat≤(L++[x]).length∧(L++[x]).length=(L++[x]).length:=by
 rw[A7 h,cg]
 exact⟨by rw[←wB];omega,rfl⟩
def Jl (e n a:Nat)(d:AV):List (Nat×AV):=[(0,vi e),(1,vi n),(2,vi a),(3,.ptr 1000 0),(4,.ptr 1001 0),(5,.ptr 1002 0),(9,d)]
def nQ (tw:Bool)(D p:Int)(e n a k:Nat)(l:Option LC)(o:cw):St:=⟨Jl e n a (vi (k+1:Nat)),m6 tw D p l 2008 o 2010,2100⟩
def Xi (tw:Bool)(D p:Int)(e n a:Nat)(L:LC):Nat×cw→St
 |(k,none)=>nQ tw D p e n a k (some L) none
 |(k,some X)=>nQ tw D p e n a k (some L) (some X)
def Xj (tw:Bool)(D p:Int)(e n a:Nat):Option (Nat×cw)→St
 |none=>nQ tw D p e n a 0 none none
 |some (k,none)=>nQ tw D p e n a k (some []) none
 |some (k,some X)=>nQ tw D p e n a k (some []) (some X)
def Xk (tw:Bool)(D p:Int)(e n a:Nat)(X0:LL):Option (Nat×LL)→St
 |none=>nQ tw D p e n a 0 none (some X0)
 |some (k,X)=>nQ tw D p e n a k (some []) (some X)
def fH (tw:Bool)(D p:Int)(f e n a:Nat)(L:LC)(o0:cw)(k:Nat)(o:cw):Prop:=k≤dG e n a∧eh (au tw D p) f e n a L o0 k=o
def qO (tw:Bool)(D p:Int)(f e n a:Nat)(L:LC)(o0:cw):Prop:=a+1≤e+f∧1≤n∧n*e≤a∧L.length+n≤10∧(∀c∈L,lC c∧c.oddity=0)∧e≤100∧a≤100∧(ab (eh (au tw D p) f e n a L o0 (dG e n a))).length≤50000∧dW tw D p
def wC (tw:Bool)(D p:Int)(f e n a:Nat)(L:LC)(l0:Option LC)(o:cw):aO:=⟨⟨Jl e n a (.int .i64 1),m6 tw D p l0 1140 o 1150,2000⟩,(match o with
 |none=>some (eh (au tw D p) f e n a L none (dG e n a)).isNone
 |some _=>none),fun d=>match o,d with
 |none,true=>(.exit 0,⟨[],m6 tw D p (some L) 2008 none 2010,2100⟩)
 |none,false=>(.exit 0,⟨[],m6 tw D p (some L) 2008 (some (ab (eh (au tw D p) f e n a L none (dG e n a)))) 2010,2100⟩)
 |some X,_=>(.exit 0,⟨[],m6 tw D p (some L) 2008 (some (ab (eh (au tw D p) f e n a L (some X) (dG e n a)))) 2010,2100⟩)⟩
section
variable {tw:Bool}{D p:Int}
variable {f e n a k:Nat}{L:LC}{o0 o:cw}
theorem jS (he:e≤101):w6.wrap ((e:Int)+1)=((e+1:Nat):Int):=by rw[wo];omega
theorem lX (hn:n≤10)(hk:k+1≤n):w6.wrap ((n:Int)-((k+1:Nat):Int))=((n-(k+1):Nat):Int):=by rw[wo];omega
theorem jT {x y:Nat}(hx:x≤1000)(hy:y≤1000):w6.wrap ((x:Int)*(y:Int))=((x*y:Nat):Int):=by
 have h:x*y≤1000*1000:=mr hx hy
 have e:(x:Int)*(y:Int)=((x*y:Nat):Int):=by simp
 rw[e,wo]
theorem lY (ha:a≤100)(hk1:k+1≤10)(he:e≤100)(hk:(k+1)*e≤a):w6.wrap ((a:Int)-w6.wrap (((k+1:Nat):Int)*(e:Int)))=((a-(k+1)*e:Nat):Int):=by
 rw[jT om om,wo];omega
theorem Uw (h:∀c∈L,lC c∧c.oddity=0)(he:e≤1000)(hk:k+1≤1000):∀c∈L++[e9 e (k+1)],lC c∧c.oddity=0:=by
 intro c hc
 rcases fX.1 hc with h1|h1
 ·exact h c h1
 ·rw[fJ.1 h1]
  exact⟨⟨⟨by show(0:Int)≤(e:Int);omega,by show(e:Int)≤1000;omega⟩,⟨by show(1:Int)≤((k+1:Nat):Int);omega,by show((k+1:Nat):Int)≤1000;omega⟩,.inl rfl,⟨Int.le_refl 0,(by decide:(0:Int)≤7)⟩⟩,rfl⟩
theorem Ht:(eh (au tw D p) f e n a L o0 k)=o→eh (au tw D p) f e n a L o0 (k+1)=ff (au tw D p) f e n a L o k:=by intro h;rw[td,h]
theorem zG (hc:qO tw D p f e n a L o0)(hI:fH tw D p f e n a L o0 k o)(h1:k+1≤n)(h2:(k+1)*e≤a):bK tw D p f (e+1) (n-(k+1)) (a-(k+1)*e) (L++[e9 e (k+1)]) o:=by
 obtain⟨c1,c2,c3,c4,c5,c6,c7,c8,c9⟩:=hc
 obtain⟨i1,i2⟩:=hI
 have hk:k<dG e n a:=qC.2 ⟨h1,h2⟩
 have hg:=GU (zF tw D p) (f:=f) (e:=e) (n:=n) (a:=a) (L:=L) (o:=o0) (k:=k+1) (m:=dG e n a) hk
 rw[Ht i2]at hg
 have hen:e≤a:=cl (by
  have:=iT e c2
  omega) c3
 refine⟨?_,?_,?_,?_,Uw c5 om om,om,om,cl hg c8,c9⟩
 ·omega
 ·omega
 ·rw[fV];simp only[dg,ic];omega
 ·rw[fV];simp only[dg,ic];omega
theorem AB (hI:fH tw D p f e n a L o0 k o)(h1:k+1≤n)(h2:(k+1)*e≤a):fH tw D p f e n a L o0 (k+1) (ff (au tw D p) f e n a L o k):=⟨qC.2 ⟨h1,h2⟩,Ht hI.2⟩
theorem Hu (hI:fH tw D p f e n a L o0 k o)(h1:k+1≤n)(h2:(k+1)*e≤a)(h:(az (au tw D p) f (e+1) (n-(k+1)) (a-(k+1)*e) (L++[e9 e (k+1)]) o).isNone=true):fH tw D p f e n a L o0 (k+1) none:=by
 have:=AB hI h1 h2
 rw[show ff (au tw D p) f e n a L o k=none from isN h]at this
 exact this
theorem Hv (hI:fH tw D p f e n a L o0 k o)(h1:k+1≤n)(h2:(k+1)*e≤a)(h:(az (au tw D p) f (e+1) (n-(k+1)) (a-(k+1)*e) (L++[e9 e (k+1)]) o).isNone=false):fH tw D p f e n a L o0 (k+1) (some (ab (ff (au tw D p) f e n a L o k))):=by
 have:=AB hI h1 h2
 rw[show ff (au tw D p) f e n a L o k=some (ab (ff (au tw D p) f e n a L o k))from jW h]at this
 exact this
theorem Hw {X:LL}(hI:fH tw D p f e n a L o0 k (some X))(h1:k+1≤n)(h2:(k+1)*e≤a):fH tw D p f e n a L o0 (k+1) (some (ab (ff (au tw D p) f e n a L (some X) k))):=by
 have:=AB hI h1 h2
 rw[show ff (au tw D p) f e n a L (some X) k=some (ab (ff (au tw D p) f e n a L (some X) k))from o8 (p6 tw D p) _ _ _ _ _ _]at this
 exact this
theorem Sl (hI:fH tw D p f e n a L o0 k o)(h:¬(k+1≤n∧(k+1)*e≤a)):k=dG e n a:=by
 have h1:=hI.1
 rcases bA k (dG e n a)with h2|h2
 ·exact absurd (qC.1 h2) h
 ·omega
theorem vS (hI:fH tw D p f e n a L o0 k o)(h:¬(k+1≤n∧(k+1)*e≤a)):eh (au tw D p) f e n a L o0 (dG e n a)=o:=by
 rw[←Sl hI h];exact hI.2
theorem qP (h1:1≤n)(h3:n*e≤a)(hI:fH tw D p f e n a L o0 0 o):0+1≤n∧(0+1)*e≤a:=qC.1 (Rs h1 h3)
end
set_option maxHeartbeats 4000000 in
theorem Hx:∀(tw:Bool)(D p:Int)(f e n a:Nat)(L:LC)(hc:qO tw D p f e n a L none)(ih:∀e n a L o,bK tw D p f e n a L o→aP Tryz.prog EV.ng (cZ tw D p f e n a (some L) (some L) o)),An 6 Tryz.f69 [0,1,1,1,1] (wC tw D p f e n a L (some L) none):=by
 refine gL ?_ ?_<;>(
  intro tw D p f e n a L hc ih
  have hcc:=hc
  obtain⟨c1,c2,c3,c4,c5,c6,c7,c8,c9⟩:=hcc
  refine iB (cF (cD (jP tw D p ih js) (cm _ _))) aE (Xi tw D p e n a L) (fun q=>n+1-q.1) (fun _ q=>fH tw D p f e n a L none q.1 q.2) ?_ ?_
  ·intro d hd
   exact st (0,none) ((rq (↑e:Int))::(rq (↑n:Int))::(rq (↑a:Int))::((1:Int)=↑((0:Nat)+1))::(rq L.length)::(D=D)::pp tw p ([L=L])) (by(with_reducible(repeat' first|refine bx ?_ ?_|refine dp ?_ ?_|refine dq ?_|refine bz ?_))<;>(first|exact tv)) (by exact⟨bQ _,rfl⟩)
  ·rintro d hd ⟨k,o⟩ hI
   have hI:fH tw D p f e n a L none k o:=hI
   have hk0:k≤n:=cl hI.1 qD
   have we:w6.wrap ((e:Int)+1)=((e+1:Nat):Int):=jS om
   have wm:w6.wrap (((k+1:Nat):Int)*(e:Int))=(((k+1)*e:Nat):Int):=jT om om
   have hl:L.length≤10:=by omega
   have ek:w6.wrap (((k+1:Nat):Int)+1)=((k+1+1:Nat):Int):=by rw[wo];omega
   rcases o with _|X
   rotate_right
   refine(let t1:List Prop→List Prop:=fun l0=>(let v1:=eh (au tw D p) f e n a L none (dG e n a);rq L.length::(X.length=(ab v1).length)::(D=D)::pp tw p ((L=L)::(X=ab v1)::l0));oe (decide ((↑(k+1):Int)≤↑n)) (fun d1=>oe (decide (w6.wrap ((↑(k+1):Int)*↑e)≤↑a)) (fun d2=>aH [true,true] (k+1,some (ab (ff (au tw D p) f e n a L (some X) k))) (let v1:=L++[Con.mk (↑e:Int) (↑(k+1):Int) (1:Int) false (0:Int)];let v2:=(↑a:Int)-w6.wrap ((↑(k+1):Int)*↑e);let v5:=(↑n:Int)-↑(k+1);let v6:=(↑e:Int)+1;let v3:=az (au tw D p) f (w6.wrap v6).toNat (w6.wrap v5).toNat (w6.wrap v2).toNat (bu (some v1)) (some X);let v4:=(↑v1.length:Int)-1;let v7:=w6.wrap v4;let v8:=ff (au tw D p) f e n a L (some X) k;((rq (↑e:Int))::(rq (↑n:Int))::(rq (↑a:Int))::(w6.wrap ((↑(k+1):Int)+1)=↑(k+1+1))::(v7.toNat=L.length)::((ab v3).length=(ab v8).length)::(D=D)::pp tw p ((List.take v7.toNat v1=L)::(ab v3=ab v8)::(v7.toNat≤v1.length∧v1.length=v1.length)::((0:Int)≤w6.wrap v4∧w6.wrap v4≤↑v1.length)::(bK tw D p f (w6.wrap v6).toNat (w6.wrap v5).toNat (w6.wrap v2).toNat v1 (some X))::(w6.wrap v6=(↑(w6.wrap v6).toNat:Int))::(w6.wrap v5=(↑(w6.wrap v5).toNat:Int))::(w6.wrap v2=(↑(w6.wrap v2).toNat:Int))::(L.length+1=v1.length)::(rq X.length)::(D=D)::pp tw p ([rq v1,X=X,(gz L).view.num=L.length∧L.length+1≤1000000,ty d2,ty d1])))) ?_ ?_ ?_)
    (fun d2=>(eo 3 ?_)))
    (fun d1=>(eo 4 ?_)))
   all_goals with_reducible(repeat' first|exact dA|refine bx ?_ ?_|refine dp ?_ ?_|refine dq ?_|refine bz ?_)
   all_goals try(
    refine em 3 ?_
    cases d
    rotate_right
    refine a8.no ?_
    rotate_right
    refine b9 [true,false] (t1 [ty d2,ty d1]) ?_
    all_goals with_reducible(repeat' first|exact dA|refine bx ?_ ?_|refine dp ?_ ?_|refine dq ?_|refine bz ?_))
   all_goals try(
    refine em 4 ?_
    cases d
    rotate_right
    refine a8.no ?_
    rotate_right
    refine b9 [false] (t1 [ty d1]) ?_
    all_goals with_reducible(repeat' first|exact dA|refine bx ?_ ?_|refine dp ?_ ?_|refine dq ?_|refine bz ?_))
   rotate_right
   refine(let t1:List Prop→List Prop:=fun l0=>rq (↑e:Int)::rq (↑n:Int)::rq (↑a:Int)::(w6.wrap ((↑(k+1):Int)+1)=↑(k+1+1))::((w6.wrap ((↑(L++[Con.mk (↑e:Int) (↑(k+1):Int) (1:Int) false (0:Int)]).length:Int)-1)).toNat=L.length)::l0;oe (decide ((↑(k+1):Int)≤↑n)) (fun d1=>oe (decide (w6.wrap ((↑(k+1):Int)*↑e)≤↑a)) (fun d2=>let y1:List Prop:=[(gz L).view.num=L.length∧L.length+1≤1000000,ty d2,ty d1];have u1:ar y1:=⟨?_,d2,d1⟩;oe (Option.isNone (az (au tw D p) f (w6.wrap ((↑e:Int)+1)).toNat (w6.wrap ((↑n:Int)-↑(k+1))).toNat (w6.wrap ((↑a:Int)-w6.wrap ((↑(k+1):Int)*↑e))).toNat (bu (some (L++[Con.mk (↑e:Int) (↑(k+1):Int) (1:Int) false (0:Int)]))) none)) (fun d3=>aH (tp 111) (k+1,none) (t1 (let v1:=L++[Con.mk (↑e:Int) (↑(k+1):Int) (1:Int) false (0:Int)];let v2:=(↑a:Int)-w6.wrap ((↑(k+1):Int)*↑e);let v3:=(↑v1.length:Int)-1;let v4:=(↑n:Int)-↑(k+1);let v5:=(↑e:Int)+1;(D=D)::pp tw p ((List.take (w6.wrap v3).toNat v1=L)::((w6.wrap v3).toNat≤v1.length∧v1.length=v1.length)::((0:Int)≤w6.wrap v3∧w6.wrap v3≤↑v1.length)::(bK tw D p f (w6.wrap v5).toNat (w6.wrap v4).toNat (w6.wrap v2).toNat v1 none)::(w6.wrap v5=(↑(w6.wrap v5).toNat:Int))::(w6.wrap v4=(↑(w6.wrap v4).toNat:Int))::(w6.wrap v2=(↑(w6.wrap v2).toNat:Int))::(L.length+1=v1.length)::(D=D)::pp tw p (rq v1::ty d3::y1)))) ?_ ?_ ?_)
    (fun d3=>aH (tp 112) (k+1,(some (ab (ff (au tw D p) f e n a L none k)))) (t1 (let v1:=L++[Con.mk (↑e:Int) (↑(k+1):Int) (1:Int) false (0:Int)];let v2:=(↑a:Int)-w6.wrap ((↑(k+1):Int)*↑e);let v5:=(↑n:Int)-↑(k+1);let v6:=(↑e:Int)+1;let v3:=az (au tw D p) f (w6.wrap v6).toNat (w6.wrap v5).toNat (w6.wrap v2).toNat (bu (some v1)) none;let v4:=(↑v1.length:Int)-1;let v7:=ff (au tw D p) f e n a L none k;((ab v3).length=(ab v7).length)::(D=D)::pp tw p ((List.take (w6.wrap v4).toNat v1=L)::(ab v3=ab v7)::((w6.wrap v4).toNat≤v1.length∧v1.length=v1.length)::((0:Int)≤w6.wrap v4∧w6.wrap v4≤↑v1.length)::(bK tw D p f (w6.wrap v6).toNat (w6.wrap v5).toNat (w6.wrap v2).toNat v1 none)::(w6.wrap v6=(↑(w6.wrap v6).toNat:Int))::(w6.wrap v5=(↑(w6.wrap v5).toNat:Int))::(w6.wrap v2=(↑(w6.wrap v2).toNat:Int))::(L.length+1=v1.length)::(D=D)::pp tw p (rq v1::ty d3::y1)))) ?_ ?_ ?_))
    (fun d2=>(eo 1 ?_)))
    (fun d1=>(eo 2 ?_)))
   all_goals with_reducible(repeat' first|exact dA|refine bx ?_ ?_|refine dp ?_ ?_|refine dq ?_|refine bz ?_)
   all_goals try(
    refine em 1 ?_
    cases d
    rotate_right
    refine b9 [true,false] ((rq L.length)::(D=D)::pp tw p ([L=L,ty d2,ty d1])) ?_
    all_goals with_reducible(repeat' first|exact dA|refine bx ?_ ?_|refine dp ?_ ?_|refine dq ?_|refine bz ?_)
    rotate_right
    refine a8.no ?_)
   all_goals try(
    refine em 2 ?_
    cases d
    rotate_right
    refine b9 [false] ((rq L.length)::(D=D)::pp tw p ([L=L,ty d1])) ?_
    all_goals with_reducible(repeat' first|exact dA|refine bx ?_ ?_|refine dp ?_ ?_|refine dq ?_|refine bz ?_)
    rotate_right
    refine a8.no ?_)
   all_goals first|(refine dO.mk ?_;exact BO)|exact KX|exact K2|exact JH)
set_option maxHeartbeats 4000000 in
theorem vT:∀(tw:Bool)(D p:Int)(f e n a:Nat)(L:LC)(X0:LL)(hc:qO tw D p f e n a L (some X0))(ih:∀e n a L o,bK tw D p f e n a L o→aP Tryz.prog EV.ng (cZ tw D p f e n a (some L) (some L) o)),An 6 Tryz.f69 [0,1,1,1,1] (wC tw D p f e n a L (some L) (some X0)):=by
 refine gL ?_ ?_<;>(
  intro tw D p f e n a L X0 hc ih
  have hcc:=hc
  obtain⟨c1,c2,c3,c4,c5,c6,c7,c8,c9⟩:=hcc
  refine fj (cF (cD (jP tw D p ih js) (cm _ _))) aE (fun(q:Nat×LL)=>nQ tw D p e n a q.1 (some L) (some q.2)) (fun q=>n+1-q.1) (fun q=>fH tw D p f e n a L (some X0) q.1 (some q.2)) ?_ ?_
  ·exact st (0,X0) ((rq (↑e:Int))::(rq (↑n:Int))::(rq (↑a:Int))::((1:Int)=↑((0:Nat)+1))::(rq L.length)::(rq X0.length)::(D=D)::pp tw p ([L=L,X0=X0])) (by(with_reducible(repeat' first|refine bx ?_ ?_|refine dp ?_ ?_|refine dq ?_|refine bz ?_))<;>(first|exact tv)) (by exact⟨bQ _,rfl⟩)
  ·rintro ⟨k,X⟩ hI
   have hI:fH tw D p f e n a L (some X0) k (some X):=hI
   have hk0:k≤n:=cl hI.1 qD
   have we:w6.wrap ((e:Int)+1)=((e+1:Nat):Int):=jS om
   have wm:w6.wrap (((k+1:Nat):Int)*(e:Int))=(((k+1)*e:Nat):Int):=jT om om
   have hl:L.length≤10:=by omega
   have ek:w6.wrap (((k+1:Nat):Int)+1)=((k+1+1:Nat):Int):=by rw[wo];omega
   refine(let t1:List Prop→List Prop:=fun l0=>(let v1:=eh (au tw D p) f e n a L (some X0) (dG e n a);rq L.length::(X.length=(ab v1).length)::(D=D)::pp tw p ((L=L)::(X=ab v1)::l0));oe (decide ((↑(k+1):Int)≤↑n)) (fun d1=>oe (decide (w6.wrap ((↑(k+1):Int)*↑e)≤↑a)) (fun d2=>aH [true,true] (k+1,(ab (ff (au tw D p) f e n a L (some X) k))) (let v1:=L++[Con.mk (↑e:Int) (↑(k+1):Int) (1:Int) false (0:Int)];let v2:=(↑a:Int)-w6.wrap ((↑(k+1):Int)*↑e);let v5:=(↑n:Int)-↑(k+1);let v6:=(↑e:Int)+1;let v3:=az (au tw D p) f (w6.wrap v6).toNat (w6.wrap v5).toNat (w6.wrap v2).toNat (bu (some v1)) (some X);let v4:=(↑v1.length:Int)-1;let v7:=w6.wrap v4;let v8:=ff (au tw D p) f e n a L (some X) k;((rq (↑e:Int))::(rq (↑n:Int))::(rq (↑a:Int))::(w6.wrap ((↑(k+1):Int)+1)=↑(k+1+1))::(v7.toNat=L.length)::((ab v3).length=(ab v8).length)::(D=D)::pp tw p ((List.take v7.toNat v1=L)::(ab v3=ab v8)::(v7.toNat≤v1.length∧v1.length=v1.length)::((0:Int)≤w6.wrap v4∧w6.wrap v4≤↑v1.length)::(bK tw D p f (w6.wrap v6).toNat (w6.wrap v5).toNat (w6.wrap v2).toNat v1 (some X))::(w6.wrap v6=(↑(w6.wrap v6).toNat:Int))::(w6.wrap v5=(↑(w6.wrap v5).toNat:Int))::(w6.wrap v2=(↑(w6.wrap v2).toNat:Int))::(L.length+1=v1.length)::(rq X.length)::(D=D)::pp tw p ([rq v1,X=X,(gz L).view.num=L.length∧L.length+1≤1000000,ty d2,ty d1])))) ?_ ?_ ?_)
    (fun d2=>b9 [true,false] (t1 [ty d2,ty d1]) ?_))
    (fun d1=>b9 [false] (t1 [ty d1]) ?_))
   all_goals with_reducible(repeat' first|exact dA|refine bx ?_ ?_|refine dp ?_ ?_|refine dq ?_|refine bz ?_)
   all_goals first|(refine dO.mk ?_;exact BO)|exact KX|exact K2|exact JH)
theorem tu {a:Nat}{b:Bool}(h:((a:Int)==0)=b):Nat.beq a 0=b:=by
 subst h
 cases a with
 |zero=>rfl
 |succ a=>
  cases hb:(((a+1:Nat):Int)==0)with
  |false=>rfl
  |true=>have:=eq_of_beq hb;omega
theorem Yb {x y:Nat}(h:y≤x):decide ((y:Int)>(x:Int))=false:=bI om
theorem Yc {x y:Nat}(h:x<y):decide ((y:Int)>(x:Int))=true:=bJ om
section
variable {tw:Bool}{D p:Int}
variable {f e n a:Nat}{L:LC}{o:cw}
theorem mJ (hc:bK tw D p (f+1) e n a L o)(h0:0<n)(h:n*e≤a):bK tw D p f (e+1) n a L o:=by
 obtain⟨c1,c2,c3,c4,c5,c6,c7,c8,c9⟩:=hc
 have hen:e≤a:=cl (Nat.le_mul_of_pos_left e h0) h
 rw[jQ h0 h]at c8
 have hg:=GU (zF tw D p) (f:=f) (e:=e) (n:=n) (a:=a) (L:=L) (o:=az (au tw D p) f (e+1) n a L o) (bQ (dG e n a))
 exact⟨om,om,c3,fun _=>h0,c5,om,c7,cl hg c8,c9⟩
theorem mK (hc:bK tw D p (f+1) e n a L o)(h0:0<n)(h:n*e≤a):qO tw D p f e n a L (az (au tw D p) f (e+1) n a L o):=by
 obtain⟨c1,c2,c3,c4,c5,c6,c7,c8,c9⟩:=hc
 have hen:e≤a:=cl (Nat.le_mul_of_pos_left e h0) h
 rw[jQ h0 h]at c8
 exact⟨om,h0,h,c3,c5,om,c7,c8,c9⟩
theorem Hy (hc:bK tw D p (f+1) e n a L o)(hn:n=0)(ha:Nat.beq a 0=true):cW tw D p L o:=by
 obtain⟨c1,c2,c3,c4,c5,c6,c7,c8,c9⟩:=hc
 subst hn
 rw[Ai,ha]at c8
 exact Uv (kR fun h=>by have:=c4 h;omega) om c8 c9 c5
end
theorem Sm:∀(tw:Bool)(D p:Int)(f e n a:Nat)(L:LC)(hc:bK tw D p (f+1) e n a L none)(hn:n=0),aP Tryz.prog EV.ng (cZ tw D p (f+1) e n a (some L) (some L) none):=by
 refine gL ?_ ?_<;>(
  intro tw D p f e n a L hc hn
  have hz:((n:Int)==0)=true:=(by subst hn;rfl)
  have hs:az (au tw D p) (f+1) e n a L none=bif Nat.beq a 0 then(au tw D p) L none else none:=by subst hn;rfl
  refine cT (cF (cD (se tw D p) (cm _ _))) Tryz.func69 aE ?_
  intro d hd
  cases d
  rotate_right
  have hd:((az (au tw D p) (f+1) e n a (bu (some L)) none).isNone)=true:=hd
  refine oe ((↑a:Int)==0) (fun d1=>oe ((au tw D p L none).isNone) (fun d2=>lr (tp 1111) ((rq L.length)::(D=D)::pp tw p ((L=L)::(aa ((↑n:Int)==0) true)::(cW tw D p L none)::(rq L.length)::(L=L)::(D=D)::pp tw p ([ty d2,ty d1,aa ((↑n:Int)==0) true]))) ?_)
   (fun d2=>a8.no ?_))
   (fun d1=>lr (tp 121) ((rq L.length)::(D=D)::pp tw p ([L=L,aa ((↑n:Int)==0) true,ty d1,aa ((↑n:Int)==0) true])) ?_)
  all_goals with_reducible(repeat' first|exact dA|refine bx ?_ ?_|refine dp ?_ ?_|refine dq ?_|refine bz ?_|(delta aa;assumption))
  rotate_right
  have hd:((az (au tw D p) (f+1) e n a (bu (some L)) none).isNone)=false:=hd
  refine oe ((↑a:Int)==0) (fun d1=>oe ((au tw D p L none).isNone) (fun d2=>a8.no ?_)
   (fun d2=>lr (tp 1121) (let v1:=az (au tw D p) (f+1) e n a (bu (some L)) none;((rq L.length)::((ab (au tw D p L none)).length=(ab v1).length)::(D=D)::pp tw p ((L=L)::(ab (au tw D p L none)=ab v1)::(aa ((↑n:Int)==0) true)::(cW tw D p L none)::(rq L.length)::(L=L)::(D=D)::pp tw p ([ty d2,ty d1,aa ((↑n:Int)==0) true])))) ?_))
   (fun d1=>a8.no ?_)
  all_goals with_reducible(repeat' first|exact dA|refine bx ?_ ?_|refine dp ?_ ?_|refine dq ?_|refine bz ?_|(delta aa;assumption))
  all_goals first|exact JN|(first|exact tv|exact Hy hc hn (tu d1)|(have e1:=tu d1;rw[e1]at hs;first|exact xq|exact xt)))
theorem So:∀(tw:Bool)(D p:Int)(f e n a:Nat)(L:LC)(X:LL)(hc:bK tw D p (f+1) e n a L (some X))(hn:n=0),aP Tryz.prog EV.ng (cZ tw D p (f+1) e n a (some L) (some L) (some X)):=by
 refine gL ?_ ?_<;>(
  intro tw D p f e n a L X hc hn
  have hz:((n:Int)==0)=true:=(by subst hn;rfl)
  have hs:az (au tw D p) (f+1) e n a L (some X)=bif Nat.beq a 0 then(au tw D p) L (some X)else(some X):=by subst hn;rfl
  refine cT (cF (cD (se tw D p) (cm _ _))) Tryz.func69 aE ?_
  intro d hd
  cases d
  ·exact Bool.noConfusion (show false=true from hd)
  ·refine oe ((↑a:Int)==0) (fun d1=>lr (tp 111) (let v1:=az (au tw D p) (f+1) e n a (bu (some L)) (some X);((rq L.length)::((ab (au tw D p L (some X))).length=(ab v1).length)::(D=D)::pp tw p ((L=L)::(ab (au tw D p L (some X))=ab v1)::(aa ((↑n:Int)==0) true)::(cW tw D p L (some X))::(rq L.length)::(L=L)::(rq X.length)::(D=D)::pp tw p ([X=X,ty d1,aa ((↑n:Int)==0) true])))) ?_)
    (fun d1=>lr (tp 121) (let v1:=az (au tw D p) (f+1) e n a (bu (some L)) (some X);((rq L.length)::(X.length=(ab v1).length)::(D=D)::pp tw p ([L=L,X=ab v1,aa ((↑n:Int)==0) true,ty d1,aa ((↑n:Int)==0) true]))) ?_)
   all_goals with_reducible(repeat' first|exact dA|refine bx ?_ ?_|refine dp ?_ ?_|refine dq ?_|refine bz ?_|(delta aa;assumption))
   all_goals first|exact JN|(first|exact tv|exact Hy hc hn (tu d1)|(have e1:=tu d1;rw[e1]at hs;first|exact BJ|exact BN)))
theorem Ux:∀(tw:Bool)(D p:Int)(f e n a:Nat)(L:LC)(h1:0<n)(h2:n≤10)(h3:e≤101)(h4:a≤100)(h5:a<n*e),aP Tryz.prog EV.ng (cZ tw D p (f+1) e n a (some L) (some L) none):=by
 refine gL ?_ ?_<;>(
  intro tw D p f e n a L h1 h2 h3 h4 h5
  have hz:((n:Int)==0)=false:=cp.2 om
  have hy:decide (w6.wrap ((n:Int)*(e:Int))>(a:Int))=true:=xw
  have hs:az (au tw D p) (f+1) e n a L none=none:=qn h1 h5
  refine cT c0 Tryz.func69 aE ?_
  intro d hd
  cases d
  rotate_right
  have hd:((az (au tw D p) (f+1) e n a (bu (some L)) none).isNone)=true:=hd
  refine lr (tp 221) ((rq L.length)::(D=D)::pp tw p ([L=L,aa (decide (w6.wrap ((↑n:Int)*↑e)>↑a)) true,aa ((↑n:Int)==0) false,aa ((↑n:Int)==0) false])) ?_
  all_goals with_reducible(repeat' first|exact dA|refine bx ?_ ?_|refine dp ?_ ?_|refine dq ?_|refine bz ?_|(delta aa;assumption))
  rotate_right
  have hd:((az (au tw D p) (f+1) e n a (bu (some L)) none).isNone)=false:=hd
  refine a8.no ?_
  all_goals first|exact J8|(first|exact tv|exact xq|exact xt))
theorem Uy:∀(tw:Bool)(D p:Int)(f e n a:Nat)(L:LC)(X:LL)(h1:0<n)(h2:n≤10)(h3:e≤101)(h4:a≤100)(h5:a<n*e),aP Tryz.prog EV.ng (cZ tw D p (f+1) e n a (some L) (some L) (some X)):=by
 refine gL ?_ ?_<;>(
  intro tw D p f e n a L X h1 h2 h3 h4 h5
  have hz:((n:Int)==0)=false:=cp.2 om
  have hy:decide (w6.wrap ((n:Int)*(e:Int))>(a:Int))=true:=xw
  have hs:az (au tw D p) (f+1) e n a L (some X)=(some X):=qn h1 h5
  refine cT c0 Tryz.func69 aE ?_
  intro d hd
  cases d
  ·exact Bool.noConfusion (show false=true from hd)
  ·refine lr (tp 221) (let z1:=az (au tw D p) (f+1) e n a (bu (some L)) (some X);((rq L.length)::(X.length=(ab z1).length)::(D=D)::pp tw p ([L=L,X=ab z1,aa (decide (w6.wrap ((↑n:Int)*↑e)>↑a)) true,aa ((↑n:Int)==0) false,aa ((↑n:Int)==0) false]))) ?_
   all_goals with_reducible(repeat' first|exact dA|refine bx ?_ ?_|refine dp ?_ ?_|refine dq ?_|refine bz ?_|(delta aa;assumption))
   all_goals first|exact J8|(first|exact tv|exact BJ|exact BN))
theorem Uz:∀(tw:Bool)(D p:Int)(f e n a:Nat)(h1:0<n)(h2:n≤10)(h3:e≤101)(h4:a≤100)(h5:a<n*e),aP Tryz.prog EV.ng (cZ tw D p (f+1) e n a none none none):=by
 refine gL ?_ ?_<;>(
  intro tw D p f e n a h1 h2 h3 h4 h5
  have hz:((n:Int)==0)=false:=cp.2 om
  have hy:decide (w6.wrap ((n:Int)*(e:Int))>(a:Int))=true:=xw
  have hs:az (au tw D p) (f+1) e n a [] none=none:=qn h1 h5
  refine cT c0 Tryz.func69 aE ?_
  intro d hd
  cases d
  rotate_right
  have hd:((az (au tw D p) (f+1) e n a (bu none) none).isNone)=true:=hd
  refine lr (tp 221) ((D=D)::pp tw p ([aa (decide (w6.wrap ((↑n:Int)*↑e)>↑a)) true,aa ((↑n:Int)==0) false,aa ((↑n:Int)==0) false])) ?_
  all_goals with_reducible(repeat' first|exact dA|refine bx ?_ ?_|refine dp ?_ ?_|refine dq ?_|refine bz ?_|(delta aa;assumption))
  rotate_right
  have hd:((az (au tw D p) (f+1) e n a (bu none) none).isNone)=false:=hd
  refine a8.no ?_
  all_goals first|exact J6|(first|exact tv|(show _=(ab (az (au tw D p) (f+1) e n a [] none)).length;rw[hs]<;>rfl)|(show _=ab (az (au tw D p) (f+1) e n a [] none);rw[hs]<;>rfl)))
theorem UA:∀(tw:Bool)(D p:Int)(f e n a:Nat)(X:LL)(h1:0<n)(h2:n≤10)(h3:e≤101)(h4:a≤100)(h5:a<n*e),aP Tryz.prog EV.ng (cZ tw D p (f+1) e n a none none (some X)):=by
 refine gL ?_ ?_<;>(
  intro tw D p f e n a X h1 h2 h3 h4 h5
  have hz:((n:Int)==0)=false:=cp.2 om
  have hy:decide (w6.wrap ((n:Int)*(e:Int))>(a:Int))=true:=xw
  have hs:az (au tw D p) (f+1) e n a [] (some X)=(some X):=qn h1 h5
  refine cT c0 Tryz.func69 aE ?_
  intro d hd
  cases d
  ·exact Bool.noConfusion (show false=true from hd)
  ·refine lr (tp 221) (let z1:=az (au tw D p) (f+1) e n a (bu none) (some X);((X.length=(ab z1).length)::(D=D)::pp tw p ([X=ab z1,aa (decide (w6.wrap ((↑n:Int)*↑e)>↑a)) true,aa ((↑n:Int)==0) false,aa ((↑n:Int)==0) false]))) ?_
   all_goals with_reducible(repeat' first|exact dA|refine bx ?_ ?_|refine dp ?_ ?_|refine dq ?_|refine bz ?_|(delta aa;assumption))
   all_goals first|exact J6|(first|exact tv|exact BI|exact BM))
set_option maxHeartbeats 4000000 in
theorem T8:∀(tw:Bool)(D p:Int)(f e n a:Nat)(hc:qO tw D p f e n a ([]:LC) none)(ih:∀e n a L o,bK tw D p f e n a L o→aP Tryz.prog EV.ng (cZ tw D p f e n a (some L) (some L) o)),An 6 Tryz.f69 [0,1,1,1,1] (wC tw D p f e n a ([]:LC) none none):=by
 refine gL ?_ ?_<;>(
  intro tw D p f e n a hc ih
  have hcc:=hc
  obtain⟨c1,c2,c3,c4,c5,c6,c7,c8,c9⟩:=hcc
  refine iB (cF (cD (jP tw D p ih js) (cm _ _))) aE (Xj tw D p e n a) (fun q=>match q with|none=>n+2|some (k,_)=>n+1-k) (fun _ q=>match q with|none=>True|some (k,o)=>1≤k∧fH tw D p f e n a [] none k o) ?_ ?_
  ·intro d hd
   exact st (none) ((rq (↑e:Int))::(rq (↑n:Int))::(rq (↑a:Int))::((1:Int)=↑((0:Nat)+1))::(D=D)::pp tw p ([])) (by(with_reducible(repeat' first|refine bx ?_ ?_|refine dp ?_ ?_|refine dq ?_|refine bz ?_))<;>(first|exact tv)) (by exact True.intro)
  ·rintro d hd q hI
   have we:w6.wrap ((e:Int)+1)=((e+1:Nat):Int):=jS om
   have hl:([]:LC).length≤10:=by decide
   rcases q with _|⟨k,_|X⟩
   rotate_right
   refine(let t1:List Prop→List Prop:=fun l0=>(let v1:=eh (au tw D p) f e n a [] none (dG e n a);rq (0:Nat)::(X.length=(ab v1).length)::(D=D)::pp tw p ((([]:LC)=[])::(X=ab v1)::l0));oe (decide ((↑(k+1):Int)≤↑n)) (fun d1=>oe (decide (w6.wrap ((↑(k+1):Int)*↑e)≤↑a)) (fun d2=>aH [true,true] (some (k+1,some (ab (ff (au tw D p) f e n a ([]:LC) (some X) k)))) (let v1:=[]++[Con.mk (↑e:Int) (↑(k+1):Int) (1:Int) false (0:Int)];let v2:=(↑a:Int)-w6.wrap ((↑(k+1):Int)*↑e);let v6:=(↑e:Int)+1;let v5:=(↑n:Int)-↑(k+1);let v3:=az (au tw D p) f (w6.wrap v6).toNat (w6.wrap v5).toNat (w6.wrap v2).toNat (bu (some v1)) (some X);let v4:=(↑v1.length:Int)-1;let v7:=ff (au tw D p) f e n a [] (some X) k;((rq (↑e:Int))::(rq (↑n:Int))::(rq (↑a:Int))::(w6.wrap ((↑(k+1):Int)+1)=↑(k+1+1))::((w6.wrap v4).toNat=0)::((ab v3).length=(ab v7).length)::(D=D)::pp tw p ((([]:LC)=[])::(ab v3=ab v7)::((w6.wrap v4).toNat≤v1.length∧v1.length=v1.length)::((0:Int)≤w6.wrap v4∧w6.wrap v4≤↑v1.length)::(bK tw D p f (w6.wrap v6).toNat (w6.wrap v5).toNat (w6.wrap v2).toNat v1 (some X))::(w6.wrap v6=(↑(w6.wrap v6).toNat:Int))::(w6.wrap v5=(↑(w6.wrap v5).toNat:Int))::(w6.wrap v2=(↑(w6.wrap v2).toNat:Int))::((0:Nat)+1=v1.length)::(rq X.length)::(D=D)::pp tw p ([rq v1,X=X,(gz []).view.num=0∧(0:Nat)+1≤1000000,ty d2,ty d1])))) ?_ ?_ ?_)
    (fun d2=>(eo 3 ?_)))
    (fun d1=>(eo 4 ?_)))
   all_goals with_reducible(repeat' first|exact dA|refine bx ?_ ?_|refine dp ?_ ?_|refine dq ?_|refine bz ?_)
   all_goals try(
    refine em 3 ?_
    cases d
    rotate_right
    refine a8.no ?_
    rotate_right
    refine b9 [true,false] (t1 [ty d2,ty d1]) ?_
    all_goals with_reducible(repeat' first|exact dA|refine bx ?_ ?_|refine dp ?_ ?_|refine dq ?_|refine bz ?_))
   all_goals try(
    refine em 4 ?_
    cases d
    rotate_right
    refine a8.no ?_
    rotate_right
    refine b9 [false] (t1 [ty d1]) ?_
    all_goals with_reducible(repeat' first|exact dA|refine bx ?_ ?_|refine dp ?_ ?_|refine dq ?_|refine bz ?_))
   rotate_right
   refine(let t1:List Prop→List Prop:=fun l0=>rq (↑e:Int)::rq (↑n:Int)::rq (↑a:Int)::(w6.wrap ((↑(k+1):Int)+1)=↑(k+1+1))::((w6.wrap ((↑([]++[Con.mk (↑e:Int) (↑(k+1):Int) (1:Int) false (0:Int)]).length:Int)-1)).toNat=0)::l0;oe (decide ((↑(k+1):Int)≤↑n)) (fun d1=>oe (decide (w6.wrap ((↑(k+1):Int)*↑e)≤↑a)) (fun d2=>let y1:List Prop:=[(gz []).view.num=0∧(0:Nat)+1≤1000000,ty d2,ty d1];have u1:ar y1:=⟨?_,d2,d1⟩;oe (Option.isNone (az (au tw D p) f (w6.wrap ((↑e:Int)+1)).toNat (w6.wrap ((↑n:Int)-↑(k+1))).toNat (w6.wrap ((↑a:Int)-w6.wrap ((↑(k+1):Int)*↑e))).toNat (bu (some ([]++[Con.mk (↑e:Int) (↑(k+1):Int) (1:Int) false (0:Int)]))) none)) (fun d3=>aH (tp 111) (some (k+1,none)) (t1 (let v1:=[]++[Con.mk (↑e:Int) (↑(k+1):Int) (1:Int) false (0:Int)];let v2:=(↑a:Int)-w6.wrap ((↑(k+1):Int)*↑e);let v3:=(↑n:Int)-↑(k+1);let v4:=(↑v1.length:Int)-1;let v5:=(↑e:Int)+1;(D=D)::pp tw p ((([]:LC)=[])::((w6.wrap v4).toNat≤v1.length∧v1.length=v1.length)::((0:Int)≤w6.wrap v4∧w6.wrap v4≤↑v1.length)::(bK tw D p f (w6.wrap v5).toNat (w6.wrap v3).toNat (w6.wrap v2).toNat v1 none)::(w6.wrap v5=(↑(w6.wrap v5).toNat:Int))::(w6.wrap v3=(↑(w6.wrap v3).toNat:Int))::(w6.wrap v2=(↑(w6.wrap v2).toNat:Int))::((0:Nat)+1=v1.length)::(D=D)::pp tw p (rq v1::ty d3::y1)))) ?_ ?_ ?_)
    (fun d3=>aH (tp 112) (some (k+1,(some (ab (ff (au tw D p) f e n a ([]:LC) none k))))) (t1 (let v1:=[]++[Con.mk (↑e:Int) (↑(k+1):Int) (1:Int) false (0:Int)];let v2:=(↑a:Int)-w6.wrap ((↑(k+1):Int)*↑e);let v4:=(↑n:Int)-↑(k+1);let v6:=(↑e:Int)+1;let v3:=az (au tw D p) f (w6.wrap v6).toNat (w6.wrap v4).toNat (w6.wrap v2).toNat (bu (some v1)) none;let v5:=(↑v1.length:Int)-1;let v7:=ff (au tw D p) f e n a [] none k;((ab v3).length=(ab v7).length)::(D=D)::pp tw p ((([]:LC)=[])::(ab v3=ab v7)::((w6.wrap v5).toNat≤v1.length∧v1.length=v1.length)::((0:Int)≤w6.wrap v5∧w6.wrap v5≤↑v1.length)::(bK tw D p f (w6.wrap v6).toNat (w6.wrap v4).toNat (w6.wrap v2).toNat v1 none)::(w6.wrap v6=(↑(w6.wrap v6).toNat:Int))::(w6.wrap v4=(↑(w6.wrap v4).toNat:Int))::(w6.wrap v2=(↑(w6.wrap v2).toNat:Int))::((0:Nat)+1=v1.length)::(D=D)::pp tw p (rq v1::ty d3::y1)))) ?_ ?_ ?_))
    (fun d2=>(eo 1 ?_)))
    (fun d1=>(eo 2 ?_)))
   all_goals with_reducible(repeat' first|exact dA|refine bx ?_ ?_|refine dp ?_ ?_|refine dq ?_|refine bz ?_)
   all_goals try(
    refine em 1 ?_
    cases d
    rotate_right
    refine b9 [true,false] ((rq (0:Nat))::(D=D)::pp tw p ([([]:LC)=[],ty d2,ty d1])) ?_
    all_goals with_reducible(repeat' first|exact dA|refine bx ?_ ?_|refine dp ?_ ?_|refine dq ?_|refine bz ?_)
    rotate_right
    refine a8.no ?_)
   all_goals try(
    refine em 2 ?_
    cases d
    rotate_right
    refine b9 [false] ((rq (0:Nat))::(D=D)::pp tw p ([([]:LC)=[],ty d1])) ?_
    all_goals with_reducible(repeat' first|exact dA|refine bx ?_ ?_|refine dp ?_ ?_|refine dq ?_|refine bz ?_)
    rotate_right
    refine a8.no ?_)
   rotate_right
   refine(let t1:List Prop→List Prop:=fun l0=>(let v1:=(↑((0:Nat)+1):Int);rq (↑e:Int)::rq (↑n:Int)::rq (↑a:Int)::(w6.wrap (v1+1)=↑((0:Nat)+1+1))::((w6.wrap ((↑[Con.mk (↑e:Int) v1 (1:Int) false (0:Int)].length:Int)-1)).toNat=0)::l0);oe (decide ((↑((0:Nat)+1):Int)≤↑n)) (fun d1=>oe (decide (w6.wrap ((↑((0:Nat)+1):Int)*↑e)≤↑a)) (fun d2=>let y1:List Prop:=[(0:Nat)<1∧(1:Nat)≤1000000,ty d2,ty d1];have u1:ar y1:=⟨?_,d2,d1⟩;oe (Option.isNone (az (au tw D p) f (w6.wrap ((↑e:Int)+1)).toNat (w6.wrap ((↑n:Int)-↑((0:Nat)+1))).toNat (w6.wrap ((↑a:Int)-w6.wrap ((↑((0:Nat)+1):Int)*↑e))).toNat (bu (some [Con.mk (↑e:Int) (↑((0:Nat)+1):Int) (1:Int) false (0:Int)])) none)) (fun d3=>aH (tp 111) (some (0+1,none)) (t1 (let v1:=[Con.mk (↑e:Int) (↑((0:Nat)+1):Int) (1:Int) false (0:Int)];let v2:=(↑a:Int)-w6.wrap ((↑((0:Nat)+1):Int)*↑e);let v3:=(↑n:Int)-↑((0:Nat)+1);let v4:=(↑v1.length:Int)-1;let v5:=(↑e:Int)+1;(D=D)::pp tw p ((([]:LC)=[])::((w6.wrap v4).toNat≤v1.length∧v1.length=v1.length)::((0:Int)≤w6.wrap v4∧w6.wrap v4≤↑v1.length)::(bK tw D p f (w6.wrap v5).toNat (w6.wrap v3).toNat (w6.wrap v2).toNat v1 none)::(w6.wrap v5=(↑(w6.wrap v5).toNat:Int))::(w6.wrap v3=(↑(w6.wrap v3).toNat:Int))::(w6.wrap v2=(↑(w6.wrap v2).toNat:Int))::((1:Nat)=v1.length)::(D=D)::pp tw p (rq (v1)::ty d3::y1)))) ?_ ?_ ?_)
    (fun d3=>aH (tp 112) (some (0+1,(some (ab (ff (au tw D p) f e n a ([]:LC) none 0))))) (t1 (let v1:=[Con.mk (↑e:Int) (↑((0:Nat)+1):Int) (1:Int) false (0:Int)];let v2:=(↑a:Int)-w6.wrap ((↑((0:Nat)+1):Int)*↑e);let v3:=w6.wrap ((↑n:Int)-↑((0:Nat)+1));let v4:=w6.wrap ((↑e:Int)+1);let v5:=az (au tw D p) f v4.toNat v3.toNat (w6.wrap v2).toNat (bu (some v1)) none;let v6:=(↑v1.length:Int)-1;let v7:=ff (au tw D p) f e n a [] none (0:Nat);((ab v5).length=(ab v7).length)::(D=D)::pp tw p ((([]:LC)=[])::(ab v5=ab v7)::((w6.wrap v6).toNat≤v1.length∧v1.length=v1.length)::((0:Int)≤w6.wrap v6∧w6.wrap v6≤↑v1.length)::(bK tw D p f v4.toNat v3.toNat (w6.wrap v2).toNat v1 none)::(w6.wrap ((↑e:Int)+1)=↑v4.toNat)::(w6.wrap ((↑n:Int)-↑((0:Nat)+1))=↑v3.toNat)::(w6.wrap v2=(↑(w6.wrap v2).toNat:Int))::((1:Nat)=v1.length)::(D=D)::pp tw p (rq (v1)::ty d3::y1)))) ?_ ?_ ?_))
    (fun d2=>a8.no ?_))
    (fun d1=>a8.no ?_))
   all_goals with_reducible(repeat' first|exact dA|refine bx ?_ ?_|refine dp ?_ ?_|refine dq ?_|refine bz ?_)
   all_goals first|exact K6|(refine cL.mk ?_;(first|exact KW|(have hJ:fH tw D p f e n a [] none 0 none:=⟨bQ _,rfl⟩;obtain⟨h1,h2⟩:=qP c2 c3 hJ;have wn:w6.wrap ((n:Int)-((0+1:Nat):Int))=((n-(0+1):Nat):Int):=lX om h1;have wa:w6.wrap ((a:Int)-w6.wrap (((0+1:Nat):Int)*(e:Int)))=((a-(0+1)*e:Nat):Int):=lY om om om h2;(try simp only[we,wn,wa,cg]at d3);first|exact BW|exact BV|exact B3)))|(refine a8.mk ?_;(first|exact KY|(have hJ:fH tw D p f e n a [] none 0 none:=⟨bQ _,rfl⟩;obtain⟨h1,h2⟩:=qP c2 c3 hJ;have wn:w6.wrap ((n:Int)-((0+1:Nat):Int))=((n-(0+1):Nat):Int):=lX om h1;have wa:w6.wrap ((a:Int)-w6.wrap (((0+1:Nat):Int)*(e:Int)))=((a-(0+1)*e:Nat):Int):=lY om om om h2;exfalso;first|(have:=oF d1;omega)|exact Ky)))|(first|exact tv|exact⟨rfl,de⟩|exact Ir|exact wB|exact A8 hl|decide|exact JI|exact K0|(have hJ:fH tw D p f e n a [] none 0 none:=⟨bQ _,rfl⟩;obtain⟨h1,h2⟩:=qP c2 c3 hJ;have wn:w6.wrap ((n:Int)-((0+1:Nat):Int))=((n-(0+1):Nat):Int):=lX om h1;have wa:w6.wrap ((a:Int)-w6.wrap (((0+1:Nat):Int)*(e:Int)))=((a-(0+1)*e:Nat):Int):=lY om om om h2;first|(exact wo)|exact Ki)))
set_option maxHeartbeats 4000000 in
theorem He:∀(tw:Bool)(D p:Int)(f e n a:Nat)(X0:LL)(hc:qO tw D p f e n a ([]:LC) (some X0))(ih:∀e n a L o,bK tw D p f e n a L o→aP Tryz.prog EV.ng (cZ tw D p f e n a (some L) (some L) o)),An 6 Tryz.f69 [0,1,1,1,1] (wC tw D p f e n a ([]:LC) none (some X0)):=by
 refine gL ?_ ?_<;>(
  intro tw D p f e n a X0 hc ih
  have hcc:=hc
  obtain⟨c1,c2,c3,c4,c5,c6,c7,c8,c9⟩:=hcc
  refine fj (cF (cD (jP tw D p ih js) (cm _ _))) aE (Xk tw D p e n a X0) (fun q=>match q with|none=>n+2|some (k,_)=>n+1-k) (fun q=>match q with|none=>True|some (k,X)=>1≤k∧fH tw D p f e n a [] (some X0) k (some X)) ?_ ?_
  ·exact st (none) ((rq (↑e:Int))::(rq (↑n:Int))::(rq (↑a:Int))::((1:Int)=↑((0:Nat)+1))::(rq X0.length)::(D=D)::pp tw p ([X0=X0])) (by(with_reducible(repeat' first|refine bx ?_ ?_|refine dp ?_ ?_|refine dq ?_|refine bz ?_))<;>(first|exact tv)) (by exact True.intro)
  ·intro q hI
   have we:w6.wrap ((e:Int)+1)=((e+1:Nat):Int):=jS om
   have hl:([]:LC).length≤10:=by decide
   rcases q with _|⟨k,X⟩
   rotate_right
   refine(let t1:List Prop→List Prop:=fun l0=>(let v1:=eh (au tw D p) f e n a [] (some X0) (dG e n a);rq (0:Nat)::(X.length=(ab v1).length)::(D=D)::pp tw p ((([]:LC)=[])::(X=ab v1)::l0));oe (decide ((↑(k+1):Int)≤↑n)) (fun d1=>oe (decide (w6.wrap ((↑(k+1):Int)*↑e)≤↑a)) (fun d2=>aH [true,true] (some (k+1,(ab (ff (au tw D p) f e n a ([]:LC) (some X) k)))) (let v1:=[]++[Con.mk (↑e:Int) (↑(k+1):Int) (1:Int) false (0:Int)];let v2:=(↑a:Int)-w6.wrap ((↑(k+1):Int)*↑e);let v6:=(↑e:Int)+1;let v5:=(↑n:Int)-↑(k+1);let v3:=az (au tw D p) f (w6.wrap v6).toNat (w6.wrap v5).toNat (w6.wrap v2).toNat (bu (some v1)) (some X);let v4:=(↑v1.length:Int)-1;let v7:=ff (au tw D p) f e n a [] (some X) k;((rq (↑e:Int))::(rq (↑n:Int))::(rq (↑a:Int))::(w6.wrap ((↑(k+1):Int)+1)=↑(k+1+1))::((w6.wrap v4).toNat=0)::((ab v3).length=(ab v7).length)::(D=D)::pp tw p ((([]:LC)=[])::(ab v3=ab v7)::((w6.wrap v4).toNat≤v1.length∧v1.length=v1.length)::((0:Int)≤w6.wrap v4∧w6.wrap v4≤↑v1.length)::(bK tw D p f (w6.wrap v6).toNat (w6.wrap v5).toNat (w6.wrap v2).toNat v1 (some X))::(w6.wrap v6=(↑(w6.wrap v6).toNat:Int))::(w6.wrap v5=(↑(w6.wrap v5).toNat:Int))::(w6.wrap v2=(↑(w6.wrap v2).toNat:Int))::((0:Nat)+1=v1.length)::(rq X.length)::(D=D)::pp tw p ([rq v1,X=X,(gz []).view.num=0∧(0:Nat)+1≤1000000,ty d2,ty d1])))) ?_ ?_ ?_)
    (fun d2=>b9 [true,false] (t1 [ty d2,ty d1]) ?_))
    (fun d1=>b9 [false] (t1 [ty d1]) ?_))
   all_goals with_reducible(repeat' first|exact dA|refine bx ?_ ?_|refine dp ?_ ?_|refine dq ?_|refine bz ?_)
   rotate_right
   refine oe (decide ((↑((0:Nat)+1):Int)≤↑n)) (fun d1=>oe (decide (w6.wrap ((↑((0:Nat)+1):Int)*↑e)≤↑a)) (fun d2=>aH [true,true] (some (0+1,(ab (ff (au tw D p) f e n a ([]:LC) (some X0) 0)))) (let v8:=(↑((0:Nat)+1):Int);let v1:=[Con.mk (↑e:Int) v8 (1:Int) false (0:Int)];let v2:=(↑a:Int)-w6.wrap (v8*↑e);let v3:=w6.wrap ((↑n:Int)-v8);let v6:=(↑e:Int)+1;let v4:=az (au tw D p) f (w6.wrap v6).toNat v3.toNat (w6.wrap v2).toNat (bu (some v1)) (some X0);let v5:=(↑v1.length:Int)-1;let v7:=ff (au tw D p) f e n a [] (some X0) (0:Nat);((rq (↑e:Int))::(rq (↑n:Int))::(rq (↑a:Int))::(w6.wrap (v8+1)=↑((0:Nat)+1+1))::((w6.wrap v5).toNat=0)::((ab v4).length=(ab v7).length)::(D=D)::pp tw p ((([]:LC)=[])::(ab v4=ab v7)::((w6.wrap v5).toNat≤v1.length∧v1.length=v1.length)::((0:Int)≤w6.wrap v5∧w6.wrap v5≤↑v1.length)::(bK tw D p f (w6.wrap v6).toNat v3.toNat (w6.wrap v2).toNat v1 (some X0))::(w6.wrap v6=(↑(w6.wrap v6).toNat:Int))::(w6.wrap ((↑n:Int)-v8)=↑v3.toNat)::(w6.wrap v2=(↑(w6.wrap v2).toNat:Int))::((1:Nat)=v1.length)::(rq X0.length)::(D=D)::pp tw p ([rq (v1),X0=X0,(0:Nat)<1∧(1:Nat)≤1000000,ty d2,ty d1])))) ?_ ?_ ?_)
    (fun d2=>a8.no ?_))
    (fun d1=>a8.no ?_)
   all_goals with_reducible(repeat' first|exact dA|refine bx ?_ ?_|refine dp ?_ ?_|refine dq ?_|refine bz ?_)
   all_goals first|exact K6|(refine cL.mk ?_;(first|exact KW|(have hJ:fH tw D p f e n a [] (some X0) 0 (some X0):=⟨bQ _,rfl⟩;obtain⟨h1,h2⟩:=qP c2 c3 hJ;have wn:w6.wrap ((n:Int)-((0+1:Nat):Int))=((n-(0+1):Nat):Int):=lX om h1;have wa:w6.wrap ((a:Int)-w6.wrap (((0+1:Nat):Int)*(e:Int)))=((a-(0+1)*e:Nat):Int):=lY om om om h2;(try simp only[we,wn,wa,cg]at d3);first|exact BW|exact BV|exact B3)))|(refine a8.mk ?_;(first|exact KY|(have hJ:fH tw D p f e n a [] (some X0) 0 (some X0):=⟨bQ _,rfl⟩;obtain⟨h1,h2⟩:=qP c2 c3 hJ;have wn:w6.wrap ((n:Int)-((0+1:Nat):Int))=((n-(0+1):Nat):Int):=lX om h1;have wa:w6.wrap ((a:Int)-w6.wrap (((0+1:Nat):Int)*(e:Int)))=((a-(0+1)*e:Nat):Int):=lY om om om h2;exfalso;first|(have:=oF d1;omega)|exact Ky)))|(first|exact tv|exact⟨rfl,de⟩|exact Ir|exact wB|exact A8 hl|decide|exact JI|exact K0|(have hJ:fH tw D p f e n a [] (some X0) 0 (some X0):=⟨bQ _,rfl⟩;obtain⟨h1,h2⟩:=qP c2 c3 hJ;have wn:w6.wrap ((n:Int)-((0+1:Nat):Int))=((n-(0+1):Nat):Int):=lX om h1;have wa:w6.wrap ((a:Int)-w6.wrap (((0+1:Nat):Int)*(e:Int)))=((a-(0+1)*e:Nat):Int):=lY om om om h2;first|(exact wo)|exact Ki)))
theorem EJ {fnd:LC→cw→cw}(hs:∀L X,fnd L (some X)=some (ab (fnd L (some X)))){f e n a k:Nat}{L:LC}{X:LL}:eh fnd f e n a L (some X) k=some (ab (eh fnd f e n a L (some X) k)):=by
 induction k with
 |zero=>rfl
 |succ k ih=>rw[td,ih];exact o8 hs _ _ _ _ _ _
noncomputable def Ie (tw:Bool)(D p:Int)(f:Nat)(l1:Option LC)(G:Nat→Nat→Nat→Prop)(go:Nat→List AV→Hs→Option (cS×List Prop)):Nat→List AV→Hs→Option (cS×List Prop):=fun g args H=>bif Nat.beq g 69 then(match args with
 |[e',n',a',.ptr b0 _,.ptr b1 _,_]=>match Io H.m b1 with
  |some none=>match clr e',clr n',clr a' with
   |.int .i64 e,.int .i64 n,.int .i64 a=>match kO H.m b0 with
    |some (.fn _ (.ptr bl _::_))=>match mV H.m bl with
     |none=>none
     |some o=>some (cZ tw D p f e.toNat n.toNat a.toNat none l1 o,[bK tw D p f e.toNat n.toNat a.toNat [] o∧G e.toNat n.toNat a.toNat])
    |_=>none
   |_,_,_=>none
  |_=>go g args H
 |_=>none)else go g args H
theorem nw (tw:Bool)(D p:Int){f:Nat}{l1:Option LC}{G:Nat→Nat→Nat→Prop}(ih:∀e n a o,bK tw D p f e n a [] o→G e n a→aP Tryz.prog EV.ng (cZ tw D p f e n a none l1 o)){go:Nat→List AV→Hs→Option (cS×List Prop)}(hgo:∀f args H A ms,go f args H=some (A,ms)→(∀q∈ms,q)→aP Tryz.prog EV.ng A):∀g args H A ms,Ie tw D p f l1 G go g args H=some (A,ms)→(∀q∈ms,q)→aP Tryz.prog EV.ng A:=by
 intro g args H A ms hq hm
 unfold Ie at hq
 cases hb:Nat.beq g 69 with
 |false=>rw[hb]at hq;exact hgo g args H A ms hq hm
 |true=>
  rw[hb]at hq
  simp only[aU]at hq
  split at hq
  ·split at hq
   ·split at hq
    ·split at hq
     ·split at hq
      ·cases hq
      ·cases hq
       obtain⟨k1,k2⟩:=aA hm
       exact ih _ _ _ _ k1 k2
     ·cases hq
    ·cases hq
   ·exact hgo g _ H A ms hq hm
  ·cases hq
set_option maxHeartbeats 4000000 in
theorem WT:∀(tw:Bool)(D p:Int)(f e n a:Nat)(L:LC)(hc:bK tw D p (f+1) e n a L none)(h1:0<n)(h5:n*e≤a)(hz2:(az (au tw D p) f (e+1) n a L none).isNone=true)(ih:∀e n a L o,bK tw D p f e n a L o→aP Tryz.prog EV.ng (cZ tw D p f e n a (some L) (some L) o)),aP Tryz.prog EV.ng (cZ tw D p (f+1) e n a (some L) (some L) none):=by
 refine gL ?_ ?_<;>(
  intro tw D p f e n a L hc h1 h5 hz2 ih
  have hr:=mJ hc h1 h5
  have hl2:=mK hc h1 h5
  have hs:az (au tw D p) (f+1) e n a L none=_:=jQ h1 h5
  rw[isN hz2]at hl2 hs
  obtain⟨c1,c2,c3,c4,c5,c6,c7,c8,c9⟩:=hc
  have hz:((n:Int)==0)=false:=cp.2 om
  have hy:decide (w6.wrap ((n:Int)*(e:Int))>(a:Int))=false:=nb
  have we:w6.wrap ((e:Int)+1)=((e+1:Nat):Int):=jS om
  have hk:(az (au tw D p) f (w6.wrap ((e:Int)+1)).toNat n a (bu (some L)) none).isNone=true:=ru
  refine cT (cF (cD (jP tw D p ih (se tw D p)) (cm _ _))) Tryz.func69 (bX (Hx tw D p f e n a L hl2 ih)) ?_
  intro d hd
  cases d
  rotate_right
  have hd:((az (au tw D p) (f+1) e n a (bu (some L)) none).isNone)=true:=hd
  refine oe (Option.isNone (eh (au tw D p) f e n a L none (dG e n a))) (fun d1=>lr (tp 22211) (let v1:=w6.wrap ((↑e:Int)+1);((rq L.length)::(D=D)::pp tw p ((L=L)::(rq (↑e:Int))::(rq (↑n:Int))::(rq (↑a:Int))::(rq L.length)::(D=D)::pp tw p ((L=L)::(ty d1)::(bK tw D p f v1.toNat n a L none)::(w6.wrap ((↑e:Int)+1)=↑v1.toNat)::(rq (↑n:Int))::(rq (↑a:Int))::(rq L.length)::(D=D)::pp tw p ([L=L,aa (Option.isNone (az (au tw D p) f v1.toNat n a (bu (some L)) none)) true,aa (decide (w6.wrap ((↑n:Int)*↑e)>↑a)) false,aa ((↑n:Int)==0) false,aa ((↑n:Int)==0) false]))))) ?_)
   (fun d1=>a8.no ?_)
  all_goals with_reducible(repeat' first|exact dA|refine bx ?_ ?_|refine dp ?_ ?_|refine dq ?_|refine bz ?_|(delta aa;assumption))
  rotate_right
  have hd:((az (au tw D p) (f+1) e n a (bu (some L)) none).isNone)=false:=hd
  refine oe (Option.isNone (eh (au tw D p) f e n a L none (dG e n a))) (fun d1=>a8.no ?_)
   (fun d1=>lr (tp 22212) (let v1:=w6.wrap ((↑e:Int)+1);let v2:=az (au tw D p) (f+1) e n a (bu (some L)) none;let v3:=eh (au tw D p) f e n a L none (dG e n a);((rq L.length)::((ab v3).length=(ab v2).length)::(D=D)::pp tw p ((L=L)::(ab v3=ab v2)::(rq (↑e:Int))::(rq (↑n:Int))::(rq (↑a:Int))::(rq L.length)::(D=D)::pp tw p ((L=L)::(ty d1)::(bK tw D p f v1.toNat n a L none)::(w6.wrap ((↑e:Int)+1)=↑v1.toNat)::(rq (↑n:Int))::(rq (↑a:Int))::(rq L.length)::(D=D)::pp tw p ([L=L,aa (Option.isNone (az (au tw D p) f v1.toNat n a (bu (some L)) none)) true,aa (decide (w6.wrap ((↑n:Int)*↑e)>↑a)) false,aa ((↑n:Int)==0) false,aa ((↑n:Int)==0) false]))))) ?_)
  all_goals with_reducible(repeat' first|exact dA|refine bx ?_ ?_|refine dp ?_ ?_|refine dq ?_|refine bz ?_|(delta aa;assumption))
  all_goals first|exact BC|(first|exact tv|exact tU|exact xq|exact xt))
set_option maxHeartbeats 4000000 in
theorem WU:∀(tw:Bool)(D p:Int)(f e n a:Nat)(L:LC)(hc:bK tw D p (f+1) e n a L none)(h1:0<n)(h5:n*e≤a)(hz2:(az (au tw D p) f (e+1) n a L none).isNone=false)(ih:∀e n a L o,bK tw D p f e n a L o→aP Tryz.prog EV.ng (cZ tw D p f e n a (some L) (some L) o)),aP Tryz.prog EV.ng (cZ tw D p (f+1) e n a (some L) (some L) none):=by
 refine gL ?_ ?_<;>(
  intro tw D p f e n a L hc h1 h5 hz2 ih
  have hr:=mJ hc h1 h5
  have hl2:=mK hc h1 h5
  have hs:az (au tw D p) (f+1) e n a L none=_:=jQ h1 h5
  rw[jW hz2]at hl2 hs
  obtain⟨c1,c2,c3,c4,c5,c6,c7,c8,c9⟩:=hc
  have hz:((n:Int)==0)=false:=cp.2 om
  have hy:decide (w6.wrap ((n:Int)*(e:Int))>(a:Int))=false:=nb
  have we:w6.wrap ((e:Int)+1)=((e+1:Nat):Int):=jS om
  have hk:(az (au tw D p) f (w6.wrap ((e:Int)+1)).toNat n a (bu (some L)) none).isNone=false:=ru
  refine cT (cF (cD (jP tw D p ih (se tw D p)) (cm _ _))) Tryz.func69 (bX (vT tw D p f e n a L (ab (az (au tw D p) f (e+1) n a L none)) hl2 ih)) ?_
  intro d hd
  cases d
  rotate_right
  have hd:((az (au tw D p) (f+1) e n a (bu (some L)) none).isNone)=true:=hd
  refine a8.no ?_
  rotate_right
  have hd:((az (au tw D p) (f+1) e n a (bu (some L)) none).isNone)=false:=hd
  refine lr (tp 2222) (let y5:=(↑e:Int)+1;let y1:=az (au tw D p) f (w6.wrap y5).toNat n a (bu (some L)) none;let y2:=az (au tw D p) f (e+1) n a L none;let y3:=az (au tw D p) (f+1) e n a (bu (some L)) none;let y4:=eh (au tw D p) f e n a L (some (ab y2)) (dG e n a);((rq L.length)::((ab y4).length=(ab y3).length)::(D=D)::pp tw p ((L=L)::(ab y4=ab y3)::(rq (↑e:Int))::(rq (↑n:Int))::(rq (↑a:Int))::(rq L.length)::((ab y1).length=(ab y2).length)::(D=D)::pp tw p ((L=L)::(ab y1=ab y2)::(bK tw D p f (w6.wrap y5).toNat n a L none)::(w6.wrap y5=(↑(w6.wrap y5).toNat:Int))::(rq (↑n:Int))::(rq (↑a:Int))::(rq L.length)::(D=D)::pp tw p ([L=L,aa (Option.isNone y1) false,aa (decide (w6.wrap ((↑n:Int)*↑e)>↑a)) false,aa ((↑n:Int)==0) false,aa ((↑n:Int)==0) false]))))) ?_
  all_goals with_reducible(repeat' first|exact dA|refine bx ?_ ?_|refine dp ?_ ?_|refine dq ?_|refine bz ?_|(delta aa;assumption))
  all_goals first|exact BC|(first|exact tv|exact tU|exact xq|exact xt))
set_option maxHeartbeats 4000000 in
theorem WV:∀(tw:Bool)(D p:Int)(f e n a:Nat)(L:LC)(X:LL)(hc:bK tw D p (f+1) e n a L (some X))(h1:0<n)(h5:n*e≤a)(ih:∀e n a L o,bK tw D p f e n a L o→aP Tryz.prog EV.ng (cZ tw D p f e n a (some L) (some L) o)),aP Tryz.prog EV.ng (cZ tw D p (f+1) e n a (some L) (some L) (some X)):=by
 refine gL ?_ ?_<;>(
  intro tw D p f e n a L X hc h1 h5 ih
  have hr:=mJ hc h1 h5
  have hl2:=mK hc h1 h5
  have hs:az (au tw D p) (f+1) e n a L (some X)=_:=jQ h1 h5
  rw[(o8 (p6 tw D p) f (e+1) n a L X)]at hl2 hs
  obtain⟨c1,c2,c3,c4,c5,c6,c7,c8,c9⟩:=hc
  have hz:((n:Int)==0)=false:=cp.2 om
  have hy:decide (w6.wrap ((n:Int)*(e:Int))>(a:Int))=false:=nb
  have we:w6.wrap ((e:Int)+1)=((e+1:Nat):Int):=jS om
  refine cT (cF (cD (jP tw D p ih (se tw D p)) (cm _ _))) Tryz.func69 (bX (vT tw D p f e n a L (ab (az (au tw D p) f (e+1) n a L (some X))) hl2 ih)) ?_
  intro d hd
  cases d
  ·exact Bool.noConfusion (show false=true from hd)
  ·refine lr (tp 222) (let y1:=az (au tw D p) f (e+1) n a L (some X);let y2:=w6.wrap ((↑e:Int)+1);let y3:=az (au tw D p) (f+1) e n a (bu (some L)) (some X);let y4:=az (au tw D p) f y2.toNat n a (bu (some L)) (some X);let y5:=eh (au tw D p) f e n a L (some (ab y1)) (dG e n a);((rq L.length)::((ab y5).length=(ab y3).length)::(D=D)::pp tw p ((L=L)::(ab y5=ab y3)::(rq (↑e:Int))::(rq (↑n:Int))::(rq (↑a:Int))::(rq L.length)::((ab y4).length=(ab y1).length)::(D=D)::pp tw p ((L=L)::(ab y4=ab y1)::(bK tw D p f y2.toNat n a L (some X))::(w6.wrap ((↑e:Int)+1)=↑y2.toNat)::(rq (↑n:Int))::(rq (↑a:Int))::(rq L.length)::(rq X.length)::(D=D)::pp tw p ([L=L,X=X,aa (decide (w6.wrap ((↑n:Int)*↑e)>↑a)) false,aa ((↑n:Int)==0) false,aa ((↑n:Int)==0) false]))))) ?_
   all_goals with_reducible(repeat' first|exact dA|refine bx ?_ ?_|refine dp ?_ ?_|refine dq ?_|refine bz ?_|(delta aa;assumption))
   all_goals first|exact BC|(first|exact tv|exact tU|exact BJ|exact BN))
set_option maxHeartbeats 4000000 in
abbrev oN (tw:Bool)(D:Int)(p:Int)(f:Nat)(e:Nat)(n:Nat)(a:Nat):=az (au tw D p) (f+1) e n a (bu none) none
abbrev oO (tw:Bool)(D:Int)(p:Int)(f:Nat)(e:Nat)(n:Nat)(a:Nat):=eh (au tw D p) f e n a [] none (dG e n a)
theorem WW:∀(tw:Bool)(D p:Int)(f e n a:Nat)(hc:bK tw D p (f+1) e n a [] none)(h1:0<n)(h5:n*e≤a)(hz2:(az (au tw D p) f (e+1) n a [] none).isNone=true)(hg:n*(e+1)≤a)(ih:∀e n a L o,bK tw D p f e n a L o→aP Tryz.prog EV.ng (cZ tw D p f e n a (some L) (some L) o))(ihn:∀e n a o,bK tw D p f e n a [] o→0<n∧n*e≤a→aP Tryz.prog EV.ng (cZ tw D p f e n a none (some []) o)),aP Tryz.prog EV.ng (cZ tw D p (f+1) e n a none (some []) none):=by
 refine gL ?_ ?_<;>(
  intro tw D p f e n a hc h1 h5 hz2 hg ih ihn
  have hr:=mJ hc h1 h5
  have hl2:=mK hc h1 h5
  have hs:az (au tw D p) (f+1) e n a [] none=_:=jQ h1 h5
  rw[isN hz2]at hl2 hs
  obtain⟨c1,c2,c3,c4,c5,c6,c7,c8,c9⟩:=hc
  have hz:((n:Int)==0)=false:=cp.2 om
  have hy:decide (w6.wrap ((n:Int)*(e:Int))>(a:Int))=false:=nb
  have we:w6.wrap ((e:Int)+1)=((e+1:Nat):Int):=jS om
  have hk:(az (au tw D p) f (w6.wrap ((e:Int)+1)).toNat n a (bu none) none).isNone=true:=ru
  refine cT (cF (cD (nw tw D p ihn (jP tw D p ih js)) (cm _ _))) Tryz.func69 (bX (Hx tw D p f e n a [] hl2 ih)) ?_
  intro d hd
  cases d
  rotate_right
  have hd:((az (au tw D p) (f+1) e n a (bu none) none).isNone)=true:=hd
  refine oe (Option.isNone (oO tw D p f e n a)) (fun d1=>lr (tp 22211) ((rq (0:Nat))::(D=D)::pp tw p ((([]:LC)=[])::(rq (↑e:Int))::(rq (↑n:Int))::(rq (↑a:Int))::(rq (0:Nat))::(D=D)::pp tw p ((([]:LC)=[])::(ty d1)::(bK tw D p f (w6.wrap ((↑e:Int)+1)).toNat n a [] none∧(fun e n a=>(0:Nat)<n∧n*e≤a) (w6.wrap ((↑e:Int)+1)).toNat n a)::(w6.wrap ((↑e:Int)+1)=(↑(w6.wrap ((↑e:Int)+1)).toNat:Int))::(rq (↑n:Int))::(rq (↑a:Int))::(D=D)::pp tw p ([aa (Option.isNone (az (au tw D p) f (w6.wrap ((↑e:Int)+1)).toNat n a (bu none) none)) true,aa (decide (w6.wrap ((↑n:Int)*↑e)>↑a)) false,aa ((↑n:Int)==0) false,aa ((↑n:Int)==0) false])))) ?_)
   (fun d1=>a8.no ?_)
  all_goals with_reducible(repeat' first|exact dA|refine bx ?_ ?_|refine dp ?_ ?_|refine dq ?_|refine bz ?_|(delta aa;assumption))
  rotate_right
  have hd:((az (au tw D p) (f+1) e n a (bu none) none).isNone)=false:=hd
  refine oe (Option.isNone (oO tw D p f e n a)) (fun d1=>a8.no ?_)
   (fun d1=>lr (tp 22212) ((rq (0:Nat))::((ab (oO tw D p f e n a)).length=(ab (oN tw D p f e n a)).length)::(D=D)::pp tw p ((([]:LC)=[])::(ab (oO tw D p f e n a)=ab (oN tw D p f e n a))::(rq (↑e:Int))::(rq (↑n:Int))::(rq (↑a:Int))::(rq (0:Nat))::(D=D)::pp tw p ((([]:LC)=[])::(ty d1)::(bK tw D p f (w6.wrap ((↑e:Int)+1)).toNat n a [] none∧(fun e n a=>(0:Nat)<n∧n*e≤a) (w6.wrap ((↑e:Int)+1)).toNat n a)::(w6.wrap ((↑e:Int)+1)=(↑(w6.wrap ((↑e:Int)+1)).toNat:Int))::(rq (↑n:Int))::(rq (↑a:Int))::(D=D)::pp tw p ([aa (Option.isNone (az (au tw D p) f (w6.wrap ((↑e:Int)+1)).toNat n a (bu none) none)) true,aa (decide (w6.wrap ((↑n:Int)*↑e)>↑a)) false,aa ((↑n:Int)==0) false,aa ((↑n:Int)==0) false])))) ?_)
  all_goals with_reducible(repeat' first|exact dA|refine bx ?_ ?_|refine dp ?_ ?_|refine dq ?_|refine bz ?_|(delta aa;assumption))
  all_goals first|exact rm|exact xn)
set_option maxHeartbeats 4000000 in
abbrev xU (tw:Bool)(D:Int)(p:Int)(f:Nat)(e:Nat)(n:Nat)(a:Nat):=eh (au tw D p) f e n a [] (some (ab (az (au tw D p) f (e+1) n a [] none))) (dG e n a)
theorem WX:∀(tw:Bool)(D p:Int)(f e n a:Nat)(hc:bK tw D p (f+1) e n a [] none)(h1:0<n)(h5:n*e≤a)(hz2:(az (au tw D p) f (e+1) n a [] none).isNone=false)(hg:n*(e+1)≤a)(ih:∀e n a L o,bK tw D p f e n a L o→aP Tryz.prog EV.ng (cZ tw D p f e n a (some L) (some L) o))(ihn:∀e n a o,bK tw D p f e n a [] o→0<n∧n*e≤a→aP Tryz.prog EV.ng (cZ tw D p f e n a none (some []) o)),aP Tryz.prog EV.ng (cZ tw D p (f+1) e n a none (some []) none):=by
 refine gL ?_ ?_<;>(
  intro tw D p f e n a hc h1 h5 hz2 hg ih ihn
  have hr:=mJ hc h1 h5
  have hl2:=mK hc h1 h5
  have hs:az (au tw D p) (f+1) e n a [] none=_:=jQ h1 h5
  rw[jW hz2]at hl2 hs
  obtain⟨c1,c2,c3,c4,c5,c6,c7,c8,c9⟩:=hc
  have hz:((n:Int)==0)=false:=cp.2 om
  have hy:decide (w6.wrap ((n:Int)*(e:Int))>(a:Int))=false:=nb
  have we:w6.wrap ((e:Int)+1)=((e+1:Nat):Int):=jS om
  have hk:(az (au tw D p) f (w6.wrap ((e:Int)+1)).toNat n a (bu none) none).isNone=false:=ru
  refine cT (cF (cD (nw tw D p ihn (jP tw D p ih js)) (cm _ _))) Tryz.func69 (bX (vT tw D p f e n a [] (ab (az (au tw D p) f (e+1) n a [] none)) hl2 ih)) ?_
  intro d hd
  cases d
  rotate_right
  have hd:((az (au tw D p) (f+1) e n a (bu none) none).isNone)=true:=hd
  refine a8.no ?_
  rotate_right
  have hd:((az (au tw D p) (f+1) e n a (bu none) none).isNone)=false:=hd
  refine lr (tp 2222) ((rq (0:Nat))::((ab (xU tw D p f e n a)).length=(ab (oN tw D p f e n a)).length)::(D=D)::pp tw p ((([]:LC)=[])::(ab (xU tw D p f e n a)=ab (oN tw D p f e n a))::(rq (↑e:Int))::(rq (↑n:Int))::(rq (↑a:Int))::(rq (0:Nat))::((ab (az (au tw D p) f (w6.wrap ((↑e:Int)+1)).toNat n a (bu none) none)).length=(ab (az (au tw D p) f (e+1) n a [] none)).length)::(D=D)::pp tw p ((([]:LC)=[])::(ab (az (au tw D p) f (w6.wrap ((↑e:Int)+1)).toNat n a (bu none) none)=ab (az (au tw D p) f (e+1) n a [] none))::(bK tw D p f (w6.wrap ((↑e:Int)+1)).toNat n a [] none∧(fun e n a=>(0:Nat)<n∧n*e≤a) (w6.wrap ((↑e:Int)+1)).toNat n a)::(w6.wrap ((↑e:Int)+1)=(↑(w6.wrap ((↑e:Int)+1)).toNat:Int))::(rq (↑n:Int))::(rq (↑a:Int))::(D=D)::pp tw p ([aa (Option.isNone (az (au tw D p) f (w6.wrap ((↑e:Int)+1)).toNat n a (bu none) none)) false,aa (decide (w6.wrap ((↑n:Int)*↑e)>↑a)) false,aa ((↑n:Int)==0) false,aa ((↑n:Int)==0) false])))) ?_
  all_goals with_reducible(repeat' first|exact dA|refine bx ?_ ?_|refine dp ?_ ?_|refine dq ?_|refine bz ?_|(delta aa;assumption))
  all_goals first|exact rm|exact xn)
set_option maxHeartbeats 4000000 in
abbrev xV (tw:Bool)(D:Int)(p:Int)(f:Nat)(e:Nat)(n:Nat)(a:Nat)(X:LL):=eh (au tw D p) f e n a [] (some (ab (az (au tw D p) f (e+1) n a [] (some X)))) (dG e n a)
theorem WY:∀(tw:Bool)(D p:Int)(f e n a:Nat)(X:LL)(hc:bK tw D p (f+1) e n a [] (some X))(h1:0<n)(h5:n*e≤a)(hg:n*(e+1)≤a)(ih:∀e n a L o,bK tw D p f e n a L o→aP Tryz.prog EV.ng (cZ tw D p f e n a (some L) (some L) o))(ihn:∀e n a o,bK tw D p f e n a [] o→0<n∧n*e≤a→aP Tryz.prog EV.ng (cZ tw D p f e n a none (some []) o)),aP Tryz.prog EV.ng (cZ tw D p (f+1) e n a none (some []) (some X)):=by
 refine gL ?_ ?_<;>(
  intro tw D p f e n a X hc h1 h5 hg ih ihn
  have hr:=mJ hc h1 h5
  have hl2:=mK hc h1 h5
  have hs:az (au tw D p) (f+1) e n a [] (some X)=_:=jQ h1 h5
  rw[(o8 (p6 tw D p) f (e+1) n a [] X)]at hl2 hs
  obtain⟨c1,c2,c3,c4,c5,c6,c7,c8,c9⟩:=hc
  have hz:((n:Int)==0)=false:=cp.2 om
  have hy:decide (w6.wrap ((n:Int)*(e:Int))>(a:Int))=false:=nb
  have we:w6.wrap ((e:Int)+1)=((e+1:Nat):Int):=jS om
  refine cT (cF (cD (nw tw D p ihn (jP tw D p ih js)) (cm _ _))) Tryz.func69 (bX (vT tw D p f e n a [] (ab (az (au tw D p) f (e+1) n a [] (some X))) hl2 ih)) ?_
  intro d hd
  cases d
  ·exact Bool.noConfusion (show false=true from hd)
  ·refine lr (tp 222) ((rq (0:Nat))::((ab (xV tw D p f e n a X)).length=(ab (az (au tw D p) (f+1) e n a (bu none) (some X))).length)::(D=D)::pp tw p ((([]:LC)=[])::(ab (xV tw D p f e n a X)=ab (az (au tw D p) (f+1) e n a (bu none) (some X)))::(rq (↑e:Int))::(rq (↑n:Int))::(rq (↑a:Int))::(rq (0:Nat))::((ab (az (au tw D p) f (w6.wrap ((↑e:Int)+1)).toNat n a (bu none) (some X))).length=(ab (az (au tw D p) f (e+1) n a [] (some X))).length)::(D=D)::pp tw p ((([]:LC)=[])::(ab (az (au tw D p) f (w6.wrap ((↑e:Int)+1)).toNat n a (bu none) (some X))=ab (az (au tw D p) f (e+1) n a [] (some X)))::(bK tw D p f (w6.wrap ((↑e:Int)+1)).toNat n a [] (some X)∧(fun e n a=>(0:Nat)<n∧n*e≤a) (w6.wrap ((↑e:Int)+1)).toNat n a)::(w6.wrap ((↑e:Int)+1)=(↑(w6.wrap ((↑e:Int)+1)).toNat:Int))::(rq (↑n:Int))::(rq (↑a:Int))::(rq X.length)::(D=D)::pp tw p ([X=X,aa (decide (w6.wrap ((↑n:Int)*↑e)>↑a)) false,aa ((↑n:Int)==0) false,aa ((↑n:Int)==0) false])))) ?_
   all_goals with_reducible(repeat' first|exact dA|refine bx ?_ ?_|refine dp ?_ ?_|refine dq ?_|refine bz ?_|(delta aa;assumption))
   all_goals first|exact rm|(first|exact tv|exact tU|exact BI|exact BM))
set_option maxHeartbeats 4000000 in
theorem WZ:∀(tw:Bool)(D p:Int)(f e n a:Nat)(hc:bK tw D p (f+1) e n a [] none)(h1:0<n)(h5:n*e≤a)(hz2:(az (au tw D p) f (e+1) n a [] none).isNone=true)(hg:a<n*(e+1))(ih:∀e n a L o,bK tw D p f e n a L o→aP Tryz.prog EV.ng (cZ tw D p f e n a (some L) (some L) o))(ihn:∀e n a o,bK tw D p f e n a [] o→0<n∧a<n*e→aP Tryz.prog EV.ng (cZ tw D p f e n a none none o)),aP Tryz.prog EV.ng (cZ tw D p (f+1) e n a none (some []) none):=by
 refine gL ?_ ?_<;>(
  intro tw D p f e n a hc h1 h5 hz2 hg ih ihn
  have hr:=mJ hc h1 h5
  have hl2:=mK hc h1 h5
  have hs:az (au tw D p) (f+1) e n a [] none=_:=jQ h1 h5
  rw[isN hz2]at hl2 hs
  obtain⟨c1,c2,c3,c4,c5,c6,c7,c8,c9⟩:=hc
  have hz:((n:Int)==0)=false:=cp.2 om
  have hy:decide (w6.wrap ((n:Int)*(e:Int))>(a:Int))=false:=nb
  have we:w6.wrap ((e:Int)+1)=((e+1:Nat):Int):=jS om
  have hk:(az (au tw D p) f (w6.wrap ((e:Int)+1)).toNat n a (bu none) none).isNone=true:=ru
  refine cT (cF (cD (nw tw D p ihn (jP tw D p ih js)) (cm _ _))) Tryz.func69 (bX (T8 tw D p f e n a hl2 ih)) ?_
  intro d hd
  cases d
  rotate_right
  have hd:((az (au tw D p) (f+1) e n a (bu none) none).isNone)=true:=hd
  refine oe (Option.isNone (oO tw D p f e n a)) (fun d1=>lr (tp 22211) ((rq (0:Nat))::(D=D)::pp tw p ((([]:LC)=[])::(rq (↑e:Int))::(rq (↑n:Int))::(rq (↑a:Int))::(D=D)::pp tw p ((ty d1)::(bK tw D p f (w6.wrap ((↑e:Int)+1)).toNat n a [] none∧(fun e n a=>(0:Nat)<n∧a<n*e) (w6.wrap ((↑e:Int)+1)).toNat n a)::(w6.wrap ((↑e:Int)+1)=(↑(w6.wrap ((↑e:Int)+1)).toNat:Int))::(rq (↑n:Int))::(rq (↑a:Int))::(D=D)::pp tw p ([aa (Option.isNone (az (au tw D p) f (w6.wrap ((↑e:Int)+1)).toNat n a (bu none) none)) true,aa (decide (w6.wrap ((↑n:Int)*↑e)>↑a)) false,aa ((↑n:Int)==0) false,aa ((↑n:Int)==0) false])))) ?_)
   (fun d1=>a8.no ?_)
  all_goals with_reducible(repeat' first|exact dA|refine bx ?_ ?_|refine dp ?_ ?_|refine dq ?_|refine bz ?_|(delta aa;assumption))
  rotate_right
  have hd:((az (au tw D p) (f+1) e n a (bu none) none).isNone)=false:=hd
  refine oe (Option.isNone (oO tw D p f e n a)) (fun d1=>a8.no ?_)
   (fun d1=>lr (tp 22212) ((rq (0:Nat))::((ab (oO tw D p f e n a)).length=(ab (oN tw D p f e n a)).length)::(D=D)::pp tw p ((([]:LC)=[])::(ab (oO tw D p f e n a)=ab (oN tw D p f e n a))::(rq (↑e:Int))::(rq (↑n:Int))::(rq (↑a:Int))::(D=D)::pp tw p ((ty d1)::(bK tw D p f (w6.wrap ((↑e:Int)+1)).toNat n a [] none∧(fun e n a=>(0:Nat)<n∧a<n*e) (w6.wrap ((↑e:Int)+1)).toNat n a)::(w6.wrap ((↑e:Int)+1)=(↑(w6.wrap ((↑e:Int)+1)).toNat:Int))::(rq (↑n:Int))::(rq (↑a:Int))::(D=D)::pp tw p ([aa (Option.isNone (az (au tw D p) f (w6.wrap ((↑e:Int)+1)).toNat n a (bu none) none)) true,aa (decide (w6.wrap ((↑n:Int)*↑e)>↑a)) false,aa ((↑n:Int)==0) false,aa ((↑n:Int)==0) false])))) ?_)
  all_goals with_reducible(repeat' first|exact dA|refine bx ?_ ?_|refine dp ?_ ?_|refine dq ?_|refine bz ?_|(delta aa;assumption))
  all_goals first|exact rm|exact xn)
set_option maxHeartbeats 4000000 in
theorem W0:∀(tw:Bool)(D p:Int)(f e n a:Nat)(hc:bK tw D p (f+1) e n a [] none)(h1:0<n)(h5:n*e≤a)(hz2:(az (au tw D p) f (e+1) n a [] none).isNone=false)(hg:a<n*(e+1))(ih:∀e n a L o,bK tw D p f e n a L o→aP Tryz.prog EV.ng (cZ tw D p f e n a (some L) (some L) o))(ihn:∀e n a o,bK tw D p f e n a [] o→0<n∧a<n*e→aP Tryz.prog EV.ng (cZ tw D p f e n a none none o)),aP Tryz.prog EV.ng (cZ tw D p (f+1) e n a none (some []) none):=by
 refine gL ?_ ?_<;>(
  intro tw D p f e n a hc h1 h5 hz2 hg ih ihn
  have hr:=mJ hc h1 h5
  have hl2:=mK hc h1 h5
  have hs:az (au tw D p) (f+1) e n a [] none=_:=jQ h1 h5
  rw[jW hz2]at hl2 hs
  obtain⟨c1,c2,c3,c4,c5,c6,c7,c8,c9⟩:=hc
  have hz:((n:Int)==0)=false:=cp.2 om
  have hy:decide (w6.wrap ((n:Int)*(e:Int))>(a:Int))=false:=nb
  have we:w6.wrap ((e:Int)+1)=((e+1:Nat):Int):=jS om
  have hk:(az (au tw D p) f (w6.wrap ((e:Int)+1)).toNat n a (bu none) none).isNone=false:=ru
  refine cT (cF (cD (nw tw D p ihn (jP tw D p ih js)) (cm _ _))) Tryz.func69 (bX (He tw D p f e n a (ab (az (au tw D p) f (e+1) n a [] none)) hl2 ih)) ?_
  intro d hd
  cases d
  rotate_right
  have hd:((az (au tw D p) (f+1) e n a (bu none) none).isNone)=true:=hd
  refine a8.no ?_
  rotate_right
  have hd:((az (au tw D p) (f+1) e n a (bu none) none).isNone)=false:=hd
  refine lr (tp 2222) ((rq (0:Nat))::((ab (xU tw D p f e n a)).length=(ab (oN tw D p f e n a)).length)::(D=D)::pp tw p ((([]:LC)=[])::(ab (xU tw D p f e n a)=ab (oN tw D p f e n a))::(rq (↑e:Int))::(rq (↑n:Int))::(rq (↑a:Int))::((ab (az (au tw D p) f (w6.wrap ((↑e:Int)+1)).toNat n a (bu none) none)).length=(ab (az (au tw D p) f (e+1) n a [] none)).length)::(D=D)::pp tw p ((ab (az (au tw D p) f (w6.wrap ((↑e:Int)+1)).toNat n a (bu none) none)=ab (az (au tw D p) f (e+1) n a [] none))::(bK tw D p f (w6.wrap ((↑e:Int)+1)).toNat n a [] none∧(fun e n a=>(0:Nat)<n∧a<n*e) (w6.wrap ((↑e:Int)+1)).toNat n a)::(w6.wrap ((↑e:Int)+1)=(↑(w6.wrap ((↑e:Int)+1)).toNat:Int))::(rq (↑n:Int))::(rq (↑a:Int))::(D=D)::pp tw p ([aa (Option.isNone (az (au tw D p) f (w6.wrap ((↑e:Int)+1)).toNat n a (bu none) none)) false,aa (decide (w6.wrap ((↑n:Int)*↑e)>↑a)) false,aa ((↑n:Int)==0) false,aa ((↑n:Int)==0) false])))) ?_
  all_goals with_reducible(repeat' first|exact dA|refine bx ?_ ?_|refine dp ?_ ?_|refine dq ?_|refine bz ?_|(delta aa;assumption))
  all_goals first|exact rm|exact xn)
set_option maxHeartbeats 4000000 in
theorem W4:∀(tw:Bool)(D p:Int)(f e n a:Nat)(X:LL)(hc:bK tw D p (f+1) e n a [] (some X))(h1:0<n)(h5:n*e≤a)(hg:a<n*(e+1))(ih:∀e n a L o,bK tw D p f e n a L o→aP Tryz.prog EV.ng (cZ tw D p f e n a (some L) (some L) o))(ihn:∀e n a o,bK tw D p f e n a [] o→0<n∧a<n*e→aP Tryz.prog EV.ng (cZ tw D p f e n a none none o)),aP Tryz.prog EV.ng (cZ tw D p (f+1) e n a none (some []) (some X)):=by
 refine gL ?_ ?_<;>(
  intro tw D p f e n a X hc h1 h5 hg ih ihn
  have hr:=mJ hc h1 h5
  have hl2:=mK hc h1 h5
  have hs:az (au tw D p) (f+1) e n a [] (some X)=_:=jQ h1 h5
  rw[(o8 (p6 tw D p) f (e+1) n a [] X)]at hl2 hs
  obtain⟨c1,c2,c3,c4,c5,c6,c7,c8,c9⟩:=hc
  have hz:((n:Int)==0)=false:=cp.2 om
  have hy:decide (w6.wrap ((n:Int)*(e:Int))>(a:Int))=false:=nb
  have we:w6.wrap ((e:Int)+1)=((e+1:Nat):Int):=jS om
  refine cT (cF (cD (nw tw D p ihn (jP tw D p ih js)) (cm _ _))) Tryz.func69 (bX (He tw D p f e n a (ab (az (au tw D p) f (e+1) n a [] (some X))) hl2 ih)) ?_
  intro d hd
  cases d
  ·exact Bool.noConfusion (show false=true from hd)
  ·refine lr (tp 222) ((rq (0:Nat))::((ab (xV tw D p f e n a X)).length=(ab (az (au tw D p) (f+1) e n a (bu none) (some X))).length)::(D=D)::pp tw p ((([]:LC)=[])::(ab (xV tw D p f e n a X)=ab (az (au tw D p) (f+1) e n a (bu none) (some X)))::(rq (↑e:Int))::(rq (↑n:Int))::(rq (↑a:Int))::((ab (az (au tw D p) f (w6.wrap ((↑e:Int)+1)).toNat n a (bu none) (some X))).length=(ab (az (au tw D p) f (e+1) n a [] (some X))).length)::(D=D)::pp tw p ((ab (az (au tw D p) f (w6.wrap ((↑e:Int)+1)).toNat n a (bu none) (some X))=ab (az (au tw D p) f (e+1) n a [] (some X)))::(bK tw D p f (w6.wrap ((↑e:Int)+1)).toNat n a [] (some X)∧(fun e n a=>(0:Nat)<n∧a<n*e) (w6.wrap ((↑e:Int)+1)).toNat n a)::(w6.wrap ((↑e:Int)+1)=(↑(w6.wrap ((↑e:Int)+1)).toNat:Int))::(rq (↑n:Int))::(rq (↑a:Int))::(rq X.length)::(D=D)::pp tw p ([X=X,aa (decide (w6.wrap ((↑n:Int)*↑e)>↑a)) false,aa ((↑n:Int)==0) false,aa ((↑n:Int)==0) false])))) ?_
   all_goals with_reducible(repeat' first|exact dA|refine bx ?_ ?_|refine dp ?_ ?_|refine dq ?_|refine bz ?_|(delta aa;assumption))
   all_goals first|exact rm|(first|exact tv|exact tU|exact BI|exact BM))
theorem FJ (tw:Bool)(D p:Int):∀(f e n a:Nat)(L:LC)(o:cw),bK tw D p f e n a L o→aP Tryz.prog EV.ng (cZ tw D p f e n a (some L) (some L) o)
 |0,e,n,a,L,o,hc=>absurd hc.2.1 om
 |f+1,e,n,a,L,o,hc=>by
  have ih:=FJ tw D p f
  rcases kS n with h0|h0
  ·cases o with
   |none=>exact Sm tw D p f e n a L hc h0
   |some X=>exact So tw D p f e n a L X hc h0
  ·have hcc:=hc
   obtain⟨c1,c2,c3,c4,c5,c6,c7,c8,c9⟩:=hcc
   rcases bA a (n*e)with h|h
   ·cases o with
    |none=>exact Ux tw D p f e n a L h0 om c6 c7 h
    |some X=>exact Uy tw D p f e n a L X h0 om c6 c7 h
   ·cases o with
    |none=>
     cases hz:(az (au tw D p) f (e+1) n a L none).isNone with
     |true=>exact WT tw D p f e n a L hc h0 h hz ih
     |false=>exact WU tw D p f e n a L hc h0 h hz ih
    |some X=>exact WV tw D p f e n a L X hc h0 h ih
theorem Ry (tw:Bool)(D p:Int):∀(f e n a:Nat)(o:cw),bK tw D p f e n a [] o→0<n∧a<n*e→aP Tryz.prog EV.ng (cZ tw D p f e n a none none o)
 |0,e,n,a,o,hc,_=>absurd hc.2.1 om
 |f+1,e,n,a,o,hc,h=>by
  obtain⟨c1,c2,c3,c4,c5,c6,c7,c8,c9⟩:=hc
  cases o with
  |none=>exact Uz tw D p f e n a h.1 om c6 c7 h.2
  |some X=>exact UA tw D p f e n a X h.1 om c6 c7 h.2
theorem Al (tw:Bool)(D p:Int):∀(f e n a:Nat)(o:cw),bK tw D p f e n a [] o→0<n∧n*e≤a→aP Tryz.prog EV.ng (cZ tw D p f e n a none (some []) o)
 |0,e,n,a,o,hc,_=>absurd hc.2.1 om
 |f+1,e,n,a,o,hc,h=>by
  have ih:=FJ tw D p f
  rcases bA a (n*(e+1))with hg|hg
  ·have ihn:=Ry tw D p f
   cases o with
   |none=>
    cases hz:(az (au tw D p) f (e+1) n a [] none).isNone with
    |true=>exact WZ tw D p f e n a hc h.1 h.2 hz hg ih ihn
    |false=>exact W0 tw D p f e n a hc h.1 h.2 hz hg ih ihn
   |some X=>exact W4 tw D p f e n a X hc h.1 h.2 hg ih ihn
  ·have ihn:=Al tw D p f
   cases o with
   |none=>
    cases hz:(az (au tw D p) f (e+1) n a [] none).isNone with
    |true=>exact WW tw D p f e n a hc h.1 h.2 hz hg ih ihn
    |false=>exact WX tw D p f e n a hc h.1 h.2 hz hg ih ihn
   |some X=>exact WY tw D p f e n a X hc h.1 h.2 hg ih ihn
def FV:List cq:=[
 ⟨23,[],fun A=>match A with
  |[.int .i64 d,.int .i64 p]=>some (.tup [.int .i64 ((vv p.toNat d.toNat).1:Int),.int .i64 ((vv p.toNat d.toNat).2:Int)],[2≤p∧0<d∧d≤2147483647])
  |_=>none⟩]
theorem CY:∀e∈FV,cJ Tryz.prog e:=by
 intro e he
 simp only[FV,bC,cU,cY]at he
 subst he
 intro A R ms h hm
 simp only at h
 split at h
 ·rename_i d p
  cases h
  obtain⟨h1,h2,h3⟩:=aA hm
  have:=yd d.toNat p.toNat om om om
  rw[show((d.toNat:Nat):Int)=d by omega,show((p.toNat:Nat):Int)=p by omega]at this
  exact this
 ·cases h
def tm (n d:Nat):cw:=az (eO (d:Int)) 102 0 n (vv 2 d).1 [] none
def dR (n d:Nat):LL:=ab (tm n d)
theorem A3:∀(f p n:Nat),(vG f p n).1≤f
 |0,p,n=>bp _
 |f+1,p,n=>by
  unfold vG
  cases Nat.beq (n%p) 0 with
  |true=>exact Nat.succ_le_succ (A3 f p (n/p))
  |false=>exact bQ _
theorem NT (n d:Nat)(hn:1≤n∧n≤8)(hd:0<d∧d≤10000)(hl:(dR n d).length≤50000):ax Tryz.prog [] 8 [.int .i64 (n:Int),.int .i64 (d:Int)] (iz (dR n d)):=by
 have hv:(vv 2 d).1≤40:=A3 40 2 d
 have hcc:bK true (d:Int) 0 102 0 n (vv 2 d).1 [] none:=⟨om,om,by show 0+n≤10;omega,fun _=>hn.1,fun c hc=>(nomatch hc),om,om,hl,⟨om,om⟩,fun h=>nomatch h⟩
 refine pr (cF (cD (nw true (d:Int) 0 (Al true (d:Int) 0 102) js) (eE CY))) Tryz.func8 aE ?_
 refine(let y1:List Prop:=[(2:Int)≤2∧(0:Int)<↑d∧(↑d:Int)≤2147483647];have u1:ar y1:=(?_:(2:Int)≤2∧(0:Int)<↑d∧(↑d:Int)≤2147483647);oe (Option.isNone (az (eO (↑d:Int)) (102:Nat) (Int.toNat (0:Int)) n (vv (Int.toNat (2:Int)) d).fst (bu none) none)) (fun d1=>lr [true] (let v1:=vv (Int.toNat (2:Int)) d;let v2:=Int.toNat (0:Int);((dR n d).length=0)::(bK true (↑d:Int) 0 (102:Nat) v2 n v1.fst [] none∧(fun e n a=>(0:Nat)<n∧n*e≤a) v2 n v1.fst)::((0:Int)=↑v2)::rq (↑n:Int)::rq (↑v1.fst:Int)::rq (↑d:Int)::ty d1::y1) ⟨?_,?_,?_,?_,?_,?_,d1,u1⟩)
  (fun d1=>lr [false] (let v1:=vv (Int.toNat (2:Int)) d;let v2:=Int.toNat (0:Int);let v3:=eO (↑d:Int);((ab (az v3 (102:Nat) v2 n v1.fst (bu none) none)).length=(dR n d).length∧(ab (az v3 (102:Nat) v2 n v1.fst (bu none) none)).length=(ab (az v3 (102:Nat) v2 n v1.fst (bu none) none)).length∧∀(i:Nat),i<(ab (az v3 (102:Nat) v2 n v1.fst (bu none) none)).length→(fun i=>((dR n d).getD i Loc.zero).rvs) i=ae.loc.rvs ((ab (az v3 (102:Nat) v2 n v1.fst (bu none) none)).getD i ae.loc.zero))::(bK true (↑d:Int) 0 (102:Nat) v2 n v1.fst [] none∧(fun e n a=>(0:Nat)<n∧n*e≤a) v2 n v1.fst)::((0:Int)=↑v2)::rq (↑n:Int)::rq (↑v1.fst:Int)::rq (↑d:Int)::ty d1::y1) ⟨?_,?_,?_,?_,?_,?_,d1,u1⟩))
 all_goals first|(first|exact tv|exact⟨hcc,hn.1,bQ _⟩|exact⟨de,om,om⟩|(show(ab (tm n d)).length=0;rw[show tm n d=none from isN d1];rfl)|exact uc)
end Go.Proofs.YtdbdoalefmliiaaGreatDoor.S
end
